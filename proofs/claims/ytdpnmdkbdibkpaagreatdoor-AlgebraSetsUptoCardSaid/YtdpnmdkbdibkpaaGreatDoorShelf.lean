/-
  DERIVED: THE SHELF's CONTRACTS AT THIS DUMP, IN PLAIN WORDS (tools/lay-plain.mjs out of 'TryzShelf.lean', which tools/lay-shelf.mjs wrote): THE SAME DECLARATIONS UNDER THE SAME NAMES: 'import', 'namespace', 'open', 'def', 'theorem' AND NOTHING ELSE: no command of the shelf's: FOR A HAND-IN. Each laying: the table of numbers ('.._ren') and one theorem, a field a fact of the dump's own or the kernel's comparison; each contract: ONE APPLICATION.
-/
import Derived.Shelf.SlGeneric
import Derived.Ground.SlgmProg
import Derived.Shelf.SortM.Plain
import Derived.Shelf.SortM.SortNone
import Derived.Ground.GgzProg
import Derived.Shelf.SlIterI.Nil
import Derived.Ground.SlsfProg
import Derived.Shelf.SlSortCmp.Whole1
import Derived.Shelf.Strings.OnBuilder
import Derived.Shelf.Small.Bits
import Derived.Shelf.Strings.Search3
import Derived.Shelf.Slices.Equal
import Derived.Shelf.Slices.Empties2
import Derived.Test.YtdpnmdkbdibkpaaGreatDoorProg
namespace Go.Proofs
open Go.Shelf
def Tryz.lays156_ren : Go.Shelf.Ren := ⟨fun | 156 => 124 | 165 => 150 | 166 => 151 | 169 => 152 | 240 => 162 | 241 => 163 | 276 => 178 | 277 => 179 | n => n, fun | 31 => 25 | 9 => 9 | 3 => 3 | 4 => 4 | 0 => 0 | 20 => 20 | 72 => 223 | 76 => 227 | 70 => 221 | 37 => 88 | 75 => 226 | 127 => 241 | 164 => 257 | 5 => 5 | 80 => 229 | n => n, fun | n => n⟩
theorem Tryz.lays156 : Go.Proofs.Lays.n156 Tryz.prog Tryz.lays156_ren := {
  mixed := by kernel_rfl
  f156 := Tryz.func124.trans (congrArg some (by kernel_rfl))
  f165 := Tryz.func150.trans (congrArg some (by kernel_rfl))
  f166 := Tryz.func151.trans (congrArg some (by kernel_rfl))
  f169 := Tryz.func152.trans (congrArg some (by kernel_rfl))
  f240 := Tryz.func162.trans (congrArg some (by kernel_rfl))
  f241 := Tryz.func163.trans (congrArg some (by kernel_rfl))
  f276 := Tryz.func178.trans (congrArg some (by kernel_rfl))
  f277 := Tryz.func179.trans (congrArg some (by kernel_rfl))
  t0 := Tryz.underlying0
  a0 := Tryz.isAgg0
  z0 := Tryz.sizeOf0
  v0 := Tryz.zeroValue0
  t3 := Tryz.underlying3
  a3 := Tryz.isAgg3
  z3 := Tryz.sizeOf3
  v3 := Tryz.zeroValue3
  t4 := Tryz.underlying4
  a4 := Tryz.isAgg4
  z4 := Tryz.sizeOf4
  v4 := Tryz.zeroValue4
  t9 := Tryz.underlying9
  a9 := Tryz.isAgg9
  z9 := Tryz.sizeOf9
  v9 := Tryz.zeroValue9
  t20 := Tryz.underlying20
  a20 := Tryz.isAgg20
  z20 := Tryz.sizeOf20
  v20 := Tryz.zeroValue20
  t31 := Tryz.underlying25
  a31 := Tryz.isAgg25
  z31 := Tryz.sizeOf25
  v31 := Tryz.zeroValue25
  t37 := Tryz.underlying88
  a37 := Tryz.isAgg88
  z37 := Tryz.sizeOf88
  v37 := Tryz.zeroValue88
  t70 := Tryz.underlying221
  a70 := Tryz.isAgg221
  z70 := Tryz.sizeOf221
  v70 := Tryz.zeroValue221
  t72 := Tryz.underlying223
  a72 := Tryz.isAgg223
  z72 := Tryz.sizeOf223
  v72 := Tryz.zeroValue223
  t75 := Tryz.underlying226
  a75 := Tryz.isAgg226
  z75 := Tryz.sizeOf226
  v75 := Tryz.zeroValue226
  t76 := Tryz.underlying227
  a76 := Tryz.isAgg227
  z76 := Tryz.sizeOf227
  v76 := Tryz.zeroValue227
  t127 := Tryz.underlying241
  a127 := Tryz.isAgg241
  z127 := Tryz.sizeOf241
  v127 := Tryz.zeroValue241
  t164 := Tryz.underlying257
  a164 := Tryz.isAgg257
  z164 := Tryz.sizeOf257
  v164 := Tryz.zeroValue257 }
theorem Tryz.Builder_Extra_156 : Builder.Extra Tryz.prog Tryz.lays156_ren := {
  sizeBuilder := by kernel_rfl
  liesBuilder := by kernel_rfl
  t5 := Tryz.underlying5
  a5 := Tryz.isAgg5
  z5 := Tryz.sizeOf5
  v5 := Tryz.zeroValue5
  infoByte := by kernel_rfl
  cellsByte := by kernel_rfl
  sizeByte := by kernel_rfl
  neB5 := by decide }
open Go.RowKit in
/-- No element: the empty string; the world is as it was. (Whatever the slice's address and capacity: a nil slice too.) (LAID: no walk: one application.) -/
theorem Tryz.strings_Join_none (a : Option Addr) (c : Nat) (sep : ByteArray) (w : World) :
    Calls Tryz.prog 124 #[.slice a 0 c, .string sep] w fun e w' => e = .returned (.string ⟨#[]⟩) ∧ w' = w := Any.strings_Join_none Tryz.lays156 Tryz.Builder_Extra_156 a c sep w
open Go.RowKit in
/-- strings.Join: "Join concatenates the elements of its first argument to create a single string. The separator string sep is placed between elements in the resulting string.": HOWEVER MANY ELEMENTS. Below the heap's end the world is as it was. (LAID: no walk: one application.) -/
theorem Tryz.strings_Join (bk o c : Nat) (xs : List ByteArray) (sep : ByteArray) (w : World) (hcells : ∀ (j : Nat) x, xs[j]? = some x → w.cell? ⟨bk, o + j, none⟩ = some (.string x)) (hbk : bk < w.heap.size) (hN : xs.length ≤ 140737488355328) (hcap : xs.length ≤ c) (hlen : (Lib.join (xs.map (·.data.toList)) sep.data.toList).length ≤ 140737488355328) :
    Calls Tryz.prog 124 #[.slice (some ⟨bk, o, none⟩) xs.length c, .string sep] w fun e w' => e = .returned (.string ⟨(Lib.join (xs.map (·.data.toList)) sep.data.toList).toArray⟩) ∧ Below w.heap.size w w' := Any.strings_Join Tryz.lays156 Tryz.Builder_Extra_156 bk o c xs sep w hcells hbk hN hcap hlen
def Tryz.lays125_ren : Go.Shelf.Ren := ⟨fun | 125 => 76 | 128 => 115 | 129 => 116 | n => n, fun | 46 => 130 | 3 => 3 | 51 => 156 | 53 => 65 | 4 => 4 | 5 => 5 | 9 => 9 | n => n, fun | n => n⟩
theorem Tryz.lays125 : Go.Proofs.Lays.n125 Tryz.prog Tryz.lays125_ren := {
  mixed := by kernel_rfl
  f125 := Tryz.func76.trans (congrArg some (by kernel_rfl))
  f128 := Tryz.func115.trans (congrArg some (by kernel_rfl))
  f129 := Tryz.func116.trans (congrArg some (by kernel_rfl))
  t3 := Tryz.underlying3
  a3 := Tryz.isAgg3
  z3 := Tryz.sizeOf3
  v3 := Tryz.zeroValue3
  t4 := Tryz.underlying4
  a4 := Tryz.isAgg4
  z4 := Tryz.sizeOf4
  v4 := Tryz.zeroValue4
  t5 := Tryz.underlying5
  a5 := Tryz.isAgg5
  z5 := Tryz.sizeOf5
  v5 := Tryz.zeroValue5
  t9 := Tryz.underlying9
  a9 := Tryz.isAgg9
  z9 := Tryz.sizeOf9
  v9 := Tryz.zeroValue9
  t46 := Tryz.underlying130
  a46 := Tryz.isAgg130
  z46 := Tryz.sizeOf130
  v46 := Tryz.zeroValue130
  t51 := Tryz.underlying156
  a51 := Tryz.isAgg156
  z51 := Tryz.sizeOf156
  v51 := Tryz.zeroValue156
  t53 := Tryz.underlying65
  a53 := Tryz.isAgg65
  z53 := Tryz.sizeOf65
  v53 := Tryz.zeroValue65 }
/-- bits.Len: "Len returns the minimum number of bits required to represent x; the result is 0 for x == 0.": IT RETURNS 'Lib.bitLen x'; the world is as it was. (A uint has 64 bits in the model.) ITS CALLEE bits.Len64 IS MET BY ITS OWN CONTRACT OFF THE SHELF (lay that first). (LAID: no walk: one application.) -/
theorem Tryz.bits_Len (x : Int) (w : World) (h0 : 0 ≤ x) (h1 : x ≤ 18446744073709551615) :
    Calls Tryz.prog 76 #[.int .u64 x] w fun e w' => e = .returned (.int .i64 (Lib.bitLen x.toNat)) ∧ w' = w := Any.bits_Len Tryz.lays125 x w h0 h1
def Tryz.lays143_ren : Go.Shelf.Ren := ⟨fun | 143 => 182 | 219 => 190 | 217 => 192 | 225 => 193 | 224 => 194 | 267 => 195 | 266 => 196 | 314 => 197 | n => n, fun | 9 => 9 | 3 => 3 | 4 => 4 | 5 => 5 | 46 => 130 | 146 => 276 | 51 => 156 | n => n, fun | 1 => 0 | n => n⟩
theorem Tryz.lays143 : Go.Proofs.Lays.n143 Tryz.prog Tryz.lays143_ren := {
  mixed := by kernel_rfl
  f143 := Tryz.func182.trans (congrArg some (by kernel_rfl))
  f217 := Tryz.func192.trans (congrArg some (by kernel_rfl))
  f219 := Tryz.func190.trans (congrArg some (by kernel_rfl))
  f224 := Tryz.func194.trans (congrArg some (by kernel_rfl))
  f225 := Tryz.func193.trans (congrArg some (by kernel_rfl))
  f266 := Tryz.func196.trans (congrArg some (by kernel_rfl))
  f267 := Tryz.func195.trans (congrArg some (by kernel_rfl))
  f314 := Tryz.func197.trans (congrArg some (by kernel_rfl))
  t3 := Tryz.underlying3
  a3 := Tryz.isAgg3
  z3 := Tryz.sizeOf3
  v3 := Tryz.zeroValue3
  t4 := Tryz.underlying4
  a4 := Tryz.isAgg4
  z4 := Tryz.sizeOf4
  v4 := Tryz.zeroValue4
  t5 := Tryz.underlying5
  a5 := Tryz.isAgg5
  z5 := Tryz.sizeOf5
  v5 := Tryz.zeroValue5
  t9 := Tryz.underlying9
  a9 := Tryz.isAgg9
  z9 := Tryz.sizeOf9
  v9 := Tryz.zeroValue9
  t46 := Tryz.underlying130
  a46 := Tryz.isAgg130
  z46 := Tryz.sizeOf130
  v46 := Tryz.zeroValue130
  t51 := Tryz.underlying156
  a51 := Tryz.isAgg156
  z51 := Tryz.sizeOf156
  v51 := Tryz.zeroValue156
  t146 := Tryz.underlying276
  a146 := Tryz.isAgg276
  z146 := Tryz.sizeOf276
  v146 := Tryz.zeroValue276
  g1 := by kernel_rfl }
open Go.RowKit Go.Lib in
/-- strings.Index: "Index returns the index of the first instance of substr in s, or -1 if substr is not present in s.": AT A substr OF ONE BYTE c: IT RETURNS 'Lib.indexByte s c'; the world is as it was. (LAID: no walk: one application.) -/
theorem Tryz.strings_Index_one (s : ByteArray) (c : UInt8) (w : World) :
    Calls Tryz.prog 182 #[.string s, .string ⟨#[c]⟩] w fun e w' => e = .returned (.int .i64 (Lib.indexByte s.data.toList c)) ∧ w' = w := Any.strings_Index_one Tryz.lays143 s c w
def Tryz.lays193_ren : Go.Shelf.Ren := ⟨fun | 193 => 126 | n => n, fun | 31 => 25 | 9 => 9 | 4 => 4 | 3 => 3 | 0 => 0 | n => n, fun | n => n⟩
theorem Tryz.lays193 : Go.Proofs.Lays.n193 Tryz.prog Tryz.lays193_ren := {
  mixed := by kernel_rfl
  f193 := Tryz.func126.trans (congrArg some (by kernel_rfl))
  t0 := Tryz.underlying0
  a0 := Tryz.isAgg0
  z0 := Tryz.sizeOf0
  v0 := Tryz.zeroValue0
  t3 := Tryz.underlying3
  a3 := Tryz.isAgg3
  z3 := Tryz.sizeOf3
  v3 := Tryz.zeroValue3
  t4 := Tryz.underlying4
  a4 := Tryz.isAgg4
  z4 := Tryz.sizeOf4
  v4 := Tryz.zeroValue4
  t9 := Tryz.underlying9
  a9 := Tryz.isAgg9
  z9 := Tryz.sizeOf9
  v9 := Tryz.zeroValue9
  t31 := Tryz.underlying25
  a31 := Tryz.isAgg25
  z31 := Tryz.sizeOf25
  v31 := Tryz.zeroValue25 }
open Go.RowKit Go.Lib in
/-- slices.Equal at []string: "Equal reports whether two slices are equal: the same length and all elements equal. If the lengths are different, Equal returns false. Otherwise, the elements are compared in increasing index order, and the comparison stops at the first unequal pair. Empty and nil slices are considered equal.": IT RETURNS WHETHER THE TWO LISTS OF ELEMENTS ARE ONE; the world is as it was but for the count of draws (the test 's1[i] != s2[i]' has two reads, whose order the model draws, once a round). 'xs', 'ys': what the cells behind the two addresses hold (the spare capacity too, if you have it); 'xs.take n', 'ys.take m': the elements. THE TWO SLICES MAY OVERLAP. (LAID: no walk: one application.) -/
theorem Tryz.slices_Equal_string (b1 o1 n c b2 o2 m d : Nat) (xs ys : List ByteArray) (w : World) (hx : n ≤ xs.length) (hy : m ≤ ys.length) (hbig : n ≤ 9223372036854775807) (hbig2 : m ≤ 9223372036854775807) (hc1 : ∀ j, j < xs.length → w.cell? ⟨b1, o1 + j, none⟩ = some (.string (xs.getD j ByteArray.empty))) (hc2 : ∀ j, j < ys.length → w.cell? ⟨b2, o2 + j, none⟩ = some (.string (ys.getD j ByteArray.empty))) :
    Calls Tryz.prog 126 #[.slice (some ⟨b1, o1, none⟩) n c, .slice (some ⟨b2, o2, none⟩) m d] w fun e w' => e = .returned (.bool (decide (xs.take n = ys.take m))) ∧ ∃ q, w' = w.drewN q := Any.slices_Equal_string Tryz.lays193 b1 o1 n c b2 o2 m d xs ys w hx hy hbig hbig2 hc1 hc2
open Go.RowKit Go.Lib in
/-- The same where the first is of length 0 (a nil one too): no cell is asked for. (LAID: no walk: one application.) -/
theorem Tryz.slices_Equal_string_empty (a1 a2 : Option Addr) (c m d : Nat) (w : World) (hbig2 : m ≤ 9223372036854775807) :
    Calls Tryz.prog 126 #[.slice a1 0 c, .slice a2 m d] w fun e w' => e = .returned (.bool (decide (m = 0))) ∧ w' = w := Any.slices_Equal_string_empty Tryz.lays193 a1 a2 c m d w hbig2
open Go.RowKit Go.Lib in
theorem Tryz.slices_Equal_string_lens (a1 a2 : Option Addr) (n c m d : Nat) (w : World) (hnm : n ≠ m) :
    Calls Tryz.prog 126 #[.slice a1 n c, .slice a2 m d] w fun e w' => e = .returned (.bool false) ∧ w' = w := Any.slices_Equal_string_lens Tryz.lays193 a1 a2 n c m d w hnm
def Tryz.laysSF_ren : Go.Shelf.Ren := ⟨fun | 6 => 42 | 15 => 76 | 14 => 75 | 28 => 115 | 29 => 116 | 20 => 107 | 21 => 108 | 22 => 109 | 23 => 110 | 24 => 111 | 25 => 112 | 26 => 113 | 27 => 114 | 46 => 140 | 47 => 141 | 48 => 142 | 49 => 143 | 50 => 144 | 57 => 161 | n => n, fun | 22 => 67 | 24 => 28 | 25 => 94 | 3 => 3 | 39 => 130 | 0 => 0 | 53 => 156 | 55 => 65 | 4 => 4 | 46 => 178 | 45 => 177 | 50 => 145 | 5 => 5 | 9 => 9 | 66 => 208 | 70 => 212 | 76 => 239 | 77 => 125 | n => n, fun | n => n⟩
theorem Tryz.laysSF : Go.Proofs.SlLaysF.n6 Tryz.prog Tryz.laysSF_ren := {
  mixed := by kernel_rfl
  f6 := ⟨Tryz.f42.name, by decide, Tryz.func42.trans (congrArg some (by kernel_rfl))⟩
  f14 := ⟨Tryz.f75.name, by decide, Tryz.func75.trans (congrArg some (by kernel_rfl))⟩
  f15 := Tryz.func76.trans (congrArg some (by kernel_rfl))
  f20 := ⟨Tryz.f107.name, by decide, Tryz.func107.trans (congrArg some (by kernel_rfl))⟩
  f21 := ⟨Tryz.f108.name, by decide, Tryz.func108.trans (congrArg some (by kernel_rfl))⟩
  f22 := ⟨Tryz.f109.name, by decide, Tryz.func109.trans (congrArg some (by kernel_rfl))⟩
  f23 := ⟨Tryz.f110.name, by decide, Tryz.func110.trans (congrArg some (by kernel_rfl))⟩
  f24 := ⟨Tryz.f111.name, by decide, Tryz.func111.trans (congrArg some (by kernel_rfl))⟩
  f25 := ⟨Tryz.f112.name, by decide, Tryz.func112.trans (congrArg some (by kernel_rfl))⟩
  f26 := ⟨Tryz.f113.name, by decide, Tryz.func113.trans (congrArg some (by kernel_rfl))⟩
  f27 := ⟨Tryz.f114.name, by decide, Tryz.func114.trans (congrArg some (by kernel_rfl))⟩
  f28 := Tryz.func115.trans (congrArg some (by kernel_rfl))
  f29 := Tryz.func116.trans (congrArg some (by kernel_rfl))
  f46 := ⟨Tryz.f140.name, by decide, Tryz.func140.trans (congrArg some (by kernel_rfl))⟩
  f47 := Tryz.func141.trans (congrArg some (by kernel_rfl))
  f48 := Tryz.func142.trans (congrArg some (by kernel_rfl))
  f49 := ⟨Tryz.f143.name, by decide, Tryz.func143.trans (congrArg some (by kernel_rfl))⟩
  f50 := ⟨Tryz.f144.name, by decide, Tryz.func144.trans (congrArg some (by kernel_rfl))⟩
  f57 := ⟨Tryz.f161.name, by decide, Tryz.func161.trans (congrArg some (by kernel_rfl))⟩
  t0 := Tryz.underlying0
  a0 := Tryz.isAgg0
  z0 := Tryz.sizeOf0
  v0 := Tryz.zeroValue0
  t3 := Tryz.underlying3
  a3 := Tryz.isAgg3
  z3 := Tryz.sizeOf3
  v3 := Tryz.zeroValue3
  t4 := Tryz.underlying4
  a4 := Tryz.isAgg4
  z4 := Tryz.sizeOf4
  v4 := Tryz.zeroValue4
  t5 := Tryz.underlying5
  a5 := Tryz.isAgg5
  z5 := Tryz.sizeOf5
  v5 := Tryz.zeroValue5
  t9 := Tryz.underlying9
  a9 := Tryz.isAgg9
  z9 := Tryz.sizeOf9
  v9 := Tryz.zeroValue9
  t22 := Tryz.underlying67
  a22 := Tryz.isAgg67
  z22 := Tryz.sizeOf67
  v22 := Tryz.zeroValue67
  a24 := Tryz.isAgg28
  z24 := Tryz.sizeOf28
  t25 := Tryz.underlying94
  a25 := Tryz.isAgg94
  z25 := Tryz.sizeOf94
  v25 := Tryz.zeroValue94
  t39 := Tryz.underlying130
  a39 := Tryz.isAgg130
  z39 := Tryz.sizeOf130
  v39 := Tryz.zeroValue130
  t45 := Tryz.underlying177
  a45 := Tryz.isAgg177
  z45 := Tryz.sizeOf177
  v45 := Tryz.zeroValue177
  t46 := Tryz.underlying178
  a46 := Tryz.isAgg178
  z46 := Tryz.sizeOf178
  v46 := Tryz.zeroValue178
  t50 := Tryz.underlying145
  a50 := Tryz.isAgg145
  z50 := Tryz.sizeOf145
  v50 := Tryz.zeroValue145
  t53 := Tryz.underlying156
  a53 := Tryz.isAgg156
  z53 := Tryz.sizeOf156
  v53 := Tryz.zeroValue156
  t55 := Tryz.underlying65
  a55 := Tryz.isAgg65
  z55 := Tryz.sizeOf65
  v55 := Tryz.zeroValue65
  t66 := Tryz.underlying208
  a66 := Tryz.isAgg208
  z66 := Tryz.sizeOf208
  v66 := Tryz.zeroValue208
  t70 := Tryz.underlying212
  a70 := Tryz.isAgg212
  z70 := Tryz.sizeOf212
  v70 := Tryz.zeroValue212
  t76 := Tryz.underlying239
  a76 := Tryz.isAgg239
  z76 := Tryz.sizeOf239
  v76 := Tryz.zeroValue239
  t77 := Tryz.underlying125
  a77 := Tryz.isAgg125
  z77 := Tryz.sizeOf125
  v77 := Tryz.zeroValue125 }
def Tryz.keysA_ren : Go.Shelf.Ren := ⟨fun | 7 => 99 | 10 => 133 | n => n, fun | 23 => 113 | 26 => 3 | 3 => 32 | 28 => 164 | 0 => 0 | 27 => 163 | 33 => 85 | 4 => 4 | n => n, fun | n => n⟩
theorem Tryz.keysA : Go.Proofs.SlLaysZI.n7 Tryz.prog Tryz.keysA_ren := {
  mixed := by kernel_rfl
  f7 := ⟨Tryz.f99.name, by decide, Tryz.func99.trans (congrArg some (by kernel_rfl))⟩
  f10 := ⟨Tryz.f133.name, by decide, Tryz.func133.trans (congrArg some (by kernel_rfl))⟩
  t0 := Tryz.underlying0
  a0 := Tryz.isAgg0
  z0 := Tryz.sizeOf0
  v0 := Tryz.zeroValue0
  t4 := Tryz.underlying4
  a4 := Tryz.isAgg4
  z4 := Tryz.sizeOf4
  v4 := Tryz.zeroValue4
  t23 := Tryz.underlying113
  a23 := Tryz.isAgg113
  z23 := Tryz.sizeOf113
  v23 := Tryz.zeroValue113
  t26 := Tryz.underlying3
  a26 := Tryz.isAgg3
  z26 := Tryz.sizeOf3
  v26 := Tryz.zeroValue3
  t27 := Tryz.underlying163
  a27 := Tryz.isAgg163
  z27 := Tryz.sizeOf163
  v27 := Tryz.zeroValue163
  t28 := Tryz.underlying164
  a28 := Tryz.isAgg164
  z28 := Tryz.sizeOf164
  v28 := Tryz.zeroValue164
  t33 := Tryz.underlying85
  a33 := Tryz.isAgg85
  z33 := Tryz.sizeOf85
  v33 := Tryz.zeroValue85 }
def Tryz.sortedA_ren : Go.Shelf.Ren := ⟨fun | 6 => 98 | 8 => 131 | 9 => 132 | 11 => 158 | 13 => 76 | 12 => 159 | 23 => 115 | 24 => 116 | 14 => 169 | 15 => 170 | 16 => 171 | 17 => 172 | 18 => 173 | 19 => 174 | 20 => 175 | 21 => 176 | 22 => 177 | 25 => 186 | 26 => 141 | 27 => 142 | 28 => 187 | 29 => 188 | 30 => 117 | 31 => 191 | n => n, fun | 26 => 3 | 28 => 164 | 24 => 28 | 0 => 0 | 3 => 3 | 37 => 130 | 48 => 156 | 50 => 65 | 4 => 4 | 40 => 178 | 39 => 177 | 45 => 145 | 5 => 5 | 9 => 9 | 51 => 208 | 55 => 212 | 57 => 239 | 58 => 125 | 33 => 85 | n => n, fun | n => n⟩
theorem Tryz.sortedA : Go.Proofs.SlLaysZI.n6 Tryz.prog Tryz.sortedA_ren := {
  mixed := by kernel_rfl
  f6 := ⟨Tryz.f98.name, by decide, Tryz.func98.trans (congrArg some (by kernel_rfl))⟩
  f8 := ⟨Tryz.f131.name, by decide, Tryz.func131.trans (congrArg some (by kernel_rfl))⟩
  f11 := ⟨Tryz.f158.name, by decide, Tryz.func158.trans (congrArg some (by kernel_rfl))⟩
  t0 := Tryz.underlying0
  a0 := Tryz.isAgg0
  z0 := Tryz.sizeOf0
  v0 := Tryz.zeroValue0
  t24 := Tryz.underlying28
  a24 := Tryz.isAgg28
  z24 := Tryz.sizeOf28
  v24 := Tryz.zeroValue28
  t26 := Tryz.underlying3
  a26 := Tryz.isAgg3
  z26 := Tryz.sizeOf3
  v26 := Tryz.zeroValue3
  t28 := Tryz.underlying164
  a28 := Tryz.isAgg164
  z28 := Tryz.sizeOf164
  v28 := Tryz.zeroValue164
  i26 := by kernel_rfl }
def Tryz.sortA_ren : Go.Shelf.Ren := ⟨fun | 5 => 132 | 8 => 76 | 7 => 159 | 19 => 115 | 20 => 116 | 10 => 169 | 11 => 170 | 12 => 171 | 13 => 172 | 14 => 173 | 15 => 174 | 16 => 175 | 17 => 176 | 18 => 177 | 30 => 186 | 31 => 141 | 32 => 142 | 33 => 187 | 34 => 188 | 35 => 117 | 40 => 191 | n => n, fun | 23 => 28 | 25 => 3 | 3 => 3 | 32 => 130 | 22 => 28 | 0 => 0 | 44 => 156 | 46 => 65 | 4 => 4 | 36 => 178 | 35 => 177 | 41 => 145 | 5 => 5 | 9 => 9 | 53 => 208 | 57 => 212 | 63 => 239 | 64 => 125 | n => n, fun | n => n⟩
theorem Tryz.sortA : Go.Proofs.SlLaysM.n5 Tryz.prog Tryz.sortA_ren := {
  mixed := by kernel_rfl
  f5 := ⟨Tryz.f132.name, by decide, Tryz.func132.trans (congrArg some (by kernel_rfl))⟩
  f7 := ⟨Tryz.f159.name, by decide, Tryz.func159.trans (congrArg some (by kernel_rfl))⟩
  f8 := Tryz.func76.trans (congrArg some (by kernel_rfl))
  f10 := ⟨Tryz.f169.name, by decide, Tryz.func169.trans (congrArg some (by kernel_rfl))⟩
  f11 := ⟨Tryz.f170.name, by decide, Tryz.func170.trans (congrArg some (by kernel_rfl))⟩
  f12 := ⟨Tryz.f171.name, by decide, Tryz.func171.trans (congrArg some (by kernel_rfl))⟩
  f13 := ⟨Tryz.f172.name, by decide, Tryz.func172.trans (congrArg some (by kernel_rfl))⟩
  f14 := ⟨Tryz.f173.name, by decide, Tryz.func173.trans (congrArg some (by kernel_rfl))⟩
  f15 := ⟨Tryz.f174.name, by decide, Tryz.func174.trans (congrArg some (by kernel_rfl))⟩
  f16 := ⟨Tryz.f175.name, by decide, Tryz.func175.trans (congrArg some (by kernel_rfl))⟩
  f17 := ⟨Tryz.f176.name, by decide, Tryz.func176.trans (congrArg some (by kernel_rfl))⟩
  f18 := ⟨Tryz.f177.name, by decide, Tryz.func177.trans (congrArg some (by kernel_rfl))⟩
  f19 := Tryz.func115.trans (congrArg some (by kernel_rfl))
  f20 := Tryz.func116.trans (congrArg some (by kernel_rfl))
  f30 := ⟨Tryz.f186.name, by decide, Tryz.func186.trans (congrArg some (by kernel_rfl))⟩
  f31 := Tryz.func141.trans (congrArg some (by kernel_rfl))
  f32 := Tryz.func142.trans (congrArg some (by kernel_rfl))
  f33 := ⟨Tryz.f187.name, by decide, Tryz.func187.trans (congrArg some (by kernel_rfl))⟩
  f34 := ⟨Tryz.f188.name, by decide, Tryz.func188.trans (congrArg some (by kernel_rfl))⟩
  f35 := ⟨Tryz.f117.name, by decide, Tryz.func117.trans (congrArg some (by kernel_rfl))⟩
  f40 := ⟨Tryz.f191.name, by decide, Tryz.func191.trans (congrArg some (by kernel_rfl))⟩
  t0 := Tryz.underlying0
  a0 := Tryz.isAgg0
  z0 := Tryz.sizeOf0
  v0 := Tryz.zeroValue0
  t3 := Tryz.underlying3
  a3 := Tryz.isAgg3
  z3 := Tryz.sizeOf3
  v3 := Tryz.zeroValue3
  t4 := Tryz.underlying4
  a4 := Tryz.isAgg4
  z4 := Tryz.sizeOf4
  v4 := Tryz.zeroValue4
  t5 := Tryz.underlying5
  a5 := Tryz.isAgg5
  z5 := Tryz.sizeOf5
  v5 := Tryz.zeroValue5
  t9 := Tryz.underlying9
  a9 := Tryz.isAgg9
  z9 := Tryz.sizeOf9
  v9 := Tryz.zeroValue9
  t22 := Tryz.underlying28
  a22 := Tryz.isAgg28
  z22 := Tryz.sizeOf28
  v22 := Tryz.zeroValue28
  t23 := Tryz.underlying28
  a23 := Tryz.isAgg28
  z23 := Tryz.sizeOf28
  v23 := Tryz.zeroValue28
  t25 := Tryz.underlying3
  a25 := Tryz.isAgg3
  z25 := Tryz.sizeOf3
  v25 := Tryz.zeroValue3
  t32 := Tryz.underlying130
  a32 := Tryz.isAgg130
  z32 := Tryz.sizeOf130
  v32 := Tryz.zeroValue130
  t35 := Tryz.underlying177
  a35 := Tryz.isAgg177
  z35 := Tryz.sizeOf177
  v35 := Tryz.zeroValue177
  t36 := Tryz.underlying178
  a36 := Tryz.isAgg178
  z36 := Tryz.sizeOf178
  v36 := Tryz.zeroValue178
  t41 := Tryz.underlying145
  a41 := Tryz.isAgg145
  z41 := Tryz.sizeOf145
  v41 := Tryz.zeroValue145
  t44 := Tryz.underlying156
  a44 := Tryz.isAgg156
  z44 := Tryz.sizeOf156
  v44 := Tryz.zeroValue156
  t46 := Tryz.underlying65
  a46 := Tryz.isAgg65
  z46 := Tryz.sizeOf65
  v46 := Tryz.zeroValue65
  t53 := Tryz.underlying208
  a53 := Tryz.isAgg208
  z53 := Tryz.sizeOf208
  v53 := Tryz.zeroValue208
  t57 := Tryz.underlying212
  a57 := Tryz.isAgg212
  z57 := Tryz.sizeOf212
  v57 := Tryz.zeroValue212
  t63 := Tryz.underlying239
  a63 := Tryz.isAgg239
  z63 := Tryz.sizeOf239
  v63 := Tryz.zeroValue239
  t64 := Tryz.underlying125
  a64 := Tryz.isAgg125
  z64 := Tryz.sizeOf125
  v64 := Tryz.zeroValue125 }
end Go.Proofs
