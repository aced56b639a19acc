/-
  DERIVED: THE SHELF's CONTRACTS AT THIS DUMP, IN PLAIN WORDS (tools/lay-plain.mjs out of 'TryzShelf.lean', which tools/lay-shelf.mjs wrote): THE SAME DECLARATIONS UNDER THE SAME NAMES: 'import', 'namespace', 'open', 'def', 'theorem' AND NOTHING ELSE: no command of the shelf's: FOR A HAND-IN. Each laying: the table of numbers ('.._ren') and one theorem, a field a fact of the dump's own or the kernel's comparison; each contract: ONE APPLICATION.
-/
import Derived.Shelf.SlGeneric
import Derived.Ground.SlsfProg
import Derived.Shelf.SlSortCmp.Whole1
import Derived.Shelf.Strings.OnBuilder
import Derived.Shelf.Small.Bits
import Derived.Shelf.Strings.Search3
import Derived.Shelf.Slices.Equal
import Derived.Shelf.Slices.Empties2
import Derived.Test.YtfimpmennkfjcaaGreatDoorProg
namespace Go.Proofs
open Go.Shelf
def Tryz.lays156_ren : Go.Shelf.Ren := ⟨fun | 156 => 129 | 165 => 159 | 166 => 160 | 169 => 161 | 240 => 193 | 241 => 194 | 276 => 208 | 277 => 209 | n => n, fun | 31 => 25 | 9 => 9 | 3 => 3 | 4 => 4 | 0 => 0 | 20 => 20 | 72 => 237 | 76 => 241 | 70 => 235 | 37 => 24 | 75 => 240 | 127 => 278 | 164 => 289 | 5 => 5 | 80 => 243 | n => n, fun | n => n⟩
theorem Tryz.lays156 : Go.Proofs.Lays.n156 Tryz.prog Tryz.lays156_ren := {
  mixed := by kernel_rfl
  f156 := Tryz.func129.trans (congrArg some (by kernel_rfl))
  f165 := Tryz.func159.trans (congrArg some (by kernel_rfl))
  f166 := Tryz.func160.trans (congrArg some (by kernel_rfl))
  f169 := Tryz.func161.trans (congrArg some (by kernel_rfl))
  f240 := Tryz.func193.trans (congrArg some (by kernel_rfl))
  f241 := Tryz.func194.trans (congrArg some (by kernel_rfl))
  f276 := Tryz.func208.trans (congrArg some (by kernel_rfl))
  f277 := Tryz.func209.trans (congrArg some (by kernel_rfl))
  t0 := Tryz.underlying0
  a0 := Tryz.isAgg0
  z0 := Tryz.sizeOf0
  v0 := Tryz.zeroValue0
  t3 := Tryz.underlying3
  a3 := Tryz.isAgg3
  z3 := Tryz.sizeOf3
  v3 := Tryz.zeroValue3
  t4 := Tryz.underlying4
  a4 := Tryz.isAgg4
  z4 := Tryz.sizeOf4
  v4 := Tryz.zeroValue4
  t9 := Tryz.underlying9
  a9 := Tryz.isAgg9
  z9 := Tryz.sizeOf9
  v9 := Tryz.zeroValue9
  t20 := Tryz.underlying20
  a20 := Tryz.isAgg20
  z20 := Tryz.sizeOf20
  v20 := Tryz.zeroValue20
  t31 := Tryz.underlying25
  a31 := Tryz.isAgg25
  z31 := Tryz.sizeOf25
  v31 := Tryz.zeroValue25
  t37 := Tryz.underlying24
  a37 := Tryz.isAgg24
  z37 := Tryz.sizeOf24
  v37 := Tryz.zeroValue24
  t70 := Tryz.underlying235
  a70 := Tryz.isAgg235
  z70 := Tryz.sizeOf235
  v70 := Tryz.zeroValue235
  t72 := Tryz.underlying237
  a72 := Tryz.isAgg237
  z72 := Tryz.sizeOf237
  v72 := Tryz.zeroValue237
  t75 := Tryz.underlying240
  a75 := Tryz.isAgg240
  z75 := Tryz.sizeOf240
  v75 := Tryz.zeroValue240
  t76 := Tryz.underlying241
  a76 := Tryz.isAgg241
  z76 := Tryz.sizeOf241
  v76 := Tryz.zeroValue241
  t127 := Tryz.underlying278
  a127 := Tryz.isAgg278
  z127 := Tryz.sizeOf278
  v127 := Tryz.zeroValue278
  t164 := Tryz.underlying289
  a164 := Tryz.isAgg289
  z164 := Tryz.sizeOf289
  v164 := Tryz.zeroValue289 }
theorem Tryz.Builder_Extra_156 : Builder.Extra Tryz.prog Tryz.lays156_ren := {
  sizeBuilder := by kernel_rfl
  liesBuilder := by kernel_rfl
  t5 := Tryz.underlying5
  a5 := Tryz.isAgg5
  z5 := Tryz.sizeOf5
  v5 := Tryz.zeroValue5
  infoByte := by kernel_rfl
  cellsByte := by kernel_rfl
  sizeByte := by kernel_rfl
  neB5 := by decide }
open Go.RowKit in
/-- No element: the empty string; the world is as it was. (Whatever the slice's address and capacity: a nil slice too.) (LAID: no walk: one application.) -/
theorem Tryz.strings_Join_none (a : Option Addr) (c : Nat) (sep : ByteArray) (w : World) :
    Calls Tryz.prog 129 #[.slice a 0 c, .string sep] w fun e w' => e = .returned (.string ⟨#[]⟩) ∧ w' = w := Any.strings_Join_none Tryz.lays156 Tryz.Builder_Extra_156 a c sep w
open Go.RowKit in
/-- strings.Join: "Join concatenates the elements of its first argument to create a single string. The separator string sep is placed between elements in the resulting string.": HOWEVER MANY ELEMENTS. Below the heap's end the world is as it was. (LAID: no walk: one application.) -/
theorem Tryz.strings_Join (bk o c : Nat) (xs : List ByteArray) (sep : ByteArray) (w : World) (hcells : ∀ (j : Nat) x, xs[j]? = some x → w.cell? ⟨bk, o + j, none⟩ = some (.string x)) (hbk : bk < w.heap.size) (hN : xs.length ≤ 140737488355328) (hcap : xs.length ≤ c) (hlen : (Lib.join (xs.map (·.data.toList)) sep.data.toList).length ≤ 140737488355328) :
    Calls Tryz.prog 129 #[.slice (some ⟨bk, o, none⟩) xs.length c, .string sep] w fun e w' => e = .returned (.string ⟨(Lib.join (xs.map (·.data.toList)) sep.data.toList).toArray⟩) ∧ Below w.heap.size w w' := Any.strings_Join Tryz.lays156 Tryz.Builder_Extra_156 bk o c xs sep w hcells hbk hN hcap hlen
def Tryz.lays125_ren : Go.Shelf.Ren := ⟨fun | 125 => 158 | 128 => 191 | 129 => 192 | n => n, fun | 46 => 209 | 3 => 3 | 51 => 267 | 53 => 86 | 4 => 4 | 5 => 5 | 9 => 9 | n => n, fun | n => n⟩
theorem Tryz.lays125 : Go.Proofs.Lays.n125 Tryz.prog Tryz.lays125_ren := {
  mixed := by kernel_rfl
  f125 := Tryz.func158.trans (congrArg some (by kernel_rfl))
  f128 := Tryz.func191.trans (congrArg some (by kernel_rfl))
  f129 := Tryz.func192.trans (congrArg some (by kernel_rfl))
  t3 := Tryz.underlying3
  a3 := Tryz.isAgg3
  z3 := Tryz.sizeOf3
  v3 := Tryz.zeroValue3
  t4 := Tryz.underlying4
  a4 := Tryz.isAgg4
  z4 := Tryz.sizeOf4
  v4 := Tryz.zeroValue4
  t5 := Tryz.underlying5
  a5 := Tryz.isAgg5
  z5 := Tryz.sizeOf5
  v5 := Tryz.zeroValue5
  t9 := Tryz.underlying9
  a9 := Tryz.isAgg9
  z9 := Tryz.sizeOf9
  v9 := Tryz.zeroValue9
  t46 := Tryz.underlying209
  a46 := Tryz.isAgg209
  z46 := Tryz.sizeOf209
  v46 := Tryz.zeroValue209
  t51 := Tryz.underlying267
  a51 := Tryz.isAgg267
  z51 := Tryz.sizeOf267
  v51 := Tryz.zeroValue267
  t53 := Tryz.underlying86
  a53 := Tryz.isAgg86
  z53 := Tryz.sizeOf86
  v53 := Tryz.zeroValue86 }
/-- bits.Len: "Len returns the minimum number of bits required to represent x; the result is 0 for x == 0.": IT RETURNS 'Lib.bitLen x'; the world is as it was. (A uint has 64 bits in the model.) ITS CALLEE bits.Len64 IS MET BY ITS OWN CONTRACT OFF THE SHELF (lay that first). (LAID: no walk: one application.) -/
theorem Tryz.bits_Len (x : Int) (w : World) (h0 : 0 ≤ x) (h1 : x ≤ 18446744073709551615) :
    Calls Tryz.prog 158 #[.int .u64 x] w fun e w' => e = .returned (.int .i64 (Lib.bitLen x.toNat)) ∧ w' = w := Any.bits_Len Tryz.lays125 x w h0 h1
def Tryz.lays143_ren : Go.Shelf.Ren := ⟨fun | 143 => 171 | 219 => 198 | 217 => 210 | 225 => 211 | 224 => 212 | 267 => 213 | 266 => 217 | 314 => 218 | n => n, fun | 9 => 9 | 3 => 3 | 4 => 4 | 5 => 5 | 46 => 209 | 146 => 298 | 51 => 267 | n => n, fun | 1 => 2 | n => n⟩
theorem Tryz.lays143 : Go.Proofs.Lays.n143 Tryz.prog Tryz.lays143_ren := {
  mixed := by kernel_rfl
  f143 := Tryz.func171.trans (congrArg some (by kernel_rfl))
  f217 := Tryz.func210.trans (congrArg some (by kernel_rfl))
  f219 := Tryz.func198.trans (congrArg some (by kernel_rfl))
  f224 := Tryz.func212.trans (congrArg some (by kernel_rfl))
  f225 := Tryz.func211.trans (congrArg some (by kernel_rfl))
  f266 := Tryz.func217.trans (congrArg some (by kernel_rfl))
  f267 := Tryz.func213.trans (congrArg some (by kernel_rfl))
  f314 := Tryz.func218.trans (congrArg some (by kernel_rfl))
  t3 := Tryz.underlying3
  a3 := Tryz.isAgg3
  z3 := Tryz.sizeOf3
  v3 := Tryz.zeroValue3
  t4 := Tryz.underlying4
  a4 := Tryz.isAgg4
  z4 := Tryz.sizeOf4
  v4 := Tryz.zeroValue4
  t5 := Tryz.underlying5
  a5 := Tryz.isAgg5
  z5 := Tryz.sizeOf5
  v5 := Tryz.zeroValue5
  t9 := Tryz.underlying9
  a9 := Tryz.isAgg9
  z9 := Tryz.sizeOf9
  v9 := Tryz.zeroValue9
  t46 := Tryz.underlying209
  a46 := Tryz.isAgg209
  z46 := Tryz.sizeOf209
  v46 := Tryz.zeroValue209
  t51 := Tryz.underlying267
  a51 := Tryz.isAgg267
  z51 := Tryz.sizeOf267
  v51 := Tryz.zeroValue267
  t146 := Tryz.underlying298
  a146 := Tryz.isAgg298
  z146 := Tryz.sizeOf298
  v146 := Tryz.zeroValue298
  g1 := by kernel_rfl }
open Go.RowKit Go.Lib in
/-- strings.Index: "Index returns the index of the first instance of substr in s, or -1 if substr is not present in s.": AT A substr OF ONE BYTE c: IT RETURNS 'Lib.indexByte s c'; the world is as it was. (LAID: no walk: one application.) -/
theorem Tryz.strings_Index_one (s : ByteArray) (c : UInt8) (w : World) :
    Calls Tryz.prog 171 #[.string s, .string ⟨#[c]⟩] w fun e w' => e = .returned (.int .i64 (Lib.indexByte s.data.toList c)) ∧ w' = w := Any.strings_Index_one Tryz.lays143 s c w
def Tryz.lays193_ren : Go.Shelf.Ren := ⟨fun | 193 => 130 | n => n, fun | 31 => 25 | 9 => 9 | 4 => 4 | 3 => 3 | 0 => 0 | n => n, fun | n => n⟩
theorem Tryz.lays193 : Go.Proofs.Lays.n193 Tryz.prog Tryz.lays193_ren := {
  mixed := by kernel_rfl
  f193 := Tryz.func130.trans (congrArg some (by kernel_rfl))
  t0 := Tryz.underlying0
  a0 := Tryz.isAgg0
  z0 := Tryz.sizeOf0
  v0 := Tryz.zeroValue0
  t3 := Tryz.underlying3
  a3 := Tryz.isAgg3
  z3 := Tryz.sizeOf3
  v3 := Tryz.zeroValue3
  t4 := Tryz.underlying4
  a4 := Tryz.isAgg4
  z4 := Tryz.sizeOf4
  v4 := Tryz.zeroValue4
  t9 := Tryz.underlying9
  a9 := Tryz.isAgg9
  z9 := Tryz.sizeOf9
  v9 := Tryz.zeroValue9
  t31 := Tryz.underlying25
  a31 := Tryz.isAgg25
  z31 := Tryz.sizeOf25
  v31 := Tryz.zeroValue25 }
open Go.RowKit Go.Lib in
/-- slices.Equal at []string: "Equal reports whether two slices are equal: the same length and all elements equal. If the lengths are different, Equal returns false. Otherwise, the elements are compared in increasing index order, and the comparison stops at the first unequal pair. Empty and nil slices are considered equal.": IT RETURNS WHETHER THE TWO LISTS OF ELEMENTS ARE ONE; the world is as it was but for the count of draws (the test 's1[i] != s2[i]' has two reads, whose order the model draws, once a round). 'xs', 'ys': what the cells behind the two addresses hold (the spare capacity too, if you have it); 'xs.take n', 'ys.take m': the elements. THE TWO SLICES MAY OVERLAP. (LAID: no walk: one application.) -/
theorem Tryz.slices_Equal_string (b1 o1 n c b2 o2 m d : Nat) (xs ys : List ByteArray) (w : World) (hx : n ≤ xs.length) (hy : m ≤ ys.length) (hbig : n ≤ 9223372036854775807) (hbig2 : m ≤ 9223372036854775807) (hc1 : ∀ j, j < xs.length → w.cell? ⟨b1, o1 + j, none⟩ = some (.string (xs.getD j ByteArray.empty))) (hc2 : ∀ j, j < ys.length → w.cell? ⟨b2, o2 + j, none⟩ = some (.string (ys.getD j ByteArray.empty))) :
    Calls Tryz.prog 130 #[.slice (some ⟨b1, o1, none⟩) n c, .slice (some ⟨b2, o2, none⟩) m d] w fun e w' => e = .returned (.bool (decide (xs.take n = ys.take m))) ∧ ∃ q, w' = w.drewN q := Any.slices_Equal_string Tryz.lays193 b1 o1 n c b2 o2 m d xs ys w hx hy hbig hbig2 hc1 hc2
open Go.RowKit Go.Lib in
/-- The same where the first is of length 0 (a nil one too): no cell is asked for. (LAID: no walk: one application.) -/
theorem Tryz.slices_Equal_string_empty (a1 a2 : Option Addr) (c m d : Nat) (w : World) (hbig2 : m ≤ 9223372036854775807) :
    Calls Tryz.prog 130 #[.slice a1 0 c, .slice a2 m d] w fun e w' => e = .returned (.bool (decide (m = 0))) ∧ w' = w := Any.slices_Equal_string_empty Tryz.lays193 a1 a2 c m d w hbig2
open Go.RowKit Go.Lib in
theorem Tryz.slices_Equal_string_lens (a1 a2 : Option Addr) (n c m d : Nat) (w : World) (hnm : n ≠ m) :
    Calls Tryz.prog 130 #[.slice a1 n c, .slice a2 m d] w fun e w' => e = .returned (.bool false) ∧ w' = w := Any.slices_Equal_string_lens Tryz.lays193 a1 a2 n c m d w hnm
def Tryz.laysSF_ren : Go.Shelf.Ren := ⟨fun | 6 => 123 | 15 => 158 | 14 => 157 | 28 => 191 | 29 => 192 | 20 => 183 | 21 => 184 | 22 => 185 | 23 => 186 | 24 => 187 | 25 => 188 | 26 => 189 | 27 => 190 | 46 => 203 | 47 => 204 | 48 => 205 | 49 => 206 | 50 => 207 | 57 => 216 | n => n, fun | 22 => 34 | 24 => 56 | 25 => 198 | 3 => 3 | 39 => 209 | 0 => 0 | 53 => 267 | 55 => 86 | 4 => 4 | 46 => 271 | 45 => 270 | 50 => 179 | 5 => 5 | 9 => 9 | 66 => 283 | 70 => 287 | 76 => 296 | 77 => 39 | n => n, fun | n => n⟩
theorem Tryz.laysSF : Go.Proofs.SlLaysF.n6 Tryz.prog Tryz.laysSF_ren := {
  mixed := by kernel_rfl
  f6 := ⟨Tryz.f123.name, by decide, Tryz.func123.trans (congrArg some (by kernel_rfl))⟩
  f14 := ⟨Tryz.f157.name, by decide, Tryz.func157.trans (congrArg some (by kernel_rfl))⟩
  f15 := Tryz.func158.trans (congrArg some (by kernel_rfl))
  f20 := ⟨Tryz.f183.name, by decide, Tryz.func183.trans (congrArg some (by kernel_rfl))⟩
  f21 := ⟨Tryz.f184.name, by decide, Tryz.func184.trans (congrArg some (by kernel_rfl))⟩
  f22 := ⟨Tryz.f185.name, by decide, Tryz.func185.trans (congrArg some (by kernel_rfl))⟩
  f23 := ⟨Tryz.f186.name, by decide, Tryz.func186.trans (congrArg some (by kernel_rfl))⟩
  f24 := ⟨Tryz.f187.name, by decide, Tryz.func187.trans (congrArg some (by kernel_rfl))⟩
  f25 := ⟨Tryz.f188.name, by decide, Tryz.func188.trans (congrArg some (by kernel_rfl))⟩
  f26 := ⟨Tryz.f189.name, by decide, Tryz.func189.trans (congrArg some (by kernel_rfl))⟩
  f27 := ⟨Tryz.f190.name, by decide, Tryz.func190.trans (congrArg some (by kernel_rfl))⟩
  f28 := Tryz.func191.trans (congrArg some (by kernel_rfl))
  f29 := Tryz.func192.trans (congrArg some (by kernel_rfl))
  f46 := ⟨Tryz.f203.name, by decide, Tryz.func203.trans (congrArg some (by kernel_rfl))⟩
  f47 := Tryz.func204.trans (congrArg some (by kernel_rfl))
  f48 := Tryz.func205.trans (congrArg some (by kernel_rfl))
  f49 := ⟨Tryz.f206.name, by decide, Tryz.func206.trans (congrArg some (by kernel_rfl))⟩
  f50 := ⟨Tryz.f207.name, by decide, Tryz.func207.trans (congrArg some (by kernel_rfl))⟩
  f57 := ⟨Tryz.f216.name, by decide, Tryz.func216.trans (congrArg some (by kernel_rfl))⟩
  t0 := Tryz.underlying0
  a0 := Tryz.isAgg0
  z0 := Tryz.sizeOf0
  v0 := Tryz.zeroValue0
  t3 := Tryz.underlying3
  a3 := Tryz.isAgg3
  z3 := Tryz.sizeOf3
  v3 := Tryz.zeroValue3
  t4 := Tryz.underlying4
  a4 := Tryz.isAgg4
  z4 := Tryz.sizeOf4
  v4 := Tryz.zeroValue4
  t5 := Tryz.underlying5
  a5 := Tryz.isAgg5
  z5 := Tryz.sizeOf5
  v5 := Tryz.zeroValue5
  t9 := Tryz.underlying9
  a9 := Tryz.isAgg9
  z9 := Tryz.sizeOf9
  v9 := Tryz.zeroValue9
  t22 := Tryz.underlying34
  a22 := Tryz.isAgg34
  z22 := Tryz.sizeOf34
  v22 := Tryz.zeroValue34
  a24 := Tryz.isAgg56
  z24 := Tryz.sizeOf56
  t25 := Tryz.underlying198
  a25 := Tryz.isAgg198
  z25 := Tryz.sizeOf198
  v25 := Tryz.zeroValue198
  t39 := Tryz.underlying209
  a39 := Tryz.isAgg209
  z39 := Tryz.sizeOf209
  v39 := Tryz.zeroValue209
  t45 := Tryz.underlying270
  a45 := Tryz.isAgg270
  z45 := Tryz.sizeOf270
  v45 := Tryz.zeroValue270
  t46 := Tryz.underlying271
  a46 := Tryz.isAgg271
  z46 := Tryz.sizeOf271
  v46 := Tryz.zeroValue271
  t50 := Tryz.underlying179
  a50 := Tryz.isAgg179
  z50 := Tryz.sizeOf179
  v50 := Tryz.zeroValue179
  t53 := Tryz.underlying267
  a53 := Tryz.isAgg267
  z53 := Tryz.sizeOf267
  v53 := Tryz.zeroValue267
  t55 := Tryz.underlying86
  a55 := Tryz.isAgg86
  z55 := Tryz.sizeOf86
  v55 := Tryz.zeroValue86
  t66 := Tryz.underlying283
  a66 := Tryz.isAgg283
  z66 := Tryz.sizeOf283
  v66 := Tryz.zeroValue283
  t70 := Tryz.underlying287
  a70 := Tryz.isAgg287
  z70 := Tryz.sizeOf287
  v70 := Tryz.zeroValue287
  t76 := Tryz.underlying296
  a76 := Tryz.isAgg296
  z76 := Tryz.sizeOf296
  v76 := Tryz.zeroValue296
  t77 := Tryz.underlying39
  a77 := Tryz.isAgg39
  z77 := Tryz.sizeOf39
  v77 := Tryz.zeroValue39 }
end Go.Proofs
