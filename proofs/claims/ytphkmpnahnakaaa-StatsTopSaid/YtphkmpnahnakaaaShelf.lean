/-
  DERIVED: THE SHELF's CONTRACTS AT THIS DUMP, IN PLAIN WORDS (tools/lay-plain.mjs out of 'TryShelf.lean', which tools/lay-shelf.mjs wrote): THE SAME DECLARATIONS UNDER THE SAME NAMES: 'import', 'namespace', 'open', 'def', 'theorem' AND NOTHING ELSE: no command of the shelf's: FOR A HAND-IN. Each laying: the table of numbers ('.._ren') and one theorem, a field a fact of the dump's own or the kernel's comparison; each contract: ONE APPLICATION.
-/
import Derived.Shelf.SlGeneric
import Derived.Ground.SlgmProg
import Derived.Shelf.SortM.Plain
import Derived.Shelf.SortM.SortNone
import Derived.Ground.GgzProg
import Derived.Shelf.SlIter.Nil
import Derived.Shelf.Strings.Search3
import Derived.Test.YtphkmpnahnakaaaProg
namespace Go.Proofs
open Go.Shelf
def Try.lays144_ren : Go.Shelf.Ren := ⟨fun | 144 => 16 | 143 => 26 | 219 => 36 | 217 => 53 | 225 => 54 | 224 => 55 | 267 => 56 | 266 => 70 | 314 => 71 | n => n, fun | 9 => 9 | 4 => 4 | 3 => 3 | 5 => 5 | 46 => 86 | 146 => 121 | 51 => 105 | n => n, fun | 1 => 0 | n => n⟩
theorem Try.lays144 : Go.Proofs.Lays.n144 Try.prog Try.lays144_ren := {
  mixed := by kernel_rfl
  f143 := Try.func26.trans (congrArg some (by kernel_rfl))
  f144 := Try.func16.trans (congrArg some (by kernel_rfl))
  f217 := Try.func53.trans (congrArg some (by kernel_rfl))
  f219 := Try.func36.trans (congrArg some (by kernel_rfl))
  f224 := Try.func55.trans (congrArg some (by kernel_rfl))
  f225 := Try.func54.trans (congrArg some (by kernel_rfl))
  f266 := Try.func70.trans (congrArg some (by kernel_rfl))
  f267 := Try.func56.trans (congrArg some (by kernel_rfl))
  f314 := Try.func71.trans (congrArg some (by kernel_rfl))
  t3 := Try.underlying3
  a3 := Try.isAgg3
  z3 := Try.sizeOf3
  v3 := Try.zeroValue3
  t4 := Try.underlying4
  a4 := Try.isAgg4
  z4 := Try.sizeOf4
  v4 := Try.zeroValue4
  t5 := Try.underlying5
  a5 := Try.isAgg5
  z5 := Try.sizeOf5
  v5 := Try.zeroValue5
  t9 := Try.underlying9
  a9 := Try.isAgg9
  z9 := Try.sizeOf9
  v9 := Try.zeroValue9
  t46 := Try.underlying86
  a46 := Try.isAgg86
  z46 := Try.sizeOf86
  v46 := Try.zeroValue86
  t51 := Try.underlying105
  a51 := Try.isAgg105
  z51 := Try.sizeOf105
  v51 := Try.zeroValue105
  t146 := Try.underlying121
  a146 := Try.isAgg121
  z146 := Try.sizeOf121
  v146 := Try.zeroValue121
  g1 := by kernel_rfl }
open Go.RowKit Go.Lib in
/-- strings.Contains: "Contains reports whether substr is within s.": AT A substr OF ONE BYTE c: IT RETURNS 'decide (0 ≤ Lib.indexByte s c)'; the world is as it was. (LAID: no walk: one application.) -/
theorem Try.strings_Contains_one (s : ByteArray) (c : UInt8) (w : World) :
    Calls Try.prog 16 #[.string s, .string ⟨#[c]⟩] w fun e w' => e = .returned (.bool (decide (0 ≤ Lib.indexByte s.data.toList c))) ∧ w' = w := Any.strings_Contains_one Try.lays144 s c w
def Try.keysA_ren : Go.Shelf.Ren := ⟨fun | 7 => 15 | 10 => 25 | n => n, fun | 23 => 51 | 26 => 9 | 3 => 59 | 28 => 57 | 0 => 0 | 27 => 56 | 33 => 39 | 4 => 4 | n => n, fun | n => n⟩
theorem Try.keysA : Go.Proofs.SlLaysZ.n7 Try.prog Try.keysA_ren := {
  mixed := by kernel_rfl
  f7 := ⟨Try.f15.name, by decide, Try.func15.trans (congrArg some (by kernel_rfl))⟩
  f10 := ⟨Try.f25.name, by decide, Try.func25.trans (congrArg some (by kernel_rfl))⟩
  t0 := Try.underlying0
  a0 := Try.isAgg0
  z0 := Try.sizeOf0
  v0 := Try.zeroValue0
  t4 := Try.underlying4
  a4 := Try.isAgg4
  z4 := Try.sizeOf4
  v4 := Try.zeroValue4
  t23 := Try.underlying51
  a23 := Try.isAgg51
  z23 := Try.sizeOf51
  v23 := Try.zeroValue51
  t26 := Try.underlying9
  a26 := Try.isAgg9
  z26 := Try.sizeOf9
  v26 := Try.zeroValue9
  t27 := Try.underlying56
  a27 := Try.isAgg56
  z27 := Try.sizeOf56
  v27 := Try.zeroValue56
  t28 := Try.underlying57
  a28 := Try.isAgg57
  z28 := Try.sizeOf57
  v28 := Try.zeroValue57
  t33 := Try.underlying39
  a33 := Try.isAgg39
  z33 := Try.sizeOf39
  v33 := Try.zeroValue39 }
def Try.sortedA_ren : Go.Shelf.Ren := ⟨fun | 6 => 14 | 8 => 23 | 9 => 24 | 11 => 33 | 13 => 35 | 12 => 34 | 23 => 51 | 24 => 52 | 14 => 42 | 15 => 43 | 16 => 44 | 17 => 45 | 18 => 46 | 19 => 47 | 20 => 48 | 21 => 49 | 22 => 50 | 25 => 64 | 26 => 65 | 27 => 66 | 28 => 67 | 29 => 68 | 30 => 69 | 31 => 81 | n => n, fun | 26 => 9 | 28 => 57 | 24 => 54 | 0 => 0 | 3 => 3 | 37 => 86 | 48 => 105 | 50 => 107 | 4 => 4 | 40 => 98 | 39 => 97 | 45 => 102 | 5 => 5 | 9 => 9 | 51 => 115 | 55 => 119 | 57 => 142 | 58 => 143 | 33 => 39 | n => n, fun | n => n⟩
theorem Try.sortedA : Go.Proofs.SlLaysZ.n6 Try.prog Try.sortedA_ren := {
  mixed := by kernel_rfl
  f6 := ⟨Try.f14.name, by decide, Try.func14.trans (congrArg some (by kernel_rfl))⟩
  f8 := ⟨Try.f23.name, by decide, Try.func23.trans (congrArg some (by kernel_rfl))⟩
  f11 := ⟨Try.f33.name, by decide, Try.func33.trans (congrArg some (by kernel_rfl))⟩
  t0 := Try.underlying0
  a0 := Try.isAgg0
  z0 := Try.sizeOf0
  v0 := Try.zeroValue0
  t24 := Try.underlying54
  a24 := Try.isAgg54
  z24 := Try.sizeOf54
  v24 := Try.zeroValue54
  t26 := Try.underlying9
  a26 := Try.isAgg9
  z26 := Try.sizeOf9
  v26 := Try.zeroValue9
  t28 := Try.underlying57
  a28 := Try.isAgg57
  z28 := Try.sizeOf57
  v28 := Try.zeroValue57
  i26 := by kernel_rfl }
def Try.sortA_ren : Go.Shelf.Ren := ⟨fun | 6 => 24 | 8 => 35 | 9 => 34 | 19 => 51 | 20 => 52 | 21 => 42 | 22 => 43 | 23 => 44 | 24 => 45 | 25 => 46 | 26 => 47 | 27 => 48 | 28 => 49 | 29 => 50 | 36 => 64 | 31 => 65 | 32 => 66 | 37 => 67 | 38 => 68 | 39 => 69 | 41 => 81 | n => n, fun | 27 => 54 | 29 => 9 | 3 => 3 | 32 => 86 | 26 => 54 | 0 => 0 | 44 => 105 | 46 => 107 | 4 => 4 | 36 => 98 | 35 => 97 | 41 => 102 | 5 => 5 | 9 => 9 | 53 => 115 | 57 => 119 | 63 => 142 | 64 => 143 | n => n, fun | n => n⟩
theorem Try.sortA : Go.Proofs.SlLaysM.n6 Try.prog Try.sortA_ren := {
  mixed := by kernel_rfl
  f6 := ⟨Try.f24.name, by decide, Try.func24.trans (congrArg some (by kernel_rfl))⟩
  f8 := Try.func35.trans (congrArg some (by kernel_rfl))
  f9 := ⟨Try.f34.name, by decide, Try.func34.trans (congrArg some (by kernel_rfl))⟩
  f19 := Try.func51.trans (congrArg some (by kernel_rfl))
  f20 := Try.func52.trans (congrArg some (by kernel_rfl))
  f21 := ⟨Try.f42.name, by decide, Try.func42.trans (congrArg some (by kernel_rfl))⟩
  f22 := ⟨Try.f43.name, by decide, Try.func43.trans (congrArg some (by kernel_rfl))⟩
  f23 := ⟨Try.f44.name, by decide, Try.func44.trans (congrArg some (by kernel_rfl))⟩
  f24 := ⟨Try.f45.name, by decide, Try.func45.trans (congrArg some (by kernel_rfl))⟩
  f25 := ⟨Try.f46.name, by decide, Try.func46.trans (congrArg some (by kernel_rfl))⟩
  f26 := ⟨Try.f47.name, by decide, Try.func47.trans (congrArg some (by kernel_rfl))⟩
  f27 := ⟨Try.f48.name, by decide, Try.func48.trans (congrArg some (by kernel_rfl))⟩
  f28 := ⟨Try.f49.name, by decide, Try.func49.trans (congrArg some (by kernel_rfl))⟩
  f29 := ⟨Try.f50.name, by decide, Try.func50.trans (congrArg some (by kernel_rfl))⟩
  f31 := Try.func65.trans (congrArg some (by kernel_rfl))
  f32 := Try.func66.trans (congrArg some (by kernel_rfl))
  f36 := ⟨Try.f64.name, by decide, Try.func64.trans (congrArg some (by kernel_rfl))⟩
  f37 := ⟨Try.f67.name, by decide, Try.func67.trans (congrArg some (by kernel_rfl))⟩
  f38 := ⟨Try.f68.name, by decide, Try.func68.trans (congrArg some (by kernel_rfl))⟩
  f39 := ⟨Try.f69.name, by decide, Try.func69.trans (congrArg some (by kernel_rfl))⟩
  f41 := ⟨Try.f81.name, by decide, Try.func81.trans (congrArg some (by kernel_rfl))⟩
  t0 := Try.underlying0
  a0 := Try.isAgg0
  z0 := Try.sizeOf0
  v0 := Try.zeroValue0
  t3 := Try.underlying3
  a3 := Try.isAgg3
  z3 := Try.sizeOf3
  v3 := Try.zeroValue3
  t4 := Try.underlying4
  a4 := Try.isAgg4
  z4 := Try.sizeOf4
  v4 := Try.zeroValue4
  t5 := Try.underlying5
  a5 := Try.isAgg5
  z5 := Try.sizeOf5
  v5 := Try.zeroValue5
  t9 := Try.underlying9
  a9 := Try.isAgg9
  z9 := Try.sizeOf9
  v9 := Try.zeroValue9
  t26 := Try.underlying54
  a26 := Try.isAgg54
  z26 := Try.sizeOf54
  v26 := Try.zeroValue54
  t27 := Try.underlying54
  a27 := Try.isAgg54
  z27 := Try.sizeOf54
  v27 := Try.zeroValue54
  t29 := Try.underlying9
  a29 := Try.isAgg9
  z29 := Try.sizeOf9
  v29 := Try.zeroValue9
  t32 := Try.underlying86
  a32 := Try.isAgg86
  z32 := Try.sizeOf86
  v32 := Try.zeroValue86
  t35 := Try.underlying97
  a35 := Try.isAgg97
  z35 := Try.sizeOf97
  v35 := Try.zeroValue97
  t36 := Try.underlying98
  a36 := Try.isAgg98
  z36 := Try.sizeOf98
  v36 := Try.zeroValue98
  t41 := Try.underlying102
  a41 := Try.isAgg102
  z41 := Try.sizeOf102
  v41 := Try.zeroValue102
  t44 := Try.underlying105
  a44 := Try.isAgg105
  z44 := Try.sizeOf105
  v44 := Try.zeroValue105
  t46 := Try.underlying107
  a46 := Try.isAgg107
  z46 := Try.sizeOf107
  v46 := Try.zeroValue107
  t53 := Try.underlying115
  a53 := Try.isAgg115
  z53 := Try.sizeOf115
  v53 := Try.zeroValue115
  t57 := Try.underlying119
  a57 := Try.isAgg119
  z57 := Try.sizeOf119
  v57 := Try.zeroValue119
  t63 := Try.underlying142
  a63 := Try.isAgg142
  z63 := Try.sizeOf142
  v63 := Try.zeroValue142
  t64 := Try.underlying143
  a64 := Try.isAgg143
  z64 := Try.sizeOf143
  v64 := Try.zeroValue143 }
end Go.Proofs
