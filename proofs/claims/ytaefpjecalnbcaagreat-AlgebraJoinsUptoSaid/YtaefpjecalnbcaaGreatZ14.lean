/- Parts of a proof: texts of the author, merged. No condition of their own. -/
import Derived.Test.YtaefpjecalnbcaaGreatShelf
import Derived.Test.YtaefpjecalnbcaaGreatZ03
import Derived.Test.YtaefpjecalnbcaaGreatZ08
import Derived.Test.YtaefpjecalnbcaaGreatZ09
import Derived.Test.YtaefpjecalnbcaaGreatZ11
import Derived.Test.YtaefpjecalnbcaaGreatZ12
import Derived.Test.YtaefpjecalnbcaaGreatZ13
import Derived.Shelf.SlIterI.Nil
import Derived.Shelf.SortM.Plain
import Derived.Shelf.SortM.SortNone
import Derived.Maps.RangeWalk
namespace Go.Proofs.YtaefpjecalnbcaaGreat
open Go.RowKit
variable {K : Type}
def setAt [DecidableEq K] (k : K) (v : Value) : List (K × Value) → List (K × Value)
  | [] => []
  | (k', u) :: r => if k = k' then (k', v) :: r else (k', u) :: setAt k v r
def putK [DecidableEq K] (k : K) (v : Value) (es : List (K × Value)) : List (K × Value) := if (getOf k es).isSome = true then setAt k v es else es ++ [(k, v)]
theorem setAt_len [DecidableEq K] (k : K) (v : Value) : ∀ es : List (K × Value), (setAt k v es).length = es.length
  | [] => rfl
  | (k', u) :: r => by
    rw [setAt]
    split
    · rfl
    · rw [List.length_cons, List.length_cons, setAt_len k v r]
theorem setAt_get [DecidableEq K] (k : K) (v : Value) (k' : K) : ∀ es : List (K × Value), getOf k' (setAt k v es) = if k' = k then (if (getOf k es).isSome = true then some v else none) else getOf k' es
  | [] => by simp [setAt, getOf]
  | (q, u) :: r => by
    rw [setAt]
    by_cases h : k = q
    · subst h
      rw [if_pos rfl, getOf, getOf, getOf, if_pos rfl]
      by_cases h2 : k' = k
      · rw [if_pos h2, if_pos h2]; rfl
      · rw [if_neg h2, if_neg h2, if_neg h2]
    · rw [if_neg h, getOf, getOf, getOf, if_neg h, setAt_get k v k' r]
      by_cases h2 : k' = q
      · rw [if_pos h2, if_neg (by rintro rfl; exact h h2), if_pos h2]
      · rw [if_neg h2, if_neg h2]
theorem getOf_app2 [DecidableEq K] (k' : K) : ∀ (a b : List (K × Value)), getOf k' (a ++ b) = match getOf k' a with | some v => some v | none => getOf k' b
  | [], b => rfl
  | (q, u) :: r, b => by
    rw [List.cons_append, getOf, getOf]
    by_cases h : k' = q
    · rw [if_pos h, if_pos h]
    · rw [if_neg h, if_neg h]; exact getOf_app2 k' r b
theorem putK_get [DecidableEq K] (k : K) (v : Value) (es : List (K × Value)) (k' : K) : getOf k' (putK k v es) = if k' = k then some v else getOf k' es := by
  unfold putK
  by_cases h : (getOf k es).isSome = true
  · rw [if_pos h, setAt_get, if_pos h]
  · rw [if_neg h, getOf_app2]
    by_cases h2 : k' = k
    · subst h2
      rw [if_pos rfl]
      cases h3 : getOf k' es with
      | some u => rw [h3] at h; exact absurd rfl h
      | none => simp [getOf]
    · rw [if_neg h2]
      cases getOf k' es with
      | some u => rfl
      | none => simp only [getOf]; rw [if_neg h2]
theorem posOf_ge [DecidableEq K] (k : K) : ∀ (es : List (K × Value)) (j p : Nat) (v : Value), posOf k es j = some (p, v) → j ≤ p
  | [], _, _, _, h => by cases h
  | (k', u) :: r, j, p, v, h => by
    rw [posOf] at h
    split at h
    · cases h; exact Nat.le_refl _
    · exact Nat.le_of_succ_le (posOf_ge k r (j + 1) p v h)
theorem entL_set [DecidableEq K] (kv : K → Value) (k : K) (v : Value) : ∀ (es : List (K × Value)) (i j p : Nat) (u : Value), posOf k es j = some (p, u) →
    ((entL kv es i)[p - j]?).map (·.key) = some (kv k) ∧ (entL kv es i).modify (p - j) (fun e => { e with key := kv k, val := v }) = entL kv (setAt k v es) i
  | [], _, _, _, _, h => by cases h
  | (k', w) :: r, i, j, p, u, h => by
    rw [posOf] at h
    by_cases e : k = k'
    · rw [if_pos e] at h
      cases h
      subst e
      rw [setAt, if_pos rfl, Nat.sub_self]
      simp [entL]
    · rw [if_neg e] at h
      have hp := posOf_ge k r (j + 1) p u h
      obtain ⟨h1, h2⟩ := entL_set kv k v r (i + 1) (j + 1) p u h
      rw [setAt, if_neg e]
      obtain ⟨q, hq⟩ : ∃ q, p - j = q + 1 := ⟨p - j - 1, by omega⟩
      have hq' : p - (j + 1) = q := by omega
      rw [hq'] at h1 h2
      rw [hq]
      simp only [entL, List.getElem?_cons_succ, List.modify_succ_cons]
      exact ⟨h1, by rw [h2]⟩
theorem map_put [DecidableEq K] {P : Program} {t kt et : TypeId} {kv : K → Value} (KO : KeyOk P kt kv) (hsb : ∀ k, Instr.sameBits 10000 (kv k) (kv k) = true) (ht : P.underlying t = some (.map kt et)) {w : World} {r : Nat} {es : List (K × Value)} (h : MapIs w r kv es) (k : K) (v : Value) :
    (Instr.mapUpdate t (.map (some r)) (kv k) v).run P w = .ok () (putMap w r kv (putK k v es)) := by
  cases hg : getOf k es with
  | none =>
    rw [map_insert KO ht h k v hg]
    unfold putK
    rw [hg, if_neg (by decide)]
  | some u =>
    have hf := KO.find w k es 0
    obtain ⟨p, hp⟩ : ∃ p, posOf k es 0 = some (p, u) := by
      have := posOf_getOf k es 0
      rw [hg] at this
      cases hp : posOf k es 0 with
      | none => rw [hp] at this; cases this
      | some x => rw [hp] at this; obtain ⟨p, y⟩ := x; cases this; exact ⟨p, rfl⟩
    rw [hp] at hf
    obtain ⟨h1, h2⟩ := entL_set kv k v es 0 0 p u hp
    rw [Nat.sub_zero] at h1 h2
    have hkey : (Instr.keyThatStays (kv k) (kv k)).run P w = .ok (kv k) w := by
      unfold Instr.keyThatStays
      rw [if_pos (hsb k)]
      rfl
    have hk0 : ((((entL kv es 0).toArray)[p]?).map (·.key)).getD (kv k) = kv k := by
      rw [List.getElem?_toArray, h1]; rfl
    simp only [Instr.mapUpdate, Sem.run_bind, run_underlying ht, Result.andThen, MapKept.run_getObj_map h, KO.check, hf, hk0, hkey, MapKept.run_setObj_map _ h, putMap]
    congr 3
    unfold putK
    rw [hg, if_pos (show (some u).isSome = true from rfl), setAt_len, List.modify_toArray, h2]
theorem int_sameBits (k : Int) : Instr.sameBits 10000 (.int .i64 k) (.int .i64 k) = true := by
  simp [Instr.sameBits]
end Go.Proofs.YtaefpjecalnbcaaGreat
namespace Go.Proofs.YtaefpjecalnbcaaGreat
open Go.RowKit Go.Maps Go.Sort Go.Shelf
def RU (_ : Value) : Option (DataW Unit × List MemPlace) := some (.lit (.bool true), [])
theorem entL_mem {es : List (Int × Value)} : ∀ {i : Nat} {x : MapEntry}, x ∈ entL intK es i → ∃ p v, (p, v) ∈ es ∧ x.key = .int .i64 p ∧ i ≤ x.born ∧ x.born < i + es.length := by
  induction es with
  | nil => intro i x h; cases h
  | cons e r ih =>
    obtain ⟨p, v⟩ := e
    intro i x h
    rw [entL] at h
    rcases List.mem_cons.1 h with rfl | h
    · exact ⟨p, v, by simp, rfl, Nat.le_refl _, by simp⟩
    · obtain ⟨q, u, h1, h2, h3, h4⟩ := ih h
      exact ⟨q, u, by simp [h1], h2, by omega, by simp; omega⟩
theorem entL_born {es : List (Int × Value)} : ∀ i : Nat, ((entL intK es i).map (·.born)).Nodup := by
  induction es with
  | nil => intro i; simp [entL]
  | cons e r ih =>
    obtain ⟨p, v⟩ := e
    intro i
    rw [entL, List.map_cons, List.nodup_cons]
    refine ⟨fun h => ?_, ih (i + 1)⟩
    obtain ⟨x, hx, e⟩ := List.mem_map.1 h
    obtain ⟨-, -, -, -, h3, -⟩ := entL_mem hx
    simp only at e
    omega
theorem entL_keys {es : List (Int × Value)} : ∀ i : Nat, (entL intK es i).map (·.key) = (es.map Prod.fst).map intK := by
  induction es with
  | nil => intro i; rfl
  | cons e r ih =>
    obtain ⟨p, v⟩ := e
    intro i
    rw [entL, List.map_cons, ih]; rfl
theorem insert_perm (x : Lit × DataW Unit) : ∀ l : List (Lit × DataW Unit), (DataW.insert x l).Perm (x :: l)
  | [] => List.Perm.refl _
  | y :: r => by
    rw [DataW.insert]
    split
    · exact List.Perm.refl _
    · exact ((insert_perm x r).cons y).trans (List.Perm.swap x y r)
theorem foldr_perm : ∀ l : List (Lit × DataW Unit), (l.foldr DataW.insert []).Perm l
  | [] => List.Perm.refl _
  | x :: r => (insert_perm x _).trans ((foldr_perm r).cons x)
theorem i64_wf {p : Int} (h : i64ok p) : (Lit.int .i64 p).wf = true := by
  unfold i64ok at h
  show (decide (IntKind.i64.min ≤ p) && decide (p ≤ IntKind.i64.max)) = true
  rw [Bool.and_eq_true, decide_eq_true_eq, decide_eq_true_eq, (by decide : IntKind.i64.min = -9223372036854775808), (by decide : IntKind.i64.max = 9223372036854775807)]
  exact h
set_option maxRecDepth 100000 in
theorem owns_int {w : World} {r : Nat} {es : List (Int × Value)} (h : MapIs w r intK es) (hn : es.length ≤ 1073741824) (hd : (es.map Prod.fst).Nodup) (hsz : ∀ p ∈ es.map Prod.fst, i64ok p) :
    ∃ D0 : DataW Unit, w.ownsMap Tryz.prog 3 RU r es.length D0 ∧ (intKeys D0).Perm (es.map Prod.fst) ∧ Maps.size D0 = es.length := by
  refine ⟨_, ⟨(entL intK es 0).toArray, es.length, h, ⟨by simp [entL_len]; unfold maxLen; omega, ⟨fun x hx => ?_, by simpa using entL_born 0, ?_⟩, fun x hx => ?_⟩, by simp [entL_len], rfl⟩, ?_, ?_⟩
  · obtain ⟨-, -, -, -, -, h4⟩ := entL_mem (by simpa using hx)
    omega
  · show ((entL intK es 0).toArray.toList.map (·.key)).Nodup
    rw [List.toList_toArray, entL_keys]
    exact List.Pairwise.map _ (fun a b hab e => hab (by unfold intK at e; injection e)) hd
  · obtain ⟨p, v, h1, h2, -, -⟩ := entL_mem (i := 0) (by simpa using hx)
    have hp : (Lit.int .i64 p).wf = true := i64_wf (hsz p (List.mem_map.2 ⟨_, h1, rfl⟩))
    refine ⟨(.int .i64 p, .lit (.bool true)), ?_⟩
    unfold Go.WideElems.rd
    rw [h2, keyOf_int_mk Tryz.underlying3 hp]
    rfl
  · have hp := foldr_perm ((entL intK es 0).toArray.toList.map (Go.WideElems.rg Tryz.prog 3 RU))
    refine (hp.map fun p => Go.intOf p.1).trans ?_
    rw [List.toList_toArray, List.map_map]
    have : ∀ (l : List (Int × Value)) (i : Nat), (∀ p ∈ l.map Prod.fst, i64ok p) → (entL intK l i).map ((fun p => Go.intOf p.1) ∘ Go.WideElems.rg Tryz.prog 3 RU) = l.map Prod.fst := by
      intro l
      induction l with
      | nil => intro i _; rfl
      | cons e r ih =>
        obtain ⟨p, v⟩ := e
        intro i hl
        rw [entL, List.map_cons, ih (i + 1) fun q hq => hl q (by simp at hq ⊢; exact .inr hq), List.map_cons]
        congr 1
        have hp : (Lit.int .i64 p).wf = true := i64_wf (hl p (by simp))
        show Go.intOf (Go.WideElems.rg Tryz.prog 3 RU ⟨intK p, v, i⟩).1 = _
        unfold Go.WideElems.rg Go.WideElems.rd
        show Go.intOf (((keyOf Tryz.prog 3 (.int .i64 p)).bind fun key => (RU v).map fun y => (key, y.1)).getD (.bool false, .nil)).1 = _
        rw [keyOf_int_mk Tryz.underlying3 hp]
        rfl
    rw [this es 0 hsz]
  · show (List.foldr DataW.insert [] _).length = _
    rw [(foldr_perm _).length_eq]
    simp [entL_len]
theorem Tryz.sortsA (m : Nat) : AnyZI.SortsIn Tryz.prog Tryz.sortedA_ren Fence.wide m :=
  ⟨fun blk off cap ss W hH hblk hsz => callsIn_wide.2 (AnyM.slices_Sort_int Tryz.sortA blk off cap ss W hH hblk hsz),
   fun p cap W => callsIn_wide.2 (AnyM.slices_Sort_int_none Tryz.sortA p cap W)⟩
theorem maps_Keys (mb : Option Nat) (W : World) : Calls Tryz.prog 91 #[.map mb] W fun e w' => e = .returned (.func (.func 130) #[] #[.pointer (some ⟨W.heap.size, 0, none⟩)]) ∧ w' = W.alloc (.cells #[.map mb] 102) :=
  (callsIn_wide (n := 5)).1 (AnyZI.keys_in Tryz.keysA Fence.wide 5 trivial rfl mb W)
set_option maxHeartbeats 4000000 in
theorem sorted_Keys {w : World} {r : Nat} {es : List (Int × Value)} (h : MapIs w r intK es) (hn : es.length ≤ 1073741824) (hd : (es.map Prod.fst).Nodup) (hsz : ∀ p ∈ es.map Prod.fst, i64ok p) :
    Calls Tryz.prog 90 #[.func (.func 130) #[] #[.pointer (some ⟨w.heap.size, 0, none⟩)]] (w.alloc (.cells #[.map (some r)] 102)) fun e w' => ∃ (v : Value) (ss : List Int), e = .returned v ∧ ss.Perm (es.map Prod.fst) ∧
      w'.ownsRow (w.heap.size + 1) 3 1 v ss.length ((ss.mergeSort (fun x y => decide (x ≤ y))).map encZ) ∧ Below (w.heap.size + 1) (w.alloc (.cells #[.map (some r)] 102)) w' := by
  obtain ⟨D0, hown, hperm, hsize⟩ := owns_int h hn hd hsz
  have hbl := hown.lt
  have hseq : SeqGives Fence.wide 2 Tryz.prog 130 #[.pointer (some ⟨w.heap.size, 0, none⟩)] encZ (fun ss => ss.Perm (intKeys D0)) (Maps.size D0) (w.alloc (.cells #[.map (some r)] 102)) :=
    AnyZI.keys_gives (ρ := Tryz.keysA_ren) { Tryz.keysA with } Fence.wide _ trivial rfl (by omega) w.heap.size r es.length D0 _ (by simp) (by simp) (by
      obtain ⟨es', clock, hb, Ft, hs, hD⟩ := hown
      exact ⟨es', clock, (Below.heap_alloc _ _ r hbl).trans hb, Ft, hs, hD⟩)
  have cS := AnyZI.sorted_in Tryz.sortedA Fence.wide 5 trivial trivial trivial trivial rfl (by omega) (Tryz.sortsA _) (enters_of Tryz.func129 (by kernel_rfl) rfl) 130 #[.pointer (some ⟨w.heap.size, 0, none⟩)] trivial (enters_of Tryz.func130 (by kernel_rfl) rfl) _ _ (by rw [hsize]; unfold maxLen; omega) (by rw [hsize]; omega) _ hseq
  change CallsIn _ _ Tryz.prog 90 _ _ _ at cS
  refine ((callsIn_wide (n := 5)).1 cS).mono ?_
  rintro e w' ⟨v, ss, rfl, hS, hrow, -, hb⟩
  rw [World.size_alloc] at hrow hb
  exact ⟨v, ss, rfl, hS.trans hperm, hrow, hb⟩
end Go.Proofs.YtaefpjecalnbcaaGreat
namespace Go.Proofs.YtaefpjecalnbcaaGreat
open Go.RowKit
def s32 (x : Nat) : Int := if x % 4294967296 < 2147483648 then ((x % 4294967296 : Nat) : Int) else ((x % 4294967296 : Nat) : Int) - 4294967296
def w32 (x : Nat) : Nat := if x % 4294967296 < 2147483648 then x % 4294967296 else x % 4294967296 + 18446744069414584320
def kcanon (k : Int) (x : Nat) : Nat := if k = 1 ∨ k = 8 then w32 x else if k = 7 then (if 0 < x then 1 else 0) else if k = 3 ∨ k = 5 ∨ k = 9 ∨ k = 10 ∨ k = 11 then x % 4294967296 else x
theorem w32_lt (x : Nat) : w32 x < 2 ^ 64 := by unfold w32; split <;> omega
theorem kcanon_lt (k : Int) {x : Nat} (h : x < 2 ^ 64) : kcanon k x < 2 ^ 64 := by
  unfold kcanon
  have := w32_lt x
  split
  · exact this
  · split
    · split <;> omega
    · split <;> omega
set_option maxRecDepth 100000 in
set_option maxHeartbeats 4000000 in
theorem bits_Low32 (x : Nat) (w : World) :
    Calls Tryz.prog 140 #[.int .u64 x] w fun e w' => e = .returned (.int .u32 ((x % 4294967296 : Nat) : Int)) ∧ w = w' := by
  go_enter Tryz.func140, Tryz.ntmps140
  go_wp2
  go_ret
  exact ⟨ret1 (int_eq (by omega)), rfl⟩
set_option maxRecDepth 100000 in
set_option maxHeartbeats 4000000 in
theorem bits_Sign32 (x : Nat) (w : World) :
    Calls Tryz.prog 138 #[.int .u64 x] w fun e w' => e = .returned (.int .i32 (s32 x)) ∧ w = w' := by
  have h : IntKind.i32.wrap ((x : Int) % 4294967296) = s32 x := by
    unfold s32
    simp [IntKind.wrap, IntKind.bits, IntKind.signed]
    split <;> split <;> omega
  go_enter Tryz.func138, Tryz.ntmps138
  go_wp2
  go_ret
  exact ⟨ret1 (int_eq (by first | exact h | rw [← h])), rfl⟩
set_option maxRecDepth 100000 in
set_option maxHeartbeats 4000000 in
theorem bits_Wide32 (x : Nat) (w : World) :
    Calls Tryz.prog 137 #[.int .i32 (s32 x)] w fun e w' => e = .returned (.int .u64 (w32 x)) ∧ w = w' := by
  have h : (s32 x) % 18446744073709551616 = (w32 x : Int) := by
    unfold s32 w32
    split <;> omega
  have h2 : -2147483648 ≤ s32 x ∧ s32 x < 2147483648 := by
    unfold s32
    split <;> omega
  generalize s32 x = z at *
  go_enter Tryz.func137, Tryz.ntmps137
  go_wp2
  go_ret
  exact ⟨ret1 (int_eq (by first | exact h | (rw [← h]; omega))), rfl⟩
set_option maxRecDepth 100000 in
set_option maxHeartbeats 4000000 in
theorem ref01_Sign32 (x : Nat) (w : World) :
    Calls Tryz.prog 123 #[.int .u64 x] w fun e w' => e = .returned (.int .i64 (s32 x)) ∧ w = w' := by
  obtain ⟨m, hm⟩ : ∃ m : Int, (x : Int) % 4294967296 = m := ⟨_, rfl⟩
  have hm0 : 0 ≤ m ∧ m < 4294967296 := by omega
  have hcv : IntKind.i64.wrap m = m := IntWalk.i64_in _ (by omega)
  by_cases h : m < 2147483648
  · have HS : Hid (m = s32 x) := by unfold s32; rw [if_pos (by omega)]; rw [Hid]; omega
    go_enter Tryz.func123, Tryz.ntmps123
    go_wp2
    go_ret
    exact ⟨ret1 (int_eq HS.out), rfl⟩
  · have HS : Hid (m - 4294967296 = s32 x) := by unfold s32; rw [if_neg (by omega)]; rw [Hid]; omega
    go_enter Tryz.func123, Tryz.ntmps123
    go_wp2
    go_ret
    exact ⟨ret1 (int_eq HS.out), rfl⟩
set_option maxRecDepth 100000 in
set_option maxHeartbeats 4000000 in
theorem ref01_Wide (x : Nat) (w : World) :
    Calls Tryz.prog 122 #[.int .i64 (s32 x)] w fun e w' => e = .returned (.int .u64 (w32 x)) ∧ w = w' := by
  by_cases h : x % 4294967296 < 2147483648
  · have h1 : s32 x = ((x % 4294967296 : Nat) : Int) := by unfold s32; rw [if_pos h]
    have h2 : w32 x = x % 4294967296 := by unfold w32; rw [if_pos h]
    rw [h1, h2]
    generalize x % 4294967296 = m at *
    clear h1 h2
    go_enter Tryz.func122, Tryz.ntmps122
    go_wp2
    go_ret
    exact ⟨ret1 (int_eq (by omega)), rfl⟩
  · have h1 : s32 x = ((x % 4294967296 : Nat) : Int) - 4294967296 := by unfold s32; rw [if_neg h]
    have h2 : w32 x = x % 4294967296 + 18446744069414584320 := by unfold w32; rw [if_neg h]
    have h3 : s32 x < 0 := by omega
    have h4 : -2147483648 ≤ s32 x := by omega
    have h5 : ((w32 x : Nat) : Int) = 18446744073709551615 - (-(s32 x + 1)) := by rw [h1, h2]; omega
    generalize s32 x = z at *
    rw [← Int.ofNat_inj] at h2
    generalize w32 x = y at *
    clear h1 h2 h
    go_enter Tryz.func122, Tryz.ntmps122
    go_wp2
    go_ret
    exact ⟨ret1 (int_eq (by omega)), rfl⟩
end Go.Proofs.YtaefpjecalnbcaaGreat
namespace Go.Proofs.YtaefpjecalnbcaaGreat
open Go.RowKit
def fitsB {α : Type} (R : Int → α → Bool) (f : Fld) (x : Val α) : Bool :=
  if x.words.length + x.texts.length + x.subs.length = 0 ∨ 1 < x.words.length + x.texts.length + x.subs.length ∧ f.rep = false then false
  else if knumber f.kind = true then decide (x.texts.length = 0 ∧ x.subs.length = 0) && x.words.all fun w => decide (kcanon f.kind w = w)
  else if f.kind = 17 then decide (x.words.length = 0 ∧ x.texts.length = 0) && x.subs.all (R f.of)
  else if f.kind = 15 then decide (x.words.length = 0 ∧ x.subs.length = 0) && x.texts.all fun t => decide (ufirst t = t.length)
  else decide (f.kind = 16) && decide (x.words.length = 0 ∧ x.subs.length = 0)
def strangeB (fs : List Fld) (t : List UInt8) : Bool := decide ((rnext t 0).2 = 0 ∧ (rnext t 0).1.to = t.length) && decide (fieldAt fs (rnext t 0).1.number < 0)
def valsB {α : Type} (F : Fld → Val α → Bool) (fs : List Fld) : List (Val α) → Int → Bool
  | [], _ => true
  | x :: r, last => if fieldAt fs x.num < 0 ∨ x.num ≤ last ∨ F (fs.getD (fieldAt fs x.num).toNat .zero) x = false then false else valsB F fs r x.num
def rightB (s : List Mes) : (d : Nat) → Int → M d → Bool
  | 0, _, _ => false
  | d + 1, root, x => if root < 0 ∨ (s.length : Int) ≤ root then false else
      valsB (fitsB (rightB s d)) (s.getD root.toNat .zero).fields (M.vals x) 0 && (M.unk x).all (strangeB (s.getD root.toNat .zero).fields)
end Go.Proofs.YtaefpjecalnbcaaGreat
namespace Go.Proofs.YtaefpjecalnbcaaGreat
open Go.RowKit
def getV {α : Type} (l : List (Val α)) (n : Int) : Option (Val α) := l.find? fun v => decide (v.num = n)
def RiseV {α : Type} (l : List (Val α)) : Prop := l.Pairwise fun a b => a.num < b.num
def putV {α : Type} (v : Val α) : List (Val α) → List (Val α)
  | [] => [v]
  | x :: r => if x.num < v.num then x :: putV v r else if x.num = v.num then v :: r else v :: x :: r
def delV {α : Type} (n : Int) (l : List (Val α)) : List (Val α) := l.filter fun x => decide (x.num ≠ n)
def refPut {α : Type} (v : Val α) : Bool → List (Val α) → List (Val α)
  | done, [] => if done = true then [] else [v]
  | done, x :: r => (if done = false ∧ v.num ≤ x.num then [v] else []) ++ ((if x.num = v.num then [] else [x]) ++ refPut v (done || decide (v.num ≤ x.num)) r)
def manyV {α : Type} (v : Val α) : Nat := v.words.length + v.texts.length + v.subs.length
def putR {α : Type} (v : Val α) (l : List (Val α)) : List (Val α) := refPut v (decide (manyV v = 0)) l
theorem getV_nil {α : Type} (n : Int) : getV ([] : List (Val α)) n = none := rfl
theorem getV_cons {α : Type} (x : Val α) (r : List (Val α)) (n : Int) : getV (x :: r) n = if x.num = n then some x else getV r n := by
  unfold getV
  rw [List.find?_cons]
  by_cases h : x.num = n
  · simp [h]
  · simp [h]
theorem getV_num {α : Type} {l : List (Val α)} {n : Int} {v : Val α} (h : getV l n = some v) : v.num = n ∧ v ∈ l := by
  have h1 := List.find?_some h
  exact ⟨by simpa using h1, List.mem_of_find?_eq_some h⟩
theorem RiseV.nodup {α : Type} {l : List (Val α)} (h : RiseV l) : (l.map (·.num)).Nodup := by
  unfold RiseV at h
  induction h with
  | nil => simp
  | cons h1 _ ih =>
    rw [List.map_cons, List.nodup_cons]
    refine ⟨fun hm => ?_, ih⟩
    obtain ⟨y, hy, e⟩ := List.mem_map.1 hm
    have := h1 y hy
    omega
theorem RiseV.tail {α : Type} {x : Val α} {r : List (Val α)} (h : RiseV (x :: r)) : RiseV r ∧ ∀ y ∈ r, x.num < y.num := by
  unfold RiseV at *
  rw [List.pairwise_cons] at h
  exact ⟨h.2, h.1⟩
theorem getV_mem {α : Type} {l : List (Val α)} (h : RiseV l) {v : Val α} (hv : v ∈ l) : getV l v.num = some v := by
  induction l with
  | nil => simp at hv
  | cons x r ih =>
    obtain ⟨h1, h2⟩ := h.tail
    rw [getV_cons]
    rcases List.mem_cons.1 hv with rfl | hv
    · rw [if_pos rfl]
    · rw [if_neg (by have := h2 v hv; omega)]
      exact ih h1 hv
theorem getV_low {α : Type} {l : List (Val α)} {n : Int} (h : ∀ y ∈ l, n < y.num) : getV l n = none := by
  unfold getV
  rw [List.find?_eq_none]
  intro y hy
  have := h y hy
  simp; omega
theorem putV_mem {α : Type} {v y : Val α} : ∀ {l : List (Val α)}, y ∈ putV v l → y = v ∨ y ∈ l
  | [], h => by simp [putV] at h; exact .inl h
  | x :: r, h => by
    unfold putV at h
    split at h
    · rcases List.mem_cons.1 h with e | h
      · exact .inr (by simp [e])
      · rcases putV_mem h with e | h
        · exact .inl e
        · exact .inr (by simp [h])
    · split at h
      · rcases List.mem_cons.1 h with e | h
        · exact .inl e
        · exact .inr (by simp [h])
      · rcases List.mem_cons.1 h with e | h
        · exact .inl e
        · exact .inr h
theorem putV_rise {α : Type} {v : Val α} : ∀ {l : List (Val α)}, RiseV l → RiseV (putV v l)
  | [], _ => by simp [putV, RiseV]
  | x :: r, h => by
    obtain ⟨h1, h2⟩ := h.tail
    unfold putV
    split
    · rename_i hlt
      refine List.pairwise_cons.2 ⟨fun y hy => ?_, putV_rise h1⟩
      rcases putV_mem hy with e | hy
      · rw [e]; exact hlt
      · exact h2 y hy
    · split
      · rename_i e
        exact List.pairwise_cons.2 ⟨fun y hy => by have := h2 y hy; omega, h1⟩
      · refine List.pairwise_cons.2 ⟨fun y hy => ?_, h⟩
        rcases List.mem_cons.1 hy with e | hy
        · rw [e]; omega
        · have := h2 y hy; omega
theorem putV_get {α : Type} {v : Val α} : ∀ {l : List (Val α)}, RiseV l → ∀ n, getV (putV v l) n = if v.num = n then some v else getV l n
  | [], _, n => by simp [putV, getV_cons]
  | x :: r, h, n => by
    obtain ⟨h1, h2⟩ := h.tail
    unfold putV
    split
    · rename_i hlt
      rw [getV_cons, putV_get h1, getV_cons]
      by_cases e : x.num = n
      · rw [if_pos e, if_neg (by omega), if_pos e]
      · rw [if_neg e, if_neg e]
    · split
      · rename_i e
        rw [getV_cons, getV_cons]
        by_cases e2 : v.num = n
        · rw [if_pos e2, if_pos e2]
        · rw [if_neg e2, if_neg e2, if_neg (by omega)]
      · rw [getV_cons]
theorem refPut_done {α : Type} {v : Val α} : ∀ {l : List (Val α)}, refPut v true l = delV v.num l
  | [] => rfl
  | x :: r => by
    unfold refPut delV
    rw [if_neg (by simp), List.filter_cons, Bool.true_or, refPut_done]
    by_cases e : x.num = v.num
    · rw [if_pos e, if_neg (by simp [e])]; rfl
    · rw [if_neg e, if_pos (by simp [e])]; rfl
theorem refPut_put {α : Type} {v : Val α} : ∀ {l : List (Val α)}, RiseV l → refPut v false l = putV v l
  | [], _ => rfl
  | x :: r, h => by
    obtain ⟨h1, h2⟩ := h.tail
    unfold refPut putV
    by_cases hlt : x.num < v.num
    · rw [if_neg (by omega), if_neg (by omega), if_pos hlt, show (false || decide (v.num ≤ x.num)) = false by simp; omega, refPut_put h1]; rfl
    · rw [if_pos ⟨rfl, by omega⟩, if_neg hlt, show (false || decide (v.num ≤ x.num)) = true by simp; omega, refPut_done]
      have hd : delV v.num r = r := by
        unfold delV
        rw [List.filter_eq_self]
        intro y hy
        have := h2 y hy
        simp; omega
      rw [hd]
      by_cases e : x.num = v.num
      · rw [if_pos e, if_pos e]; rfl
      · rw [if_neg e, if_neg e]; rfl
def bothV {α : Type} (J : Int → α → α → α) (f : Fld) (w v : Val α) : Val α :=
  if f.rep = true then ⟨v.num, w.words ++ v.words, w.texts ++ v.texts, w.subs ++ v.subs⟩
  else if f.kind = 17 then ⟨v.num, [], [], (w.subs.zip v.subs).take 1 |>.map fun p => J f.of p.1 p.2⟩ else v
theorem bothV_num {α : Type} (J : Int → α → α → α) (f : Fld) (w v : Val α) : (bothV J f w v).num = v.num := by
  unfold bothV
  split
  · rfl
  · split <;> rfl
def withV {α : Type} (g : Val α → Val α → Val α) (a : List (Val α)) (v : Val α) : Val α := match getV a v.num with | some w => g w v | none => v
theorem withV_num {α : Type} {g : Val α → Val α → Val α} (hg : ∀ w v, (g w v).num = v.num) (a : List (Val α)) (v : Val α) : (withV g a v).num = v.num := by
  unfold withV
  split
  · exact hg _ _
  · rfl
def joinV {α : Type} (g : Val α → Val α → Val α) (a b : List (Val α)) : List (Val α) := b.foldl (fun out v => putV (withV g a v) out) a
def joinM (s : List Mes) : (d : Nat) → Int → M d → M d → M d
  | 0, _, x, _ => x
  | d + 1, root, x, y => (⟨joinV (fun w v => bothV (joinM s d) ((s.getD root.toNat .zero).fields.getD (fieldAt (s.getD root.toNat .zero).fields v.num).toNat .zero) w v) (M.vals x) (M.vals y), M.unk x ++ M.unk y⟩ : Msgd (M d))
theorem fold_rise {α : Type} (k : Val α → Val α) : ∀ (b a : List (Val α)), RiseV a → RiseV (b.foldl (fun out v => putV (k v) out) a)
  | [], _, h => h
  | _x :: r, _a, h => fold_rise k r _ (putV_rise h)
theorem fold_get {α : Type} {k : Val α → Val α} (hk : ∀ v, (k v).num = v.num) : ∀ (b a : List (Val α)), RiseV a → RiseV b → ∀ n, getV (b.foldl (fun out v => putV (k v) out) a) n = match getV b n with | some v => some (k v) | none => getV a n
  | [], a, _, _, n => rfl
  | x :: r, a, ha, hb, n => by
    obtain ⟨b1, b2⟩ := hb.tail
    rw [List.foldl_cons, fold_get hk r _ (putV_rise ha) b1, getV_cons, putV_get ha, hk]
    by_cases e : x.num = n
    · subst e
      rw [getV_low b2, if_pos rfl, if_pos rfl]
    · rw [if_neg e, if_neg e]
theorem joinV_rise {α : Type} (g : Val α → Val α → Val α) {a b : List (Val α)} (ha : RiseV a) : RiseV (joinV g a b) := fold_rise _ _ _ ha
theorem joinV_get {α : Type} {g : Val α → Val α → Val α} (hg : ∀ w v, (g w v).num = v.num) {a b : List (Val α)} (ha : RiseV a) (hb : RiseV b) (n : Int) :
    getV (joinV g a b) n = match getV b n with | some v => some (withV g a v) | none => getV a n := fold_get (withV_num hg a) b a ha hb n
end Go.Proofs.YtaefpjecalnbcaaGreat
namespace Go.Proofs.YtaefpjecalnbcaaGreat
open Go.RowKit Go.Maps Go.Sort Go.Shelf
structure VS where
  n : Int
  a1 : Option Addr
  n1 : Nat
  c1 : Nat
  a2 : Option Addr
  n2 : Nat
  c2 : Nat
  a3 : Option Addr
  n3 : Nat
  c3 : Nat
def VS.val (c : VS) : Value := .agg #[.int .i64 c.n, .slice c.a1 c.n1 c.c1, .slice c.a2 c.n2 c.c2, .slice c.a3 c.n3 c.c3]
open Classical in
noncomputable def RV (v : Value) : Option (DataW Value × List MemPlace) := if ∃ c : VS, v = c.val then some (.held v, []) else none
theorem RV_val (c : VS) : RV c.val = some (.held c.val, []) := if_pos ⟨c, rfl⟩
theorem RV_inv {v : Value} {y : DataW Value × List MemPlace} (h : RV v = some y) : (∃ c : VS, v = c.val) ∧ y = (.held v, []) := by
  unfold RV at h
  split at h
  · rename_i hc
    injection h with h
    exact ⟨hc, h.symm⟩
  · cases h
theorem getOf_iff {es : List (Int × Value)} (hd : (es.map Prod.fst).Nodup) {x : Int} {v : Value} : getOf x es = some v ↔ (x, v) ∈ es := by
  induction es with
  | nil => simp [getOf]
  | cons e r ih =>
    obtain ⟨k, u⟩ := e
    rw [List.map_cons, List.nodup_cons] at hd
    rw [getOf, List.mem_cons]
    by_cases h : x = k
    · subst h
      rw [if_pos rfl]
      constructor
      · intro e; injection e with e; exact .inl (by rw [e])
      · rintro (e | e)
        · injection e with _ e; rw [e]
        · exact absurd (List.mem_map.2 ⟨_, e, rfl⟩) hd.1
    · rw [if_neg h, ih hd.2]
      constructor
      · exact .inr
      · rintro (e | e)
        · injection e with e _; exact absurd e h
        · exact e
theorem rd_vs {p : Int} (c : VS) (i : Nat) (hp : i64ok p) : Go.WideElems.rd Tryz.prog 3 RV ⟨intK p, c.val, i⟩ = some (.int .i64 p, .held c.val) :=
  Go.WideElems.rd_mk (keyOf_int_mk Tryz.underlying3 (i64_wf hp)) (RV_val c)
def VOk (es : List (Int × Value)) : Prop := ∀ p ∈ es, i64ok p.1 ∧ ∃ c : VS, p.2 = c.val
theorem rg_vs {es : List (Int × Value)} : ∀ i : Nat, VOk es → (entL intK es i).map (Go.WideElems.rg Tryz.prog 3 RV) = es.map fun p => (Lit.int .i64 p.1, DataW.held p.2) := by
  induction es with
  | nil => intro i _; rfl
  | cons e r ih =>
    obtain ⟨p, v⟩ := e
    intro i h
    obtain ⟨hp, c, hc⟩ := h (p, v) (by simp)
    simp only at hp hc
    subst hc
    rw [entL, List.map_cons, ih (i + 1) fun q hq => h q (by simp [hq]), List.map_cons, Go.WideElems.rg_of (rd_vs c i hp)]
theorem owns_val {w : World} {r : Nat} {es : List (Int × Value)} (h : MapIs w r intK es) (hn : es.length ≤ 1073741824) (hd : (es.map Prod.fst).Nodup) (hv : VOk es) :
    w.ownsMap Tryz.prog 3 RV r es.length (.map ((es.map fun p => (Lit.int .i64 p.1, DataW.held p.2)).foldr DataW.insert [])) := by
  refine ⟨(entL intK es 0).toArray, es.length, h, ⟨by simp [entL_len]; unfold maxLen; omega, ⟨fun x hx => ?_, by simpa using entL_born 0, ?_⟩, fun x hx => ?_⟩, by simp [entL_len], ?_⟩
  · obtain ⟨-, -, -, -, -, h4⟩ := entL_mem (by simpa using hx)
    omega
  · show ((entL intK es 0).toArray.toList.map (·.key)).Nodup
    rw [List.toList_toArray, entL_keys]
    exact List.Pairwise.map _ (fun a b hab e => hab (by unfold intK at e; injection e)) hd
  · have key : ∀ (l : List (Int × Value)) (i : Nat), VOk l → ∀ x ∈ entL intK l i, ∃ y, Go.WideElems.rd Tryz.prog 3 RV x = some y := by
      intro l
      induction l with
      | nil => intro i _ x hx; cases hx
      | cons e r ih =>
        obtain ⟨p, v⟩ := e
        intro i hl x hx
        rw [entL] at hx
        rcases List.mem_cons.1 hx with rfl | hx
        · obtain ⟨hp, c, hc⟩ := hl (p, v) (by simp)
          simp only at hp hc
          subst hc
          exact ⟨_, rd_vs c i hp⟩
        · exact ih (i + 1) (fun q hq => hl q (by simp [hq])) x hx
    exact key es 0 hv x (by simpa using hx)
  · rw [List.toList_toArray, rg_vs 0 hv]
theorem mem_held {es : List (Int × Value)} {kl : Lit} {d : DataW Value} : (kl, d) ∈ (es.map fun p => (Lit.int .i64 p.1, DataW.held p.2)).foldr DataW.insert [] ↔ ∃ x v, (x, v) ∈ es ∧ kl = .int .i64 x ∧ d = .held v := by
  rw [Go.mem_sorted, List.mem_map]
  constructor
  · rintro ⟨⟨x, v⟩, h, e⟩
    injection e with e1 e2
    exact ⟨x, v, h, e1.symm, e2.symm⟩
  · rintro ⟨x, v, h, rfl, rfl⟩
    exact ⟨(x, v), h, rfl⟩
structure Rng (w : World) (b r : Nat) (es : List (Int × Value)) (todo : Int → Bool) (cnt : Nat) : Prop where
  ran : ∃ (D : DataW Value) (left : Lit → Bool) (n : Nat), w.ranges Tryz.prog 3 RV b r n D left cnt ∧ (∀ x v, D.atKey (.int .i64 x) .nil = .held v → getOf x es = some v) ∧ ∀ x, todo x = left (.int .i64 x)
theorem Rng.kept {w w' : World} {b r : Nat} {es : List (Int × Value)} {todo : Int → Bool} {cnt : Nat} (h : Rng w b r es todo cnt) {c : Nat} (hb : But c w w') (h1 : b ≠ c) (h2 : r ≠ c) : Rng w' b r es todo cnt := by
  obtain ⟨D, left, n, h0, h3, h4⟩ := h.ran
  exact ⟨D, left, n, h0.kept (row := some c) ⟨hb.os, hb.tape, hb.output, hb.size, fun k hk hne => hb.block k hk (fun e => hne (by rw [e]))⟩ (by simpa using h1) (by simpa using h2), h3, h4⟩
theorem Rng.below {w w' : World} {b r : Nat} {es : List (Int × Value)} {todo : Int → Bool} {cnt : Nat} (h : Rng w b r es todo cnt) (hb : Below w.heap.size w w') : Rng w' b r es todo cnt := by
  obtain ⟨D, left, n, h0, h3, h4⟩ := h.ran
  exact ⟨D, left, n, h0.kept (row := none) ⟨hb.os, hb.tape, hb.output, hb.size, fun k hk _ => hb.block k hk⟩ (by simp) (by simp), h3, h4⟩
theorem Rng.left {w : World} {b r : Nat} {es : List (Int × Value)} {todo : Int → Bool} {cnt : Nat} (h : Rng w b r es todo cnt) : w.rangeLeft b r = cnt := by
  obtain ⟨D, left, n, h0, h3, h4⟩ := h.ran
  exact h0.left_eq
section
variable (w : World) {ops : Array Oper} {rest : List Oper} {o : Oper} {a : Act} {Q : Exit → Act → World → Prop}
theorem wpList_rng_start (hg : o.guard = none) (m : Operand) (hop : o.op = Op.range 102 m) {b : Nat} {es : List (Int × Value)} (hm : a.eval m = .map (some b)) (h : MapIs w b intK es) (hn : es.length ≤ 1073741824) (hd : (es.map Prod.fst).Nodup) (hv : VOk es)
    (hK : ∀ w', Rng w' b w.heap.size es (fun x => decide (x ∈ es.map Prod.fst)) (w'.rangeLeft b w.heap.size) → Below w.heap.size w w' → w'.heap.size = w.heap.size + 1 → wpList Tryz.prog ops Q rest (a.put o.dst (.pointer (some ⟨w.heap.size, 0, none⟩))) w') :
    wpList Tryz.prog ops Q (o :: rest) a w := by
  refine wpList_range_own w hg m 102 hop 3 67 (int_keyed Tryz.underlying3) Tryz.underlying102 RV b es.length _ hm (owns_val h hn hd hv) fun w' h1 h2 h3 => ?_
  refine hK w' ?_ ⟨h2.os, h2.tape, h2.output, h2.size, fun k hk => h2.block k hk (by simp)⟩ h3
  rw [h1.left_eq]
  refine ⟨_, _, _, h1, fun x v hx => ?_, fun x => ?_⟩
  · rw [getOf_iff hd]
    by_cases hm : ∃ u, (x, u) ∈ es
    · obtain ⟨u, hu⟩ := hm
      obtain ⟨es', e1, e2, e3⟩ := h1.owns.entries (int_keyed Tryz.underlying3)
      injection e1 with e1
      have hmem := mem_held.2 ⟨x, u, hu, rfl, rfl⟩
      rw [e1] at hmem hx
      rw [WideAt.atKey_mem _ (e3 _ hmem) e2 hmem] at hx
      injection hx with hx
      rw [← hx]; exact hu
    · rw [WideAt.atKey_none] at hx
      · cases hx
      · rintro ⟨kl, d⟩ hp e
        obtain ⟨x', v', hm', e1, -⟩ := mem_held.1 hp
        simp only at e
        rw [e] at e1
        injection e1 with _ e1
        exact hm ⟨v', by rw [e1]; exact hm'⟩
  · show _ = List.any _ _
    rw [Bool.eq_iff_iff, decide_eq_true_eq, List.any_eq_true, List.mem_map]
    constructor
    · rintro ⟨⟨x', v⟩, hm', rfl⟩
      exact ⟨_, mem_held.2 ⟨x', v, hm', rfl, rfl⟩, by simp [Lit.sameKey]⟩
    · rintro ⟨⟨kl, d⟩, hp, hs⟩
      obtain ⟨x', v', hm', e1, -⟩ := mem_held.1 hp
      have := WideAt.sameKey_eq hs
      simp only at this
      rw [this] at e1
      injection e1 with _ e1
      exact ⟨(x', v'), hm', e1.symm⟩
set_option maxRecDepth 100000 in
theorem wpList_rng_next (hg : o.guard = none) (it : Operand) (hop : o.op = Op.next it false) {b r : Nat} {es : List (Int × Value)} {todo : Int → Bool} {cnt : Nat} (hit : a.eval it = .pointer (some ⟨r, 0, none⟩)) (h : Rng w b r es todo cnt)
    (hDone : (∀ x, todo x = false) → wpList Tryz.prog ops Q rest (a.put o.dst (.tuple #[.bool false])) w)
    (hMore : ∀ (x : Int) (c : VS) (w' : World) (cnt' : Nat), i64ok x → todo x = true → getOf x es = some c.val → Rng w' b r es (fun z => todo z && decide (z ≠ x)) cnt' → cnt' < cnt → But r w w' → w'.heap.size = w.heap.size →
      (Instr.entry (.pointer (some ⟨r, 0, none⟩))).run Tryz.prog w' = .ok (.tuple #[.int .i64 x, c.val]) w' → wpList Tryz.prog ops Q rest (a.put o.dst (.tuple #[.bool true, .int .i64 x, c.val])) w') :
    wpList Tryz.prog ops Q (o :: rest) a w := by
  obtain ⟨D, left, n, h0, h3, h4⟩ := h.ran
  refine wpList_next_ranges w hg it hop 3 (int_keyed Tryz.underlying3) RV (Value.int .i64) VS.val (fun key kl hk => by obtain ⟨x, rfl, _⟩ := Maps.keyOf_int_inv Tryz.underlying3 hk; exact ⟨x, rfl⟩) (fun v y hy => (RV_inv hy).1) b r n D left cnt hit h0 (fun _ hl => hDone fun x => by rw [h4, hl]) ?_
  intro x c kl y w' cnt' hkey hlk hv hat hrg hlt hgr hsz hen
  obtain ⟨x', ex, rfl, hw⟩ := Maps.keyOf_int_inv Tryz.underlying3 hkey
  injection ex with _ ex
  subst ex
  have hy := (RV_inv hv).2
  have hok : i64ok x := by
    have h1 : (decide (IntKind.i64.min ≤ x) && decide (x ≤ IntKind.i64.max)) = true := hw
    rw [Bool.and_eq_true, decide_eq_true_eq, decide_eq_true_eq, (by decide : IntKind.i64.min = -9223372036854775808), (by decide : IntKind.i64.max = 9223372036854775807)] at h1
    exact h1
  refine hMore x c w' cnt' hok (by rw [h4]; exact hlk) (h3 x _ (by rw [hat .nil, hy])) ⟨D, _, n, hrg, h3, fun z => ?_⟩ hlt ⟨hgr.os, hgr.tape, hgr.output, hgr.size, fun k hk hne => hgr.block k hk (by intro e; injection e with e; exact hne e)⟩ hsz hen
  show (todo z && decide (z ≠ x)) = (left (.int .i64 z) && !(Lit.int .i64 z).sameKey (.int .i64 x))
  rw [h4]
  congr 1
  by_cases e : z = x
  · subst e; simp [Lit.sameKey]
  · simp [Lit.sameKey, e]
end
structure MapP {d : Nat} (P : Value → Val (M d) → Prop) (es : List (Int × Value)) (gs : List (Val (M d))) : Prop where
  keys : es.map Prod.fst = gs.map (·.num)
  at' : ∀ (i : Nat) (e : Int × Value) (g : Val (M d)), es[i]? = some e → gs[i]? = some g → P e.2 g
abbrev MapA (d n0 B : Nat) (w : World) (es : List (Int × Value)) (gs : List (Val (M d))) : Prop := MapP (fun v g => Apart n0 B w fun W => ValAt (MsgAt d) W v g) es gs
abbrev MapV (d : Nat) (w : World) (es : List (Int × Value)) (gs : List (Val (M d))) : Prop := MapP (fun v g => ValAt (MsgAt d) w v g) es gs
theorem MapP.nil {d : Nat} (P : Value → Val (M d) → Prop) : MapP P [] [] := ⟨rfl, fun i e g h => by simp at h⟩
theorem MapP.imp {d : Nat} {P R : Value → Val (M d) → Prop} {es : List (Int × Value)} {gs : List (Val (M d))} (h : MapP P es gs) (hk : ∀ v g, P v g → R v g) : MapP R es gs :=
  ⟨h.keys, fun i e g h1 h2 => hk _ _ (h.at' i e g h1 h2)⟩
theorem MapP.len {d : Nat} {P : Value → Val (M d) → Prop} {es : List (Int × Value)} {gs : List (Val (M d))} (h : MapP P es gs) : es.length = gs.length := by
  have := congrArg List.length h.keys
  rwa [List.length_map, List.length_map] at this
theorem MapP.get {d : Nat} {P : Value → Val (M d) → Prop} {es : List (Int × Value)} {gs : List (Val (M d))} (h : MapP P es gs) {x : Int} {v : Value} (hx : getOf x es = some v) : ∃ g, getV gs x = some g ∧ g.num = x ∧ P v g := by
  obtain ⟨hk, ha⟩ := h
  induction es generalizing gs with
  | nil => simp [getOf] at hx
  | cons e r ih =>
    cases gs with
    | nil => simp at hk
    | cons g t =>
      obtain ⟨k, u⟩ := e
      rw [List.map_cons, List.map_cons] at hk
      injection hk with hk1 hk2
      simp only at hk1
      rw [getOf] at hx
      rw [getV_cons]
      by_cases e : x = k
      · rw [if_pos e] at hx
        injection hx with hx
        subst hx
        rw [if_pos (by omega)]
        exact ⟨g, rfl, by omega, ha 0 _ _ rfl rfl⟩
      · rw [if_neg e] at hx
        rw [if_neg (by omega)]
        exact ih hx hk2 fun i e g h1 h2 => ha (i + 1) e g h1 h2
theorem MapP.none {d : Nat} {P : Value → Val (M d) → Prop} {es : List (Int × Value)} {gs : List (Val (M d))} (h : MapP P es gs) {x : Int} (hx : getOf x es = none) : getV gs x = none := by
  obtain ⟨hk, ha⟩ := h
  induction es generalizing gs with
  | nil =>
    cases gs with
    | nil => rfl
    | cons g t => simp at hk
  | cons e r ih =>
    cases gs with
    | nil => rfl
    | cons g t =>
      obtain ⟨k, u⟩ := e
      rw [List.map_cons, List.map_cons] at hk
      injection hk with hk1 hk2
      simp only at hk1
      rw [getOf] at hx
      rw [getV_cons]
      by_cases e : x = k
      · rw [if_pos e] at hx; cases hx
      · rw [if_neg e] at hx
        rw [if_neg (by omega)]
        exact ih hx hk2 fun i e g h1 h2 => ha (i + 1) e g h1 h2
theorem val_vs {d : Nat} {w : World} {v : Value} {g : Val (M d)} (h : ValAt (MsgAt d) w v g) : i64ok g.num ∧ ∃ c : VS, v = c.val ∧ c.n = g.num := by
  obtain ⟨wv, tv, sv, rfl, hn, hW, hT, hS⟩ := h
  obtain ⟨-, a1, c1, rfl, -, -⟩ := hW.open
  obtain ⟨-, a2, c2, rfl, -, -⟩ := hT.open
  obtain ⟨-, a3, c3, rfl, -, -⟩ := hS.open
  exact ⟨hn, ⟨⟨g.num, a1, _, c1, a2, _, c2, a3, _, c3⟩, rfl, rfl⟩⟩
theorem MapP.ok {d : Nat} {P : Value → Val (M d) → Prop} {es : List (Int × Value)} {gs : List (Val (M d))} (h : MapP P es gs) (hP : ∀ v g, P v g → i64ok g.num ∧ ∃ c : VS, v = c.val ∧ c.n = g.num) : VOk es := by
  intro p hp
  obtain ⟨i, hi⟩ := List.mem_iff_getElem?.1 hp
  obtain ⟨g, hg⟩ : ∃ g, gs[i]? = some g := ⟨_, List.getElem?_eq_getElem (by rw [← h.len]; exact (List.getElem?_eq_some_iff.1 hi).1)⟩
  obtain ⟨h1, c, h2, -⟩ := hP _ _ (h.at' i p g hi hg)
  refine ⟨?_, c, h2⟩
  have := congrArg (fun l => l[i]?) h.keys
  simp only [List.getElem?_map, hi, hg, Option.map_some] at this
  injection this with this
  rw [this]; exact h1
def putG {α : Type} (v : Val α) (gs : List (Val α)) : List (Val α) := if (getV gs v.num).isSome = true then gs.map (fun g => if g.num = v.num then v else g) else gs ++ [v]
theorem getV_app {α : Type} (a b : List (Val α)) (n : Int) : getV (a ++ b) n = match getV a n with | some v => some v | none => getV b n := by
  induction a with
  | nil => rfl
  | cons x r ih =>
    rw [List.cons_append, getV_cons, getV_cons]
    by_cases h : x.num = n
    · rw [if_pos h, if_pos h]
    · rw [if_neg h, if_neg h]; exact ih
theorem putG_get {α : Type} (v : Val α) (gs : List (Val α)) (n : Int) : getV (putG v gs) n = if v.num = n then some v else getV gs n := by
  unfold putG
  have hm : ∀ l : List (Val α), getV (l.map fun g => if g.num = v.num then v else g) n = if v.num = n then (if (getV l v.num).isSome = true then some v else none) else getV l n := by
    intro l
    induction l with
    | nil => simp [getV_nil]
    | cons x r ih =>
      rw [List.map_cons, getV_cons, ih, getV_cons, getV_cons]
      by_cases h1 : x.num = v.num
      · rw [if_pos h1]
        by_cases h2 : v.num = n
        · rw [if_pos h2, if_pos h2]; simp [h1]
        · rw [if_neg h2, if_neg h2, if_neg h2, if_neg (by omega)]
      · rw [if_neg h1]
        by_cases h2 : v.num = n
        · subst h2
          rw [if_neg h1, if_pos rfl, if_pos rfl]; simp [h1]
        · rw [if_neg h2, if_neg h2]
  split
  · rename_i hs
    rw [hm, if_pos hs]
  · rename_i hs
    rw [getV_app]
    by_cases h2 : v.num = n
    · subst h2
      rw [if_pos rfl]
      cases h3 : getV gs v.num with
      | some u => rw [h3] at hs; exact absurd rfl hs
      | none => simp [getV_cons]
    · rw [if_neg h2]
      cases getV gs n with
      | some u => rfl
      | none => simp [getV_cons, getV_nil, h2]
theorem MapP.put {d : Nat} {P : Value → Val (M d) → Prop} {es : List (Int × Value)} {gs : List (Val (M d))} (h : MapP P es gs) (hd : (es.map Prod.fst).Nodup) {v : Val (M d)} {u : Value} (hv : P u v) : MapP P (putK v.num u es) (putG v gs) := by
  have hsome : (getOf v.num es).isSome = (getV gs v.num).isSome := by
    cases h1 : getOf v.num es with
    | some x => obtain ⟨g, hg, -, -⟩ := h.get h1; rw [hg]; rfl
    | none => rw [h.none h1]; rfl
  unfold putK putG
  rw [hsome]
  split
  · obtain ⟨hk, ha⟩ := h
    clear hsome
    have key : ∀ (es : List (Int × Value)) (gs : List (Val (M d))), es.map Prod.fst = gs.map (·.num) → (es.map Prod.fst).Nodup → (∀ (i : Nat) (e : Int × Value) (g : Val (M d)), es[i]? = some e → gs[i]? = some g → P e.2 g) →
        MapP P (setAt v.num u es) (gs.map fun g => if g.num = v.num then v else g) := by
      intro es
      induction es with
      | nil => intro gs hk _ _; cases gs with
        | nil => exact MapP.nil P
        | cons g t => simp at hk
      | cons e r ih =>
        intro gs hk hd ha
        cases gs with
        | nil => simp at hk
        | cons g t =>
          obtain ⟨k, x⟩ := e
          rw [List.map_cons, List.map_cons] at hk
          rw [List.map_cons, List.nodup_cons] at hd
          injection hk with hk1 hk2
          simp only at hk1
          have h0 := ha 0 (k, x) g rfl rfl
          have hr : ∀ (i : Nat) (e : Int × Value) (g : Val (M d)), r[i]? = some e → t[i]? = some g → P e.2 g := fun i e g h1 h2 => ha (i + 1) e g h1 h2
          rw [setAt, List.map_cons]
          by_cases e : v.num = k
          · rw [if_pos e, if_pos (by omega)]
            have hid' : t.map (fun g => if g.num = v.num then v else g) = t := by
              rw [List.map_congr_left (g := id) (fun g hg => ?_), List.map_id]
              rw [if_neg]
              · rfl
              · intro e2
                have : g.num ∈ r.map Prod.fst := by rw [hk2]; exact List.mem_map.2 ⟨g, hg, rfl⟩
                rw [e2, e] at this
                exact hd.1 this
            rw [hid']
            refine ⟨by rw [List.map_cons, List.map_cons, hk2]; simp [e], fun i e' g' h1 h2 => ?_⟩
            cases i with
            | zero => simp at h1 h2; subst h1 h2; exact hv
            | succ i => exact hr i e' g' (by simpa using h1) (by simpa using h2)
          · rw [if_neg e, if_neg (by omega)]
            have ih' := ih t hk2 hd.2 hr
            refine ⟨by rw [List.map_cons, List.map_cons, ih'.keys]; simp [hk1], fun i e' g' h1 h2 => ?_⟩
            cases i with
            | zero => simp at h1 h2; subst h1 h2; exact h0
            | succ i => exact ih'.at' i e' g' (by simpa using h1) (by simpa using h2)
    exact key es gs hk hd ha
  · refine ⟨by rw [List.map_append, List.map_append, h.keys]; rfl, fun i e g h1 h2 => ?_⟩
    have hl := h.len
    rcases Nat.lt_or_ge i es.length with hlt | hge
    · rw [List.getElem?_append_left hlt] at h1
      rw [List.getElem?_append_left (by omega)] at h2
      exact h.at' i e g h1 h2
    · rw [List.getElem?_append_right hge] at h1
      rw [List.getElem?_append_right (by omega)] at h2
      obtain ⟨hi, e1⟩ := List.getElem?_eq_some_iff.1 h1
      simp at hi
      have hi0 : i - es.length = 0 := by omega
      rw [hi0] at h1
      rw [show i - gs.length = 0 by omega] at h2
      simp at h1 h2
      subst h1 h2
      exact hv
theorem apart_put {n0 B : Nat} {w : World} {P : World → Prop} (h : Apart n0 B w P) {r : Nat} {es' : List (Int × Value)} (h1 : n0 ≤ r) (h2 : r < B) : Apart n0 B (putMap w r intK es') P := fun W hW => h W fun b hlt hc => (hW b (by rw [putMap_size]; exact hlt) hc).trans (putMap_other (by omega))
theorem apart_but {n0 B c : Nat} {w w' : World} {P : World → Prop} (h : Apart n0 B w P) (hb : But c w w') (h1 : n0 ≤ c) (h2 : c < B) : Apart n0 B w' P := fun W hW => h W fun b hlt hc => (hW b (Nat.lt_of_lt_of_le hlt hb.size) hc).trans (hb.block b hlt (by omega))
theorem apart_old {n0 B : Nat} {w0 w : World} {P : World → Prop} (hn : n0 = w0.heap.size) (hb : Below n0 w0 w) (h : ∀ W, (∀ p u, w0.cell? p = some u → W.cell? p = some u) → P W) : Apart n0 B w P := fun _ hW => h _ (keep_apart hn hb hW)
theorem Apart.wider {n n0 B : Nat} {w : World} {P : World → Prop} (h : Apart n B w P) (hn : n ≤ n0) : Apart n0 B w P := fun W hW => h W fun b hb hc => hW b hb (hc.imp (fun h => by omega) id)
theorem apart_vs {d n0 B : Nat} {w : World} {v : Value} {g : Val (M d)} (h : Apart n0 B w fun W => ValAt (MsgAt d) W v g) : i64ok g.num ∧ ∃ c : VS, v = c.val ∧ c.n = g.num := val_vs h.here
theorem zero_tv : ∀ w : World, (zeroValue 67).run Tryz.prog w = .ok (.agg #[.int .i64 0, .slice none 0 0, .slice none 0 0, .slice none 0 0]) w := fun w => by kernel_rfl
theorem tv_lookup {w : World} {r : Nat} {es : List (Int × Value)} (h : MapIs w r intK es) (q : Int) (ok : Bool) : (Instr.lookup 102 (.map (some r)) (.int .i64 q) ok).run Tryz.prog w = .ok (if ok then .tuple #[(getOf q es).getD (.agg #[.int .i64 0, .slice none 0 0, .slice none 0 0, .slice none 0 0]), .bool (getOf q es).isSome] else (getOf q es).getD (.agg #[.int .i64 0, .slice none 0 0, .slice none 0 0, .slice none 0 0])) w :=
  map_lookup (P := Tryz.prog) intK_ok Tryz.underlying102 zero_tv h q ok
theorem tv_put {w : World} {r : Nat} {es : List (Int × Value)} (h : MapIs w r intK es) (n : Int) (v : Value) :
    (Instr.mapUpdate 102 (.map (some r)) (.int .i64 n) v).run Tryz.prog w = .ok () (putMap w r intK (putK n v es)) :=
  map_put (P := Tryz.prog) intK_ok int_sameBits Tryz.underlying102 h n v
theorem mapIs_laterV {w w' : World} {r : Nat} {es : List (Int × Value)} (h : MapIs w r intK es) (hb : Below w.heap.size w w') : MapIs w' r intK es := by
  unfold MapIs at *
  have hr : r < w.heap.size := (Array.getElem?_eq_some_iff.1 h).1
  rw [hb.block r hr]; exact h
theorem but_putMap {w : World} {r : Nat} {es' : List (Int × Value)} : But r w (putMap w r intK es') :=
  ⟨rfl, rfl, rfl, by rw [putMap_size]; exact Nat.le_refl _, fun c _ hne => putMap_other hne⟩
theorem keysV_nodup {k : Int} {v : Value} {es : List (Int × Value)} (h : (es.map Prod.fst).Nodup) : ((putK k v es).map Prod.fst).Nodup := by
  have hset : ∀ es : List (Int × Value), (setAt k v es).map Prod.fst = es.map Prod.fst := by
    intro es
    induction es with
    | nil => rfl
    | cons e r ih =>
      obtain ⟨q, u⟩ := e
      rw [setAt]
      split
      · rfl
      · rw [List.map_cons, List.map_cons, ih]
  unfold putK
  split
  · rw [hset]; exact h
  · rename_i hk
    have hn : k ∉ es.map Prod.fst := by
      intro hm
      obtain ⟨⟨k', u⟩, hu, rfl⟩ := List.mem_map.1 hm
      exact hk (by rw [(getOf_iff h).2 hu]; rfl)
    rw [List.map_append, List.nodup_append]
    refine ⟨h, by simp, fun a ha b hb e => ?_⟩
    simp only [List.map_cons, List.map_nil, List.mem_singleton] at hb
    subst e
    subst hb
    exact hn ha
end Go.Proofs.YtaefpjecalnbcaaGreat
