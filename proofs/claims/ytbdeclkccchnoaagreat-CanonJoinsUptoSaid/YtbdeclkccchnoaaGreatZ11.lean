/- Parts of a proof: texts of the author, merged. No condition of their own. -/
import Derived.Test.YtbdeclkccchnoaaGreatZ01
import Derived.Test.YtbdeclkccchnoaaGreatZ02
import Derived.Test.YtbdeclkccchnoaaGreatZ05
import Derived.Test.YtbdeclkccchnoaaGreatZ07
import Derived.Test.YtbdeclkccchnoaaGreatZ09
import Derived.Test.YtbdeclkccchnoaaGreatZ10
import Derived.Deep.AppendSrc
import Derived.Maps.AppendAt
import Derived.OwnWalk
import Derived.OwnWalkIn
namespace Go.Proofs.YtbdeclkccchnoaaGreat
open Go.RowKit
structure VW where
  r : Rec
  k : Int
  run : Bool
def VW.cells (x : VW) : List Value := viewL x.r x.k x.run
def vallGo (fs : List Fld) (l : List UInt8) : Nat → Nat → List VW × Nat × Nat
  | 0, _ => ([], 0, 0)
  | n + 1, i =>
    if l.length ≤ i then ([], 0, 0) else
    if (vlook fs l i).2.2.2 ≠ 0 then ([], i, (vlook fs l i).2.2.2) else
    let x := vallGo fs l n (vlook fs l i).1.to
    if x.2.2 ≠ 0 then ([], x.2.1, x.2.2) else (⟨(vlook fs l i).1, (vlook fs l i).2.1, (vlook fs l i).2.2.1⟩ :: x.1, 0, 0)
def vall (fs : List Fld) (l : List UInt8) : List VW × Nat × Nat := vallGo fs l l.length 0
def glueV (pre : List VW) (x : List VW × Nat × Nat) : List VW × Nat × Nat := if x.2.2 ≠ 0 then ([], x.2.1, x.2.2) else (pre ++ x.1, 0, 0)
theorem vallGo_form (fs : List Fld) (l : List UInt8) : ∀ n i, (vallGo fs l n i).2.2 ≠ 0 → (vallGo fs l n i).1 = []
  | 0, _, h => by simp [vallGo] at h
  | n + 1, i, h => by
    rw [vallGo] at h ⊢
    split
    · rfl
    · split
      · rfl
      · simp only
        split
        · rfl
        · rename_i h1 h2 h3
          rw [if_neg h1, if_neg h2] at h
          simp only at h
          rw [if_neg h3] at h
          exact absurd rfl h
theorem vallGo_place (fs : List Fld) (l : List UInt8) : ∀ n i, (vallGo fs l n i).2.2 = 0 → (vallGo fs l n i).2.1 = 0
  | 0, _, _ => rfl
  | n + 1, i, h => by
    rw [vallGo] at h ⊢
    split
    · rfl
    · split
      · rename_i h1 h2
        rw [if_neg h1, if_pos h2] at h
        exact absurd h h2
      · simp only
        split
        · rename_i h1 h2 h3
          rw [if_neg h1, if_neg h2] at h
          simp only at h
          rw [if_pos h3] at h
          exact absurd h h3
        · rfl
theorem glueV_nil (fs : List Fld) (l : List UInt8) (n i : Nat) : glueV [] (vallGo fs l n i) = vallGo fs l n i := by
  unfold glueV
  split
  · rename_i h
    have := vallGo_form fs l n i h
    rw [← this]
  · rename_i h
    have h' : (vallGo fs l n i).2.2 = 0 := by omega
    have := vallGo_place fs l n i h'
    rw [List.nil_append]
    generalize vallGo fs l n i = x at *
    obtain ⟨a, b, c⟩ := x
    simp only at *
    subst h'
    subst this
    rfl
theorem vlook_ok {fs : List Fld} {l : List UInt8} {i : Nat} (h : (vlook fs l i).2.2.2 = 0) : i < l.length ∧ i < (vlook fs l i).1.to ∧ (vlook fs l i).1.to ≤ l.length ∧ (rnext l i).2 = 0 ∧ (vlook fs l i).1 = (rnext l i).1 := by
  have hr : (rnext l i).2 = 0 := by
    refine Decidable.byContradiction fun hn => ?_
    unfold vlook at h
    rw [if_pos hn] at h
    exact hn h
  have hv : (vlook fs l i).1 = (rnext l i).1 := by
    unfold vlook at h ⊢
    rw [if_neg (by omega)] at h ⊢
    split
    · rfl
    · rename_i h1
      rw [if_neg h1] at h
      simp only at h ⊢
      split
      · rfl
      · rename_i h2
        rw [if_neg h2] at h
        split
        · rename_i h3
          rw [if_pos h3] at h
          simp at h
        · rfl
  have := rnext_ok hr
  rw [hv]
  exact ⟨this.1, this.2.1, this.2.2, hr, rfl⟩
theorem glueV_step {fs : List Fld} {l : List UInt8} {n i : Nat} {pre : List VW} {r : Rec} {k : Int} {run : Bool} (hi : i < l.length) (h : vlook fs l i = (r, k, run, 0)) :
    glueV pre (vallGo fs l (n + 1) i) = glueV (pre ++ [⟨r, k, run⟩]) (vallGo fs l n r.to) := by
  rw [vallGo, if_neg (by omega), h]
  simp only [ne_eq, not_true_eq_false, if_false]
  unfold glueV
  by_cases hx : (vallGo fs l n r.to).2.2 = 0
  · simp [hx]
  · simp [hx]
theorem glueV_bad {fs : List Fld} {l : List UInt8} {n i : Nat} {pre : List VW} {c : Nat} (hi : i < l.length) (h : (vlook fs l i).2.2.2 = c) (hc : c ≠ 0) : glueV pre (vallGo fs l (n + 1) i) = ([], i, c) := by
  rw [vallGo, if_neg (by omega), if_pos (by rw [h]; exact hc), h]
  unfold glueV
  simp [hc]
theorem glueV_end {fs : List Fld} {l : List UInt8} {n i : Nat} {pre : List VW} (hi : l.length ≤ i) : glueV pre (vallGo fs l n i) = (pre, 0, 0) := by
  cases n with
  | zero => simp [vallGo, glueV]
  | succ n => rw [vallGo, if_pos hi]; simp [glueV]
end Go.Proofs.YtbdeclkccchnoaaGreat
namespace Go.Proofs.YtbdeclkccchnoaaGreat
variable {T : Type} {R : T → T → Prop}
theorem srt_all_lt (ht : ∀ x y z, R x y → R y z → R x z) {L Q : List T} (hL : L.Pairwise R) (hQ : Q.Pairwise R) (h : L = [] ∨ Q = [] ∨ ∃ x y, L.getLast? = some x ∧ Q.head? = some y ∧ R x y) : ∀ a ∈ L, ∀ b ∈ Q, R a b := by
  intro a ha b hb
  rcases h with rfl | rfl | ⟨x, y, hx, hy, hxy⟩
  · cases ha
  · cases hb
  · have h1 : a = x ∨ R a x := by
      obtain ⟨L', rfl⟩ := List.getLast?_eq_some_iff.1 hx
      rcases List.mem_append.1 ha with h | h
      · exact .inr ((List.pairwise_append.1 hL).2.2 a h x (by simp))
      · exact .inl (by simpa using h)
    have h2 : b = y ∨ R y b := by
      obtain ⟨Q', rfl⟩ := List.head?_eq_some_iff.1 hy
      rcases List.mem_cons.1 hb with h | h
      · exact .inl h
      · exact .inr ((List.pairwise_cons.1 hQ).1 b h)
    rcases h1 with rfl | h1
    · rcases h2 with rfl | h2
      · exact hxy
      · exact ht _ _ _ hxy h2
    · rcases h2 with rfl | h2
      · exact ht _ _ _ h1 hxy
      · exact ht _ _ _ (ht _ _ _ h1 hxy) h2
theorem merge_join (ht : ∀ x y z, R x y → R y z → R x z) {L1 L2 Q1 Q2 Z1 Z2 : List T} (hL : (L1 ++ L2).Pairwise R) (hQ : (Q1 ++ Q2).Pairwise R)
    (h1 : L1 = [] ∨ Q2 = [] ∨ ∃ x y, L1.getLast? = some x ∧ Q2.head? = some y ∧ R x y) (h2 : Q1 = [] ∨ L2 = [] ∨ ∃ x y, Q1.getLast? = some x ∧ L2.head? = some y ∧ R x y)
    (hz1 : Z1.Perm (L1 ++ Q1)) (s1 : Z1.Pairwise R) (hz2 : Z2.Perm (L2 ++ Q2)) (s2 : Z2.Pairwise R) : (Z1 ++ Z2).Pairwise R ∧ (Z1 ++ Z2).Perm ((L1 ++ L2) ++ (Q1 ++ Q2)) := by
  obtain ⟨hl1, hl2, hl⟩ := List.pairwise_append.1 hL
  obtain ⟨hq1, hq2, hq⟩ := List.pairwise_append.1 hQ
  have k1 := srt_all_lt ht hl1 hq2 h1
  have k2 := srt_all_lt ht hq1 hl2 h2
  constructor
  · rw [List.pairwise_append]
    refine ⟨s1, s2, fun a ha b hb => ?_⟩
    rcases List.mem_append.1 (hz1.mem_iff.1 ha) with ha | ha <;> rcases List.mem_append.1 (hz2.mem_iff.1 hb) with hb | hb
    · exact hl a ha b hb
    · exact k1 a ha b hb
    · exact k2 a ha b hb
    · exact hq a ha b hb
  · refine (hz1.append hz2).trans ?_
    have e : ((L1 ++ Q1) ++ (L2 ++ Q2)).Perm (L1 ++ (L2 ++ (Q1 ++ Q2))) := by
      rw [List.append_assoc]
      refine List.Perm.append_left L1 ?_
      rw [← List.append_assoc, ← List.append_assoc]
      exact List.Perm.append_right Q2 List.perm_append_comm
    rw [List.append_assoc L1 L2]
    exact e
theorem srt_insert (ht : ∀ x y z, R x y → R y z → R x z) {Q : List T} {x : T} (hQ : Q.Pairwise R) (i : Nat) (h1 : i = 0 ∨ ∃ y, Q[i - 1]? = some y ∧ R y x) (h2 : Q.length ≤ i ∨ ∃ y, Q[i]? = some y ∧ R x y) :
    (Q.take i ++ x :: Q.drop i).Pairwise R := by
  have hQ' := hQ
  rw [← List.take_append_drop i Q] at hQ'
  obtain ⟨q1, q2, q⟩ := List.pairwise_append.1 hQ'
  have k1 : ∀ a ∈ Q.take i, R a x := by
    intro a ha
    refine srt_all_lt ht q1 (List.pairwise_singleton R x) ?_ a ha x (by simp)
    rcases h1 with rfl | ⟨y, hy, hyx⟩
    · exact .inl rfl
    · refine .inr (.inr ⟨y, x, ?_, rfl, hyx⟩)
      have hl : i - 1 < Q.length := (List.getElem?_eq_some_iff.1 hy).1
      by_cases hi : i = 0
      · subst hi; simp at ha
      · rw [List.getLast?_eq_getElem?, List.length_take, Nat.min_eq_left (by omega), List.getElem?_take, if_pos (by omega)]
        exact hy
  have k2 : ∀ a ∈ Q.drop i, R x a := by
    intro a ha
    refine srt_all_lt ht (List.pairwise_singleton R x) q2 ?_ x (by simp) a ha
    rcases h2 with h2 | ⟨y, hy, hxy⟩
    · exact .inr (.inl (List.drop_eq_nil_of_le h2))
    · refine .inr (.inr ⟨x, y, rfl, ?_, hxy⟩)
      rw [List.head?_drop]; exact hy
  rw [List.pairwise_append, List.pairwise_cons]
  exact ⟨q1, ⟨k2, q2⟩, fun a ha b hb => by
    rcases List.mem_cons.1 hb with rfl | hb
    · exact k1 a ha
    · exact q a ha b hb⟩
theorem perm_insert {Q : List T} (x : T) (i : Nat) : (Q.take i ++ x :: Q.drop i).Perm (x :: Q) := by
  refine List.perm_middle.trans ?_
  rw [List.take_append_drop]
theorem srt_unique (ha : ∀ x y, R x y → ¬ R y x) {l m : List T} (hl : l.Pairwise R) (hm : m.Pairwise R) (h : l.Perm m) : l = m := by
  induction l generalizing m with
  | nil => exact (List.Perm.nil_eq h)
  | cons x r ih =>
    cases m with
    | nil => exact absurd h.length_eq (by simp)
    | cons y s =>
      obtain ⟨hl1, hl2⟩ := List.pairwise_cons.1 hl
      obtain ⟨hm1, hm2⟩ := List.pairwise_cons.1 hm
      have e : x = y := by
        have h1 : x ∈ y :: s := h.mem_iff.1 (by simp)
        have h2 : y ∈ x :: r := h.mem_iff.2 (by simp)
        rcases List.mem_cons.1 h1 with h1 | h1
        · exact h1
        · rcases List.mem_cons.1 h2 with h2 | h2
          · exact h2.symm
          · exact absurd (hm1 x h1) (ha _ _ (hl1 y h2))
      subst e
      rw [ih hl2 hm2 ((List.perm_cons x).1 h)]
end Go.Proofs.YtbdeclkccchnoaaGreat
namespace Go.Proofs.YtbdeclkccchnoaaGreat
def numAt (fs : List Fld) (i : Int) : Int := (fs.getD i.toNat .zero).number
def Ahead (fs : List Fld) (i j : Int) : Prop := numAt fs i < numAt fs j ∨ numAt fs i = numAt fs j ∧ i < j
theorem Ahead.trans {fs : List Fld} (x y z : Int) (h : Ahead fs x y) (h2 : Ahead fs y z) : Ahead fs x z := by unfold Ahead at *; omega
theorem Ahead.asymm {fs : List Fld} (x y : Int) (h : Ahead fs x y) : ¬ Ahead fs y x := by unfold Ahead at *; omega
def upTo (n : Nat) : List Int := (List.range n).map fun k : Nat => (k : Int)
theorem upTo_succ (n : Nat) : upTo (n + 1) = upTo n ++ [(n : Int)] := by unfold upTo; rw [List.range_succ, List.map_append]; rfl
theorem upTo_len (n : Nat) : (upTo n).length = n := by simp [upTo]
theorem upTo_mem {n : Nat} {x : Int} : x ∈ upTo n ↔ 0 ≤ x ∧ x < n := by
  unfold upTo
  rw [List.mem_map]
  constructor
  · rintro ⟨k, hk, rfl⟩
    have := List.mem_range.1 hk
    omega
  · intro h
    exact ⟨x.toNat, List.mem_range.2 (by omega), by omega⟩
def posF (fs : List Fld) (i : Int) (o : List Int) : Nat := (o.takeWhile fun u => decide (numAt fs u ≤ numAt fs i)).length
def insF (fs : List Fld) (i : Int) (o : List Int) : List Int := o.take (posF fs i o) ++ i :: o.drop (posF fs i o)
def sortF (fs : List Fld) : Nat → List Int
  | 0 => []
  | n + 1 => insF fs (n : Int) (sortF fs n)
def sortedF (fs : List Fld) : List Int := sortF fs fs.length
theorem posF_from (fs : List Fld) (i : Int) (o : List Int) : (∀ k, k < posF fs i o → ∃ u, o[k]? = some u ∧ numAt fs u ≤ numAt fs i) ∧ (∀ u, o[posF fs i o]? = some u → numAt fs i < numAt fs u) := by
  unfold posF
  induction o with
  | nil => simp
  | cons u r ih =>
    rw [List.takeWhile_cons]
    by_cases h : numAt fs u ≤ numAt fs i
    · simp only [decide_eq_true h, if_true, List.length_cons]
      refine ⟨fun k hk => ?_, fun v hv => ih.2 v (by simpa using hv)⟩
      cases k with
      | zero => exact ⟨u, rfl, h⟩
      | succ k => simpa using ih.1 k (by omega)
    · simp only [decide_eq_false h, Bool.false_eq_true, if_false, List.length_nil]
      refine ⟨fun k hk => by omega, fun v hv => ?_⟩
      simp at hv
      subst hv
      omega
theorem sortF_ok (fs : List Fld) : ∀ n, (sortF fs n).Perm (upTo n) ∧ (sortF fs n).Pairwise (Ahead fs)
  | 0 => ⟨List.Perm.refl _, List.Pairwise.nil⟩
  | n + 1 => by
    obtain ⟨h1, h2⟩ := sortF_ok fs n
    obtain ⟨h3, h4⟩ := posF_from fs (n : Int) (sortF fs n)
    have hm : ∀ u ∈ sortF fs n, u < (n : Int) := fun u hu => (upTo_mem.1 (h1.mem_iff.1 hu)).2
    rw [sortF, upTo_succ]
    refine ⟨?_, ?_⟩
    · exact (perm_insert _ _).trans ((List.Perm.cons _ h1).trans (List.perm_append_singleton _ _).symm)
    · refine srt_insert Ahead.trans h2 _ ?_ ?_
      · by_cases h0 : posF fs n (sortF fs n) = 0
        · exact .inl h0
        · obtain ⟨u, hu, hle⟩ := h3 (posF fs n (sortF fs n) - 1) (by omega)
          refine .inr ⟨u, hu, ?_⟩
          have := hm u (List.mem_of_getElem? hu)
          unfold Ahead
          omega
      · by_cases hl : (sortF fs n).length ≤ posF fs n (sortF fs n)
        · exact .inl hl
        · have hu := List.getElem?_eq_getElem (l := sortF fs n) (i := posF fs n (sortF fs n)) (by omega)
          exact .inr ⟨_, hu, .inl (h4 _ hu)⟩
theorem sortF_len (fs : List Fld) (n : Nat) : (sortF fs n).length = n := by rw [(sortF_ok fs n).1.length_eq, upTo_len]
theorem sortedF_len (fs : List Fld) : (sortedF fs).length = fs.length := sortF_len fs _
theorem sortedF_mem {fs : List Fld} {x : Int} (h : x ∈ sortedF fs) : 0 ≤ x ∧ x < fs.length := upTo_mem.1 ((sortF_ok fs _).1.mem_iff.1 h)
theorem sortedF_unique {fs : List Fld} {Z : List Int} (h : Z.Perm (upTo fs.length)) (hs : Z.Pairwise (Ahead fs)) : Z = sortedF fs :=
  srt_unique Ahead.asymm hs (sortF_ok fs _).2 (h.trans (sortF_ok fs _).1.symm)
theorem upTo_sorted (_fs : List Fld) (n : Nat) : (upTo n).Pairwise fun i j => i < j := by
  induction n with
  | zero => exact List.Pairwise.nil
  | succ n ih =>
    rw [upTo_succ, List.pairwise_append]
    refine ⟨ih, List.pairwise_singleton _ _, fun a ha b hb => ?_⟩
    have := upTo_mem.1 ha
    simp at hb
    omega
end Go.Proofs.YtbdeclkccchnoaaGreat
namespace Go.Proofs.YtbdeclkccchnoaaGreat
open Go.RowKit
def wordL : List UInt8 → Nat
  | [] => 0
  | c :: r => c.toNat + 256 * wordL r
def wordOf (l : List UInt8) : Nat := wordL (l.take 8)
theorem wordL_snoc (l : List UInt8) (c : UInt8) : wordL (l ++ [c]) = wordL l + c.toNat * 256 ^ l.length := by
  induction l with
  | nil => simp [wordL]
  | cons x r ih =>
    rw [List.cons_append, wordL, ih, wordL, List.length_cons, Nat.pow_succ, Nat.mul_add]
    have : c.toNat * (256 ^ r.length * 256) = 256 * (c.toNat * 256 ^ r.length) := by
      rw [← Nat.mul_assoc, Nat.mul_comm]
    omega
theorem wordL_lt (l : List UInt8) : wordL l < 256 ^ l.length := by
  induction l with
  | nil => simp [wordL]
  | cons x r ih =>
    have := UInt8.toNat_lt x
    rw [wordL, List.length_cons, Nat.pow_succ]
    omega
theorem wordOf_lt (l : List UInt8) : wordOf l < 18446744073709551616 := by
  have h1 := wordL_lt (l.take 8)
  have h2 : (256 : Nat) ^ (l.take 8).length ≤ 256 ^ 8 := Nat.pow_le_pow_right (by decide) (List.length_take_le _ _)
  have h3 : (256 : Nat) ^ 8 = 18446744073709551616 := by decide
  unfold wordOf
  omega
theorem or_byte (acc k c : Nat) (ha : acc < 256 ^ k) (hk : k ≤ 7) (hc : c < 256) :
    bits .or .u64 (acc : Int) (IntKind.u64.wrap (IntKind.u64.wrap (c : Int) * 2 ^ (8 * k))) = ((acc + c * 256 ^ k : Nat) : Int) := by
  have e2 : (2 : Int) ^ (8 * k) = ((256 ^ k : Nat) : Int) := by
    rw [Int.pow_mul]; simp
  have h2 : (256 : Nat) ^ (k + 1) ≤ 256 ^ 8 := Nat.pow_le_pow_right (by omega) (by omega)
  have e8 : (256 : Nat) ^ 8 = 2 ^ 64 := by decide
  have h1 : c * 256 ^ k ≤ 255 * 256 ^ k := Nat.mul_le_mul_right _ (by omega)
  rw [Nat.pow_succ] at h2
  have e3 : IntKind.u64.wrap (c : Int) = (c : Int) := by
    rw [IntKind.wrap_u64]; omega
  have e4 : IntKind.u64.wrap ((c : Int) * ((256 ^ k : Nat) : Int)) = ((c * 256 ^ k : Nat) : Int) := by
    rw [IntKind.wrap_u64, ← Int.natCast_mul]; omega
  rw [e3, e2, e4, bits_or_u64_nat _ _ (by omega) (by omega)]
  congr 1
  have := Nat.two_pow_add_eq_or_of_lt (i := 8 * k) (b := acc) (by rw [Nat.pow_mul]; exact ha) c
  rw [Nat.or_comm, Nat.add_comm, Nat.mul_comm c]
  rw [Nat.pow_mul] at this
  exact this.symm
theorem wordL_take (l : List UInt8) (i : Nat) (h : i < l.length) : wordL (l.take (i + 1)) = wordL (l.take i) + (l.getD i 0).toNat * 256 ^ i := by
  rw [List.take_succ_eq_append_getElem h, wordL_snoc, List.length_take, Nat.min_eq_left (by omega), List.getD_eq_getElem?_getD, List.getElem?_eq_getElem h]
  rfl
set_option maxRecDepth 100000 in
set_option maxHeartbeats 4000000 in
theorem bits_Word {w : World} {v : Value} {l : List UInt8} (h : Bytes w v l) :
    Calls Tryz.prog 101 #[v] w fun e w' => e = .returned (.int .u64 (wordOf l : Nat)) ∧ w = w' := by
  obtain ⟨hlen, a, cap, rfl, -, -, hnil, -⟩ := h.open
  obtain ⟨n, HN⟩ : ∃ n, Hid (n = l.length) := ⟨_, rfl⟩
  rw [← HN.out] at hlen h ⊢
  obtain ⟨k, HK⟩ : ∃ k, Hid (k = min n 8) := ⟨_, rfl⟩
  have hk8 : k ≤ 8 := by rw [HK.out]; omega
  have hkn : k ≤ n := by rw [HK.out]; omega
  obtain ⟨v2, hr, hb⟩ := h.h HN.out k hkn
  have HB := hid hb
  obtain ⟨-, a2, cap2, rfl, -, -, -, hat⟩ := hb.open
  have hl2 : (l.take k).length = k := by rw [List.length_take]; have := HN.out; omega
  rw [hl2] at hr hat
  have HAT := hid hat
  have HW : Hid (wordOf l = wordL (l.take k)) := by
    show wordL (l.take 8) = _
    rw [HK.out]
    by_cases h8 : n ≤ 8
    · rw [Nat.min_eq_left h8, List.take_of_length_le (by rw [← HN.out]; exact h8), List.take_of_length_le (by rw [← HN.out]; omega)]
    · rw [Nat.min_eq_right (by omega)]
  clear h hb hat hnil
  by_cases h8 : n ≤ 8
  · obtain rfl : k = n := by rw [HK.out]; omega
    go_enter Tryz.func101, Tryz.ntmps101
    go_wp2_with fail
    go_loopw [3, 12] (fun v3 v12 wr => ∃ i x : Nat, v12 = .int .i64 (i : Int) ∧ v3 = .int .u64 (x : Int) ∧ i ≤ k ∧ w = wr ∧ Hid (x = wordL ((l.take k).take i))) (fun _ v12 _ => k - (intOf v12).toNat)
    case atStart => exact ⟨0, 0, rfl, rfl, by omega, rfl, rfl⟩
    case round =>
      obtain ⟨i, x, rfl, rfl, hi, rfl, HV⟩ := hrel
      by_cases hlt : i < k
      · obtain ⟨b, o, ha, g0⟩ := HAT.out i hlt
        have hix := index_run1 under_bytes size_u8 ha i hlt (cap := cap2)
        obtain ⟨c, HC⟩ : ∃ c, Hid (c = (l.take k).getD i 0) := ⟨_, rfl⟩
        rw [← HC.out] at g0
        have HE : Hid (bits .or .u64 (x : Int) (IntKind.u64.wrap (IntKind.u64.wrap (c.toNat : Int) * 2 ^ (8 * i))) = ((wordL ((l.take k).take (i + 1)) : Nat) : Int)) := by
          have h1 := wordL_lt ((l.take k).take i)
          rw [List.length_take, hl2, Nat.min_eq_left (by omega)] at h1
          rw [Hid, or_byte x i c.toNat (by rw [HV.out]; exact h1) (by omega) (UInt8.toNat_lt c), wordL_take _ _ (by rw [hl2]; exact hlt), ← HV.out, ← HC.out]
        clear ha
        go_wp2_with fail
        go_roundw
        case rel => exact ⟨i + 1, wordL ((l.take k).take (i + 1)), by go_num, by rw [HE.out], hlt, by first | rfl | trivial, rfl⟩
        case measure => simp [intOf]; omega
      · obtain rfl : i = k := by omega
        have HE : Hid (x = wordOf l) := by rw [Hid, HV.out, HW.out, List.take_of_length_le (by rw [hl2]; omega)]
        go_wp2_with fail
        go_ret
        exact ⟨by rw [HE.out]; first | done | rfl, rfl⟩
  · obtain rfl : k = 8 := by rw [HK.out]; omega
    have hr8 : ∀ W, (Instr.slice 32 (.slice a n cap) none (some (.int .i64 8)) none).run Tryz.prog W = .ok (.slice a2 8 cap2) W := hr
    clear hr
    go_enter Tryz.func101, Tryz.ntmps101
    go_wp2_with fail
    go_loopw [3, 12] (fun v3 v12 wr => ∃ i x : Nat, v12 = .int .i64 (i : Int) ∧ v3 = .int .u64 (x : Int) ∧ i ≤ 8 ∧ w = wr ∧ Hid (x = wordL ((l.take 8).take i))) (fun _ v12 _ => 8 - (intOf v12).toNat)
    case atStart => exact ⟨0, 0, rfl, rfl, by omega, rfl, rfl⟩
    case round =>
      obtain ⟨i, x, rfl, rfl, hi, rfl, HV⟩ := hrel
      by_cases hlt : i < 8
      · obtain ⟨b, o, ha, g0⟩ := HAT.out i hlt
        have hix := index_run1 under_bytes size_u8 ha i hlt (cap := cap2)
        obtain ⟨c, HC⟩ : ∃ c, Hid (c = (l.take 8).getD i 0) := ⟨_, rfl⟩
        rw [← HC.out] at g0
        have HE : Hid (bits .or .u64 (x : Int) (IntKind.u64.wrap (IntKind.u64.wrap (c.toNat : Int) * 2 ^ (8 * i))) = ((wordL ((l.take 8).take (i + 1)) : Nat) : Int)) := by
          have h1 := wordL_lt ((l.take 8).take i)
          rw [List.length_take, hl2, Nat.min_eq_left (by omega)] at h1
          rw [Hid, or_byte x i c.toNat (by rw [HV.out]; exact h1) (by omega) (UInt8.toNat_lt c), wordL_take _ _ (by rw [hl2]; exact hlt), ← HV.out, ← HC.out]
        clear ha
        go_wp2_with fail
        go_roundw
        case rel => exact ⟨i + 1, wordL ((l.take 8).take (i + 1)), by go_num, by rw [HE.out], hlt, by first | rfl | trivial, rfl⟩
        case measure => simp [intOf]; omega
      · obtain rfl : i = 8 := by omega
        have HE : Hid (x = wordOf l) := by rw [Hid, HV.out, HW.out, List.take_of_length_le (by rw [hl2]; omega)]
        go_wp2_with fail
        go_ret
        exact ⟨by rw [HE.out]; first | done | rfl, rfl⟩
end Go.Proofs.YtbdeclkccchnoaaGreat
namespace Go.Proofs.YtbdeclkccchnoaaGreat
open Go.RowKit
def kread (k : Int) (l : List UInt8) : Nat × Nat := if rfits (kwire k) l = true then (kcanon k (if kwire k = 0 then (vread l).1 else wordOf l), 0) else (0, 12)
theorem kwire_015 {k : Int} (h : knumber k = true) : kwire k = 0 ∨ kwire k = 1 ∨ kwire k = 5 := by
  have h' : 1 ≤ k ∧ k ≤ 14 := of_decide_eq_true h
  unfold kwire
  rw [if_neg (by omega), if_neg (by omega)]
  by_cases h1 : 12 ≤ k
  · rw [if_pos h1]; omega
  · rw [if_neg h1]
    by_cases h2 : 9 ≤ k
    · rw [if_pos h2]; omega
    · rw [if_neg h2]; omega
theorem kright_num {k : Int} (h : knumber k = true) : kright k = true := by unfold knumber at h; unfold kright; simp at h ⊢; omega
set_option maxRecDepth 100000 in
set_option maxHeartbeats 4000000 in
theorem scalar_Read {k : Int} (hk : knumber k = true) {w : World} {v : Value} {l : List UInt8} (h : Bytes w v l) :
    Calls Tryz.prog 68 #[.int .i64 k, v] w fun e w' => e = .returned (.tuple #[.int .u64 ((kread k l).1 : Nat), .int .u8 ((kread k l).2 : Nat)]) ∧ Below w.heap.size w w' := by
  have HK := hid hk
  have HV := hid h
  have HKW := hid (kwire_015 hk)
  obtain ⟨hlen, a, cap, rfl, -, -, -, -⟩ := h.open
  obtain ⟨n, HN⟩ : ∃ n, Hid (n = l.length) := ⟨_, rfl⟩
  rw [← HN.out] at hlen HV ⊢
  obtain ⟨x, c, HX⟩ : ∃ x c, Hid (kread k l = (x, c)) := ⟨_, _, rfl⟩
  rw [HX.out]
  have HX2 : Hid ((x, c) = if rfits (kwire k) l = true then (kcanon k (if kwire k = 0 then (vread l).1 else wordOf l), 0) else (0, 12)) := HX.out.symm
  obtain ⟨y, s, cv, HY⟩ : ∃ y s cv, Hid (vread l = (y, s, cv)) := ⟨_, _, _, rfl⟩
  rw [HY.out] at HX2
  have HVR := hid fun (W : World) (hb : Below w.heap.size w W) => varint_Read (HV.out.below hb)
  rw [HY.out] at HVR
  have HWB := hid fun (W : World) (hb : Below w.heap.size w W) => bits_Word (HV.out.below hb)
  obtain ⟨z, HZ⟩ : ∃ z, Hid (wordOf l = z) := ⟨_, rfl⟩
  rw [HZ.out] at HX2 HWB
  have HKN := hid fun W => kind_Number k W
  rw [hk] at HKN
  have HKWI := hid fun W => kind_Wire_num k hk W
  have HFI : Hid (rfits (kwire k) l = if (kwire k : Int) = 0 then decide (cv = 0 ∧ s = n) else if (kwire k : Int) = 1 then decide (n = 8) else if (kwire k : Int) = 5 then decide (n = 4) else decide ((kwire k : Int) = 2)) := by
    rw [Hid, rfits, HY.out, HN.out]
  clear h hk
  rcases HKW.out with h0 | h0 | h0
  · rw [h0] at HX2 HFI HKWI
    have HWIDE : Hid ((if (0 : Int) = 1 then (8 : Int) else if (0 : Int) = 5 then 4 else 0) = 0) := rfl
    have HFI2 : Hid (rfits ((0 : Nat) : Int) l = decide (cv = 0 ∧ s = n)) := by rw [HFI.out]; rfl
    go_enter Tryz.func68, Tryz.ntmps68
    go_wp2_with fail
    refine (HKN.out _).mono ?_
    rintro e w1 ⟨rfl, hb1⟩
    have HB1 := hid hb1
    clear hb1
    go_wp2_with fail
    refine (HKWI.out _).mono ?_
    rintro e w2 ⟨rfl, hb2⟩
    have HB2 : Hid (Below w.heap.size w w2) := below_step HB1.out hb2 HB1.out.size
    clear hb2
    go_wp2_with fail
    refine (scalar_wide 0 (by decide) _).mono ?_
    rintro e w2' ⟨rfl, rfl⟩
    simp only [HWIDE.out]
    go_wp2_with fail
    refine (HVR.out _ HB2.out).mono ?_
    rintro e w3 ⟨rfl, rfl⟩
    by_cases hc : cv = 0
    · by_cases hs : s = n
      · have HRES : Hid (x = kcanon k y ∧ c = 0) := by
          have h1 := HX2.out
          rw [HFI2.out, decide_eq_true (And.intro hc hs)] at h1
          simp only [if_true] at h1
          exact ⟨congrArg Prod.fst h1, congrArg Prod.snd h1⟩
        subst hc
        have e1 : ((s : Int) != (n : Int)) = false := by simp; omega
        have e2 : ((s : Int) == (n : Int)) = true := by simp; omega
        have e3 : (s != n) = false := by simp; omega
        clear hs
        go_wp2_with fail
        refine (kind_Canon HK.out _ _).mono ?_
        rintro e w4 ⟨rfl, hb4⟩
        have HB4 : Hid (Below w.heap.size w w4) := below_step HB2.out hb4 HB2.out.size
        clear hb4
        go_wp2_with fail
        go_ret2
        exact ⟨by rw [HRES.out.1, HRES.out.2]; first | done | rfl, HB4.out⟩
      · have HRES : Hid (x = 0 ∧ c = 12) := by
          have h1 := HX2.out
          rw [HFI2.out, decide_eq_false (fun h => hs h.2), if_neg (by decide)] at h1
          exact ⟨congrArg Prod.fst h1, congrArg Prod.snd h1⟩
        subst hc
        have e1 : ((s : Int) != (n : Int)) = true := by simp; omega
        have e2 : ((s : Int) == (n : Int)) = false := by simp; omega
        have e3 : (s != n) = true := by simp; omega
        clear hs
        go_wp2_with fail
        go_ret2
        exact ⟨by rw [HRES.out.1, HRES.out.2]; first | done | rfl, HB2.out⟩
    · have HRES : Hid (x = 0 ∧ c = 12) := by
        have h1 := HX2.out
        rw [HFI2.out, decide_eq_false (fun h => hc h.1), if_neg (by decide)] at h1
        exact ⟨congrArg Prod.fst h1, congrArg Prod.snd h1⟩
      have hcv : cv < 256 := by
        rcases vread_cases l with ⟨a, b, h, -⟩ | ⟨d, h, h3⟩
        · rw [HY.out] at h; cases h; omega
        · rw [HY.out] at h; cases h; omega
      have e1 : ((cv : Int) != 0) = true := by simp; exact hc
      have e2 : ((cv : Int) == 0) = false := by simp; exact hc
      have e3 : (cv != 0) = true := by simp; exact hc
      clear hc
      go_wp2_with fail
      go_ret2
      exact ⟨by rw [HRES.out.1, HRES.out.2]; first | done | rfl, HB2.out⟩
  · rw [h0] at HX2 HFI HKWI
    have HWIDE : Hid ((if (1 : Int) = 1 then (8 : Int) else if (1 : Int) = 5 then 4 else 0) = 8) := rfl
    have HFI2 : Hid (rfits ((1 : Nat) : Int) l = decide (n = 8)) := by rw [HFI.out]; rfl
    go_enter Tryz.func68, Tryz.ntmps68
    go_wp2_with fail
    refine (HKN.out _).mono ?_
    rintro e w1 ⟨rfl, hb1⟩
    have HB1 := hid hb1
    clear hb1
    go_wp2_with fail
    refine (HKWI.out _).mono ?_
    rintro e w2 ⟨rfl, hb2⟩
    have HB2 : Hid (Below w.heap.size w w2) := below_step HB1.out hb2 HB1.out.size
    clear hb2
    go_wp2_with fail
    refine (scalar_wide 1 (by decide) _).mono ?_
    rintro e w2' ⟨rfl, rfl⟩
    simp only [HWIDE.out]
    by_cases hs : n = 8
    · have HRES : Hid (x = kcanon k z ∧ c = 0) := by
        have h1 := HX2.out
        rw [HFI2.out, decide_eq_true hs, if_pos rfl, if_neg (by decide)] at h1
        exact ⟨congrArg Prod.fst h1, congrArg Prod.snd h1⟩
      have e1 : ((n : Int) != 8) = false := by simp; omega
      have e2 : ((n : Int) == 8) = true := by simp; omega
      have e3 : (n != 8) = false := by simp; omega
      clear hs
      go_wp2_with fail
      refine (HWB.out _ HB2.out).mono ?_
      rintro e w3 ⟨rfl, rfl⟩
      go_wp2_with fail
      refine (kind_Canon HK.out _ _).mono ?_
      rintro e w4 ⟨rfl, hb4⟩
      have HB4 : Hid (Below w.heap.size w w4) := below_step HB2.out hb4 HB2.out.size
      clear hb4
      go_wp2_with fail
      go_ret2
      exact ⟨by rw [HRES.out.1, HRES.out.2]; first | done | rfl, HB4.out⟩
    · have HRES : Hid (x = 0 ∧ c = 12) := by
        have h1 := HX2.out
        rw [HFI2.out, decide_eq_false hs, if_neg (by decide)] at h1
        exact ⟨congrArg Prod.fst h1, congrArg Prod.snd h1⟩
      have e1 : ((n : Int) != 8) = true := by simp; omega
      have e2 : ((n : Int) == 8) = false := by simp; omega
      have e3 : (n != 8) = true := by simp; omega
      clear hs
      go_wp2_with fail
      go_ret2
      exact ⟨by rw [HRES.out.1, HRES.out.2]; first | done | rfl, HB2.out⟩
  · rw [h0] at HX2 HFI HKWI
    have HWIDE : Hid ((if (5 : Int) = 1 then (8 : Int) else if (5 : Int) = 5 then 4 else 0) = 4) := rfl
    have HFI2 : Hid (rfits ((5 : Nat) : Int) l = decide (n = 4)) := by rw [HFI.out]; rfl
    go_enter Tryz.func68, Tryz.ntmps68
    go_wp2_with fail
    refine (HKN.out _).mono ?_
    rintro e w1 ⟨rfl, hb1⟩
    have HB1 := hid hb1
    clear hb1
    go_wp2_with fail
    refine (HKWI.out _).mono ?_
    rintro e w2 ⟨rfl, hb2⟩
    have HB2 : Hid (Below w.heap.size w w2) := below_step HB1.out hb2 HB1.out.size
    clear hb2
    go_wp2_with fail
    refine (scalar_wide 5 (by decide) _).mono ?_
    rintro e w2' ⟨rfl, rfl⟩
    simp only [HWIDE.out]
    by_cases hs : n = 4
    · have HRES : Hid (x = kcanon k z ∧ c = 0) := by
        have h1 := HX2.out
        rw [HFI2.out, decide_eq_true hs, if_pos rfl, if_neg (by decide)] at h1
        exact ⟨congrArg Prod.fst h1, congrArg Prod.snd h1⟩
      have e1 : ((n : Int) != 4) = false := by simp; omega
      have e2 : ((n : Int) == 4) = true := by simp; omega
      have e3 : (n != 4) = false := by simp; omega
      clear hs
      go_wp2_with fail
      refine (HWB.out _ HB2.out).mono ?_
      rintro e w3 ⟨rfl, rfl⟩
      go_wp2_with fail
      refine (kind_Canon HK.out _ _).mono ?_
      rintro e w4 ⟨rfl, hb4⟩
      have HB4 : Hid (Below w.heap.size w w4) := below_step HB2.out hb4 HB2.out.size
      clear hb4
      go_wp2_with fail
      go_ret2
      exact ⟨by rw [HRES.out.1, HRES.out.2]; first | done | rfl, HB4.out⟩
    · have HRES : Hid (x = 0 ∧ c = 12) := by
        have h1 := HX2.out
        rw [HFI2.out, decide_eq_false hs, if_neg (by decide)] at h1
        exact ⟨congrArg Prod.fst h1, congrArg Prod.snd h1⟩
      have e1 : ((n : Int) != 4) = true := by simp; omega
      have e2 : ((n : Int) == 4) = false := by simp; omega
      have e3 : (n != 4) = true := by simp; omega
      clear hs
      go_wp2_with fail
      go_ret2
      exact ⟨by rw [HRES.out.1, HRES.out.2]; first | done | rfl, HB2.out⟩
end Go.Proofs.YtbdeclkccchnoaaGreat
namespace Go.Proofs.YtbdeclkccchnoaaGreat
open Go.RowKit
theorem src_append {P : Program} (w : World) (base : Nat) (t tx ty e : TypeId) (z : Value) (size bytes : Nat) (ht : P.underlying t = some (.slice e)) (hinfo : (P.info? e).map (fun i => (i.zero, i.size, i.bytes)) = some (some z, size, bytes))
    (hzs : z.cells.size = size) (v x : Value) (n m : Nat) (xs news : List Value) (hown : w.ownsRow base e size v n xs) (hx : Src P size tx x m news w)
    (h63 : n + m ≤ 140737488355328) (hbytes : (n + m) * bytes ≤ 140737488355328) (hbase : base ≤ w.heap.size) :
    ∃ v' w', (Builtin.append_ #[t, tx] ty #[v, x]).run P w = .ok v' w' ∧ w'.ownsRow base e size v' (n + m) (xs ++ news) ∧ w.grownBy w' v.ownBlock ∧ (v'.ownBlock = v.ownBlock ∨ v'.ownBlock = some w.heap.size) := by
  obtain ⟨i, hi, hz, hsize, hby⟩ := info_parts hinfo
  subst hsize
  subst hby
  have hl := hx.newsLen
  have h63' : n + m ≤ maxLen := by unfold maxLen; omega
  have hlen : (xs ++ news).length = (n + m) * i.size := by rw [List.length_append, hown.1, hl, Nat.add_mul]
  have grown : ∀ (old : Nat), old < n + m → ∀ (row : Option Nat),
      (w.drew.alloc (.cells ((xs ++ news).toArray ++ Builtin.zeroCells z.cells (grownCap w (n + m) old e - (n + m))) e)).ownsRow base e i.size
        (.slice (some ⟨w.heap.size, 0, none⟩) (n + m) (grownCap w (n + m) old e)) (n + m) (xs ++ news) ∧
      w.grownBy (w.drew.alloc (.cells ((xs ++ news).toArray ++ Builtin.zeroCells z.cells (grownCap w (n + m) old e - (n + m))) e)) row := by
    intro old ho row
    have hge := grownCap_ge w (n + m) old e
    have hcm : grownCap w (n + m) old e ≤ maxLen := grownCap_le_maxLen w (n + m) old e h63'
    refine ⟨⟨hlen, .inr ⟨w.heap.size, _, _, rfl, hbase, heap_alloc_new w.drew _, hge, hcm, ?_, ?_⟩⟩, ⟨rfl, rfl, rfl, by simp, fun k hk _ => heap_alloc_old w.drew _ hk⟩⟩
    · rw [Array.size_append, size_zeroCells, List.size_toArray, hlen, hzs, ← Nat.add_mul]
      congr 1
      omega
    · rw [Array.toList_append, List.take_append_of_le_length (by simpa using Nat.le_of_eq hlen.symm), ← hlen]
      exact List.take_of_length_le (by simp)
  rcases hown.2 with ⟨rfl, rfl⟩ | ⟨g, cap, cur, rfl, hbg, hg, hnc, hcm, hcs, htake⟩
  · have hxs : xs = [] := List.eq_nil_of_length_eq_zero (by simpa using hown.1)
    subst hxs
    by_cases hm : m = 0
    · subst hm
      have hn : news = [] := List.eq_nil_of_length_eq_zero (by simpa using hl)
      subst hn
      refine ⟨.slice none 0 0, w, ?_, World.ownsRow_nil w base e i.size, ⟨rfl, rfl, rfl, Nat.le_refl _, fun _ _ _ => rfl⟩, Or.inl rfl⟩
      rcases hx.kind with ⟨e', hk⟩ | hk <;> simp [Builtin.append_, run_underlying ht, run_underlying hk, sizeOf, typeInfo, hi, hx.len, hx.cells]
    · have hr := run_append_grow_src (P := P) w t tx ty e i z ht hi hz none 0 0 [] (by simp [Builtin.firstCells]) x m news hx (by omega) (by omega) (growslice_fits (by omega) hbytes)
      have hgr := grown 0 (by omega) (Value.ownBlock (.slice none 0 0))
      simp only [Nat.zero_add, List.nil_append] at hgr hr ⊢
      exact ⟨_, _, hr, hgr.1, hgr.2, Or.inr rfl⟩
  · by_cases hroom : n + m ≤ cap
    · have hfit : n * i.size + news.length ≤ cur.size := by rw [hl, hcs, ← Nat.add_mul]; exact Nat.mul_le_mul_right _ hroom
      have hst := run_storeCells_at P g (n * i.size) e news 0 cur w hg (by simpa using hfit) hx.one
      simp only [Nat.add_zero] at hst
      have hr : (Builtin.append_ #[t, tx] ty #[.slice (some ⟨g, 0, none⟩) n cap, x]).run P w = .ok (.slice (some ⟨g, 0, none⟩) (n + m) cap) (w.setRow g (cur.toList.take (n * i.size) ++ news ++ cur.toList.drop (n * i.size + news.length)).toArray) := by
        rcases hx.kind with ⟨e', hk⟩ | hk <;> simp [Builtin.append_, run_underlying ht, run_underlying hk, sizeOf, typeInfo, hi, hx.len, hroom, hx.cells, Addr.add_lit, hst]
      refine ⟨_, _, hr, ⟨hlen, .inr ⟨g, cap, _, rfl, hbg, setRow_heap w g cur _ e _ hg, hroom, hcm, ?_, ?_⟩⟩, ⟨rfl, rfl, rfl, by simp, fun k _ hk => setRow_other w g k _ (fun e => hk (by simp [Value.ownBlock, e]))⟩, Or.inl rfl⟩
      · simp only [List.size_toArray, List.length_append, List.length_take, List.length_drop, Array.length_toList]
        omega
      · rw [htake, ← hlen]
        exact List.take_left
    · have holds : ∀ j u, xs[j]? = some u → w.cell? ((⟨g, 0, none⟩ : Addr).add j) = some u := hown.cells (g := g) rfl
      have hr := run_append_grow_src (P := P) w t tx ty e i z ht hi hz (some ⟨g, 0, none⟩) n cap xs (run_firstCells_some w.drew i.size n ⟨g, 0, none⟩ n cap xs hown.1 (by simpa using holds)) x m news hx (by omega) (by omega) (growslice_fits (by omega) hbytes)
      have hgr := grown cap (by omega) (Value.ownBlock (.slice (some ⟨g, 0, none⟩) n cap))
      exact ⟨_, _, hr, hgr.1, hgr.2, Or.inr rfl⟩
theorem wp_append2_eq {P : Program} {w : World} {o : Oper} {a : Act} {K : Act → World → Prop} {Q : Exit → Act → World → Prop} (s x : Operand) (t u : TypeId)
    (ho : o.op = .call { callee := .builtin .append, args := #[s, x], argTypes := #[t, u] }) (v xv : Value) (hs : a.eval s = v) (hx : a.eval x = xv) {v' : Value} {w' : World}
    (hr : (Builtin.append_ #[t, u] o.type #[v, xv]).run P w = .ok v' w') (h : K (a.put o.dst v') w') : o.wp P a w K Q := by
  unfold Oper.wp execOp
  simp only [ho, resolve, invoke, builtin, Sem.run_bind, Sem.run_pure, Result.andThen_ok, List.map_toArray, List.map_cons, List.map_nil, hs, hx, hr]
  exact h
theorem wpList_append2_eq {P : Program} {w : World} {ops : Array Oper} {rest : List Oper} {o : Oper} {a : Act} {Q : Exit → Act → World → Prop} (hgd : o.guard = none) (s x : Operand) (t u : TypeId)
    (ho : o.op = .call { callee := .builtin .append, args := #[s, x], argTypes := #[t, u] }) (v xv : Value) (hs : a.eval s = v) (hx : a.eval x = xv) {v' : Value} {w' : World}
    (hr : (Builtin.append_ #[t, u] o.type #[v, xv]).run P w = .ok v' w') (h : wpList P ops Q rest (a.put o.dst v') w') : wpList P ops Q (o :: rest) a w :=
  wpList_plain hgd fun _ hK => wp_append2_eq s x t u ho v xv hs hx hr (hK _ _ h)
theorem wpListIn_append2_eq {F : Fence} {n : Nat} {P : Program} {w : World} {ops : Array Oper} {rest : List Oper} {o : Oper} {a : Act} {Q : Exit → Act → World → Prop} (hgd : o.guard = none) (s x : Operand) (t u : TypeId)
    (ho : o.op = .call { callee := .builtin .append, args := #[s, x], argTypes := #[t, u] }) (v xv : Value) (hs : a.eval s = v) (hx : a.eval x = xv) {v' : Value} {w' : World}
    (hr : (Builtin.append_ #[t, u] o.type #[v, xv]).run P w = .ok v' w') (h : wpListIn F n P ops Q rest (a.put o.dst v') w') : wpListIn F n P ops Q (o :: rest) a w := by
  refine wpListIn_plain hgd fun K hK => ?_
  unfold Oper.wpIn
  refine ⟨?_, ?_⟩
  · simp [Oper.about, ho, resolve, Target.leads, Sem.run_pure]
  · rw [Oper.semAt_plain F _ _ (by rw [ho]; intro c hc'; cases hc')]
    simp [execOp, ho, resolve, invoke, builtin, hs, hx, hr, Result.andThen]
    exact hK _ _ h
end Go.Proofs.YtbdeclkccchnoaaGreat
