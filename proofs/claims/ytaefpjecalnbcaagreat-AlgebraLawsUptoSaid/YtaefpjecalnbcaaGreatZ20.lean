/- Plain laws: all views of bytes (vall). No condition. Plain laws of merging: two sorted rows, cut crosswise and sorted apart, make one sorted row. No condition. Plain laws: the places of fields by rising numbers, what is alike in its order. No condition. Plain laws: the meaning of bytes (tof). No condition. Plain laws: bytes behind bytes have the views of both, and are valid if both are; how many views. No condition. Plain laws: valid bytes behind valid bytes are valid. No condition. Plain laws: the records of bytes, told apart from their places (arecs): of bytes behind bytes they are those of both; the meaning hangs on them alone (msgA). No condition. Plain laws: a record cut out of bytes reads as it did; read words are canonical. No condition. Plain laws: a field's value, of valid records, fits it. No condition. -/
import Derived.Test.YtaefpjecalnbcaaGreatZ01
import Derived.Test.YtaefpjecalnbcaaGreatZ03
import Derived.Test.YtaefpjecalnbcaaGreatZ07
import Derived.Test.YtaefpjecalnbcaaGreatZ12
import Derived.Test.YtaefpjecalnbcaaGreatZ14
import Derived.Test.YtaefpjecalnbcaaGreatZ19
namespace Go.Proofs.YtaefpjecalnbcaaGreat
open Go.RowKit
/-- a view: a record, its field, whether it is a run -/
structure VW where
  r : Rec
  k : Int
  run : Bool
def VW.cells (x : VW) : List Value := viewL x.r x.k x.run
end Go.Proofs.YtaefpjecalnbcaaGreat
namespace Go.Proofs.YtaefpjecalnbcaaGreat
variable {T : Type} {R : T → T → Prop}
theorem srt_all_lt (ht : ∀ x y z, R x y → R y z → R x z) {L Q : List T} (hL : L.Pairwise R) (hQ : Q.Pairwise R) (h : L = [] ∨ Q = [] ∨ ∃ x y, L.getLast? = some x ∧ Q.head? = some y ∧ R x y) : ∀ a ∈ L, ∀ b ∈ Q, R a b := by
  intro a ha b hb
  rcases h with rfl | rfl | ⟨x, y, hx, hy, hxy⟩
  · cases ha
  · cases hb
  · have h1 : a = x ∨ R a x := by
      obtain ⟨L', rfl⟩ := List.getLast?_eq_some_iff.1 hx
      rcases List.mem_append.1 ha with h | h
      · exact .inr ((List.pairwise_append.1 hL).2.2 a h x (by simp))
      · exact .inl (by simpa using h)
    have h2 : b = y ∨ R y b := by
      obtain ⟨Q', rfl⟩ := List.head?_eq_some_iff.1 hy
      rcases List.mem_cons.1 hb with h | h
      · exact .inl h
      · exact .inr ((List.pairwise_cons.1 hQ).1 b h)
    rcases h1 with rfl | h1
    · rcases h2 with rfl | h2
      · exact hxy
      · exact ht _ _ _ hxy h2
    · rcases h2 with rfl | h2
      · exact ht _ _ _ h1 hxy
      · exact ht _ _ _ (ht _ _ _ h1 hxy) h2
/-- one element, put into a sorted row -/
theorem srt_insert (ht : ∀ x y z, R x y → R y z → R x z) {Q : List T} {x : T} (hQ : Q.Pairwise R) (i : Nat) (h1 : i = 0 ∨ ∃ y, Q[i - 1]? = some y ∧ R y x) (h2 : Q.length ≤ i ∨ ∃ y, Q[i]? = some y ∧ R x y) :
    (Q.take i ++ x :: Q.drop i).Pairwise R := by
  have hQ' := hQ
  rw [← List.take_append_drop i Q] at hQ'
  obtain ⟨q1, q2, q⟩ := List.pairwise_append.1 hQ'
  have k1 : ∀ a ∈ Q.take i, R a x := by
    intro a ha
    refine srt_all_lt ht q1 (List.pairwise_singleton R x) ?_ a ha x (by simp)
    rcases h1 with rfl | ⟨y, hy, hyx⟩
    · exact .inl rfl
    · refine .inr (.inr ⟨y, x, ?_, rfl, hyx⟩)
      have hl : i - 1 < Q.length := (List.getElem?_eq_some_iff.1 hy).1
      by_cases hi : i = 0
      · subst hi; simp at ha
      · rw [List.getLast?_eq_getElem?, List.length_take, Nat.min_eq_left (by omega), List.getElem?_take, if_pos (by omega)]
        exact hy
  have k2 : ∀ a ∈ Q.drop i, R x a := by
    intro a ha
    refine srt_all_lt ht (List.pairwise_singleton R x) q2 ?_ x (by simp) a ha
    rcases h2 with h2 | ⟨y, hy, hxy⟩
    · exact .inr (.inl (List.drop_eq_nil_of_le h2))
    · refine .inr (.inr ⟨x, y, rfl, ?_, hxy⟩)
      rw [List.head?_drop]; exact hy
  rw [List.pairwise_append, List.pairwise_cons]
  exact ⟨q1, ⟨k2, q2⟩, fun a ha b hb => by
    rcases List.mem_cons.1 hb with rfl | hb
    · exact k1 a ha
    · exact q a ha b hb⟩
theorem perm_insert {Q : List T} (x : T) (i : Nat) : (Q.take i ++ x :: Q.drop i).Perm (x :: Q) := by
  refine List.perm_middle.trans ?_
  rw [List.take_append_drop]
/-- two sorted rows of the same things are one -/
theorem srt_unique (ha : ∀ x y, R x y → ¬ R y x) {l m : List T} (hl : l.Pairwise R) (hm : m.Pairwise R) (h : l.Perm m) : l = m := by
  induction l generalizing m with
  | nil => exact (List.Perm.nil_eq h)
  | cons x r ih =>
    cases m with
    | nil => exact absurd h.length_eq (by simp)
    | cons y s =>
      obtain ⟨hl1, hl2⟩ := List.pairwise_cons.1 hl
      obtain ⟨hm1, hm2⟩ := List.pairwise_cons.1 hm
      have e : x = y := by
        have h1 : x ∈ y :: s := h.mem_iff.1 (by simp)
        have h2 : y ∈ x :: r := h.mem_iff.2 (by simp)
        rcases List.mem_cons.1 h1 with h1 | h1
        · exact h1
        · rcases List.mem_cons.1 h2 with h2 | h2
          · exact h2.symm
          · exact absurd (hm1 x h1) (ha _ _ (hl1 y h2))
      subst e
      rw [ih hl2 hm2 ((List.perm_cons x).1 h)]
end Go.Proofs.YtaefpjecalnbcaaGreat
namespace Go.Proofs.YtaefpjecalnbcaaGreat
def numAt (fs : List Fld) (i : Int) : Int := (fs.getD i.toNat .zero).number
/-- comes a place ahead of another one? -/
def Ahead (fs : List Fld) (i j : Int) : Prop := numAt fs i < numAt fs j ∨ numAt fs i = numAt fs j ∧ i < j
theorem Ahead.trans {fs : List Fld} (x y z : Int) (h : Ahead fs x y) (h2 : Ahead fs y z) : Ahead fs x z := by unfold Ahead at *; omega
theorem Ahead.asymm {fs : List Fld} (x y : Int) (h : Ahead fs x y) : ¬ Ahead fs y x := by unfold Ahead at *; omega
def upTo (n : Nat) : List Int := (List.range n).map fun k : Nat => (k : Int)
theorem upTo_succ (n : Nat) : upTo (n + 1) = upTo n ++ [(n : Int)] := by unfold upTo; rw [List.range_succ, List.map_append]; rfl
theorem upTo_mem {n : Nat} {x : Int} : x ∈ upTo n ↔ 0 ≤ x ∧ x < n := by
  unfold upTo
  rw [List.mem_map]
  constructor
  · rintro ⟨k, hk, rfl⟩
    have := List.mem_range.1 hk
    omega
  · intro h
    exact ⟨x.toNat, List.mem_range.2 (by omega), by omega⟩
/-- the place in a row where i is put -/
def posF (fs : List Fld) (i : Int) (o : List Int) : Nat := (o.takeWhile fun u => decide (numAt fs u ≤ numAt fs i)).length
def insF (fs : List Fld) (i : Int) (o : List Int) : List Int := o.take (posF fs i o) ++ i :: o.drop (posF fs i o)
def sortF (fs : List Fld) : Nat → List Int
  | 0 => []
  | n + 1 => insF fs (n : Int) (sortF fs n)
/-- the places of all fields -/
def sortedF (fs : List Fld) : List Int := sortF fs fs.length
theorem posF_from (fs : List Fld) (i : Int) (o : List Int) : (∀ k, k < posF fs i o → ∃ u, o[k]? = some u ∧ numAt fs u ≤ numAt fs i) ∧ (∀ u, o[posF fs i o]? = some u → numAt fs i < numAt fs u) := by
  unfold posF
  induction o with
  | nil => simp
  | cons u r ih =>
    rw [List.takeWhile_cons]
    by_cases h : numAt fs u ≤ numAt fs i
    · simp only [decide_eq_true h, if_true, List.length_cons]
      refine ⟨fun k hk => ?_, fun v hv => ih.2 v (by simpa using hv)⟩
      cases k with
      | zero => exact ⟨u, rfl, h⟩
      | succ k => simpa using ih.1 k (by omega)
    · simp only [decide_eq_false h, Bool.false_eq_true, if_false, List.length_nil]
      refine ⟨fun k hk => by omega, fun v hv => ?_⟩
      simp at hv
      subst hv
      omega
theorem sortF_ok (fs : List Fld) : ∀ n, (sortF fs n).Perm (upTo n) ∧ (sortF fs n).Pairwise (Ahead fs)
  | 0 => ⟨List.Perm.refl _, List.Pairwise.nil⟩
  | n + 1 => by
    obtain ⟨h1, h2⟩ := sortF_ok fs n
    obtain ⟨h3, h4⟩ := posF_from fs (n : Int) (sortF fs n)
    have hm : ∀ u ∈ sortF fs n, u < (n : Int) := fun u hu => (upTo_mem.1 (h1.mem_iff.1 hu)).2
    rw [sortF, upTo_succ]
    refine ⟨?_, ?_⟩
    · exact (perm_insert _ _).trans ((List.Perm.cons _ h1).trans (List.perm_append_singleton _ _).symm)
    · refine srt_insert Ahead.trans h2 _ ?_ ?_
      · by_cases h0 : posF fs n (sortF fs n) = 0
        · exact .inl h0
        · obtain ⟨u, hu, hle⟩ := h3 (posF fs n (sortF fs n) - 1) (by omega)
          refine .inr ⟨u, hu, ?_⟩
          have := hm u (List.mem_of_getElem? hu)
          unfold Ahead
          omega
      · by_cases hl : (sortF fs n).length ≤ posF fs n (sortF fs n)
        · exact .inl hl
        · have hu := List.getElem?_eq_getElem (l := sortF fs n) (i := posF fs n (sortF fs n)) (by omega)
          exact .inr ⟨_, hu, .inl (h4 _ hu)⟩
end Go.Proofs.YtaefpjecalnbcaaGreat
namespace Go.Proofs.YtaefpjecalnbcaaGreat
open Go.RowKit
def vbytes (l : List UInt8) (x : VW) : List UInt8 := part l x.r.at' x.r.to
def many {α : Type} (v : Val α) : Nat := v.words.length + v.texts.length + v.subs.length
/-- a view of valid bytes -/
structure ViewOk (s : List Mes) (d m : Nat) (l : List UInt8) (x : VW) : Prop where
  look : ∃ j, vlook (s.getD m .zero).fields l j = (x.r, x.k, x.run, 0)
  right : (vval (vrec s d) (decide (d = 0)) (s.getD m .zero).fields l (x.r, x.k, x.run, 0)).2 = 0
/-- what is known of such a view -/
theorem ViewOk.facts {s : List Mes} {d m : Nat} {l : List UInt8} {x : VW} (h : ViewOk s d m l x) :
    x.r.start ≤ x.r.at' ∧ x.r.at' ≤ x.r.to ∧ x.r.to ≤ l.length ∧ (x.k = -1 ∧ x.run = false ∨ ∃ k : Nat, x.k = k ∧ k < (s.getD m .zero).fields.length ∧
      (x.run = true → ((s.getD m .zero).fields.getD k .zero).rep = true ∧ knumber ((s.getD m .zero).fields.getD k .zero).kind = true) ∧ kright ((s.getD m .zero).fields.getD k .zero).kind = true) := by
  obtain ⟨j, hj⟩ := h.look
  rcases vlook_cases (s.getD m .zero).fields l j with ⟨c, hc, e, -⟩ | ⟨r, h1, h2, h3, h4, h5, e | ⟨k, run, hk, e, -, h6, h7⟩⟩
  · rw [e] at hj
    exact absurd (congrArg (fun t => t.2.2.2) hj) (by simpa using hc)
  · rw [e] at hj
    injection hj with e1 e2
    injection e2 with e2 e3
    injection e3 with e3 e4
    subst e1
    exact ⟨by omega, h3, h4, .inl ⟨e2.symm, e3.symm⟩⟩
  · rw [e] at hj
    injection hj with e1 e2
    injection e2 with e2 e3
    injection e3 with e3 e4
    subst e1
    subst e3
    refine ⟨by omega, h3, h4, .inr ⟨k, e2.symm, hk, fun hr => ⟨(h6 hr).1, (h6 hr).2.1⟩, ?_⟩⟩
    cases hr : x.run with
    | true => exact kright_num (h6 hr).2.1
    | false => exact (h7 hr).1
theorem ViewOk.sub {s : List Mes} {d m : Nat} {l : List UInt8} {x : VW} (h : ViewOk s d m l x) {k : Nat} (hk : x.k = k) (h17 : ((s.getD m .zero).fields.getD k .zero).kind = 17) :
    ∃ d', d = d' + 1 ∧ (vmsg s d' ((s.getD m .zero).fields.getD k .zero).of.toNat (vbytes l x)).2 = 0 := by
  have h1 := h.right
  obtain ⟨-, -, -, h2⟩ := h.facts
  have hr : x.run ≠ true := by
    rintro hr
    rcases h2 with ⟨h2, -⟩ | ⟨k', h2, -, h3, -⟩
    · omega
    · have : k' = k := by omega
      subst this
      have := (h3 hr).2
      rw [h17] at this
      simp [knumber] at this
  unfold vval at h1
  simp only at h1
  rw [if_neg (by omega), if_neg hr, hk, Int.toNat_natCast, if_neg (by rw [h17]; decide), if_pos h17] at h1
  cases d with
  | zero => simp at h1
  | succ d' =>
    refine ⟨d', rfl, ?_⟩
    rw [if_neg (by simp)] at h1
    exact h1
theorem ViewOk.text {s : List Mes} {d m : Nat} {l : List UInt8} {x : VW} (h : ViewOk s d m l x) {k : Nat} (hk : x.k = k) (h15 : ((s.getD m .zero).fields.getD k .zero).kind = 15) :
    ufirst (vbytes l x) = (vbytes l x).length := by
  have h1 := h.right
  obtain ⟨-, -, -, h2⟩ := h.facts
  have hr : x.run ≠ true := by
    rintro hr
    rcases h2 with ⟨h2, -⟩ | ⟨k', h2, -, h3, -⟩
    · omega
    · have : k' = k := by omega
      subst this
      have := (h3 hr).2
      rw [h15] at this
      simp [knumber] at this
  unfold vval at h1
  simp only at h1
  rw [if_neg (by omega), if_neg hr, hk, Int.toNat_natCast, if_pos h15] at h1
  by_cases h3 : ufirst (vbytes l x) = (vbytes l x).length
  · exact h3
  · rw [if_neg (show ¬ (ufirst (part l x.r.at' x.r.to) = (part l x.r.at' x.r.to).length) from h3)] at h1
    simp at h1
theorem ViewOk.words {s : List Mes} {d m : Nat} {l : List UInt8} {x : VW} (h : ViewOk s d m l x) {k : Nat} (hk : x.k = k) (hr : x.run = true) :
    (runCount (kwire ((s.getD m .zero).fields.getD k .zero).kind) (vbytes l x)).2 = 0 := by
  have h1 := h.right
  unfold vval at h1
  simp only at h1
  rw [if_neg (by omega), if_pos hr, hk, Int.toNat_natCast] at h1
  exact h1
end Go.Proofs.YtaefpjecalnbcaaGreat
namespace Go.Proofs.YtaefpjecalnbcaaGreat
open Go.RowKit
end Go.Proofs.YtaefpjecalnbcaaGreat
namespace Go.Proofs.YtaefpjecalnbcaaGreat
open Go.RowKit
end Go.Proofs.YtaefpjecalnbcaaGreat
namespace Go.Proofs.YtaefpjecalnbcaaGreat
open Go.RowKit
/-- a record: its field's place, whether it is a run, its value, all its bytes -/
structure AR where
  k : Int
  run : Bool
  val : List UInt8
  whole : List UInt8
end Go.Proofs.YtaefpjecalnbcaaGreat
namespace Go.Proofs.YtaefpjecalnbcaaGreat
open Go.RowKit
end Go.Proofs.YtaefpjecalnbcaaGreat
namespace Go.Proofs.YtaefpjecalnbcaaGreat
open Go.RowKit
/-- what is asked of a field's records -/
structure FieldRecs (R : Int → List UInt8 → Prop) (f : Fld) (l : List UInt8) (xs : List VW) : Prop where
  kind : kright f.kind = true
  run : ∀ x ∈ xs, x.run = true → f.rep = true ∧ knumber f.kind = true
  text : f.kind = 15 → ∀ x ∈ xs, ufirst (vbytes l x) = (vbytes l x).length
  sub : f.kind = 17 → (∀ x ∈ xs, R f.of (vbytes l x)) ∧ (f.rep = false → xs ≠ [] → R f.of (xs.flatMap (vbytes l)))
end Go.Proofs.YtaefpjecalnbcaaGreat
