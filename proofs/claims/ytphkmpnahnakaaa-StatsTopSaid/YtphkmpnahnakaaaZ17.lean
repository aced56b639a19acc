/- Plain laws: a field's value, of valid records, fits it. No condition. Plain laws: a right schema's numbers; the meaning of valid bytes is right (tof_right). No condition. Plain laws: the weight of the meaning of bytes (tof_weight). No condition. -/
import Derived.Test.YtphkmpnahnakaaaZ16
namespace Go.Proofs.Ytphkmpnahnakaaa
open Go.RowKit
/-- what is asked of a field's records -/
structure FieldRecs (R : Int → List UInt8 → Prop) (f : Fld) (l : List UInt8) (xs : List VW) : Prop where
  kind : kright f.kind = true
  run : ∀ x ∈ xs, x.run = true → f.rep = true ∧ knumber f.kind = true
  text : f.kind = 15 → ∀ x ∈ xs, ufirst (vbytes l x) = (vbytes l x).length
  sub : f.kind = 17 → (∀ x ∈ xs, R f.of (vbytes l x)) ∧ (f.rep = false → xs ≠ [] → R f.of (xs.flatMap (vbytes l)))
end Go.Proofs.Ytphkmpnahnakaaa
namespace Go.Proofs.Ytphkmpnahnakaaa
open Go.RowKit
theorem firstAt_first (p : Fld → Bool) (fs : List Fld) (q : Nat) (hq : q < fs.length) (hp : p (fs.getD q .zero) = true) (hb : ∀ j, j < q → p (fs.getD j .zero) = false) :
    ∀ (j k : Nat), k + j = q → firstAt p (fs.drop k) k = (q : Int)
  | 0, k, h => by
    obtain rfl : k = q := by omega
    rw [firstAt_at p fs k hq, hp, if_pos rfl]
  | j + 1, k, h => by
    rw [firstAt_at p fs k (by omega), hb k (by omega), if_neg (by decide)]
    exact firstAt_first p fs q hq hp hb j (k + 1) (by omega)
/-- numbers of a message of a right schema -/
structure Nums (fs : List Fld) : Prop where
  met : ∀ i, i < fs.length → numMet (fs.take i) (fs.getD i .zero).number = false
  pos : ∀ i, i < fs.length → 1 ≤ (fs.getD i .zero).number
theorem Nums.ne {fs : List Fld} (h : Nums fs) {i j : Nat} (hij : i < j) (hj : j < fs.length) : (fs.getD i .zero).number ≠ (fs.getD j .zero).number := by
  intro e
  have h1 := h.met j hj
  unfold numMet at h1
  rw [List.any_eq_false] at h1
  have hi : i < fs.length := by omega
  have h2 := h1 (fs.getD i .zero) (by
    have e2 : fs.getD i .zero = fs[i] := by simp [List.getD, hi]
    rw [e2]
    exact List.mem_take_iff_getElem.2 ⟨i, by omega, rfl⟩)
  exact h2 (decide_eq_true e)
theorem Nums.at {fs : List Fld} (h : Nums fs) {q : Nat} (hq : q < fs.length) : fieldAt fs (fs.getD q .zero).number = q := by
  have := firstAt_first (fun f => decide (f.number = (fs.getD q .zero).number)) fs q hq (decide_eq_true rfl) (fun j hj => decide_eq_false (h.ne hj hq)) q 0 (by omega)
  rw [List.drop_zero] at this
  exact this
theorem Nums.lt {fs : List Fld} (h : Nums fs) {i j : Int} (hi : 0 ≤ i ∧ i < fs.length) (hj : 0 ≤ j ∧ j < fs.length) (ha : Ahead fs i j) : numAt fs i < numAt fs j := by
  rcases ha with ha | ⟨h1, h2⟩
  · exact ha
  · exact absurd h1 (h.ne (i := i.toNat) (j := j.toNat) (by omega) (by omega))
end Go.Proofs.Ytphkmpnahnakaaa
namespace Go.Proofs.Ytphkmpnahnakaaa
open Go.RowKit
def vsize (x : VW) : Nat := x.r.to - x.r.start
def vsum (l : List VW) : Nat := (l.map vsize).sum
/-- a view's value is shorter than its record -/
def Thin (x : VW) : Prop := 1 + (x.r.to - x.r.at') ≤ vsize x
theorem vall_sum (fs : List Fld) (l : List UInt8) : ∀ (n i : Nat), i ≤ l.length → vsum (vallGo fs l n i).1 + i ≤ l.length ∧ ∀ x ∈ (vallGo fs l n i).1, Thin x
  | 0, i, hi => by simp [vallGo, vsum]; omega
  | n + 1, i, hi => by
    rw [vallGo]
    by_cases h : l.length ≤ i
    · rw [if_pos h]; simp [vsum]; omega
    rw [if_neg h]
    rcases vlook_cases fs l i with ⟨c, hc, e, -⟩ | ⟨r, h1, h2, h3, h4, -, hcase⟩
    · rw [e, if_pos hc]; simp [vsum]; omega
    · obtain ⟨k, run, e⟩ : ∃ k run, vlook fs l i = (r, k, run, 0) := by
        rcases hcase with e | ⟨k, run, -, e, -⟩
        · exact ⟨_, _, e⟩
        · exact ⟨_, _, e⟩
      rw [e, if_neg (by simp)]
      simp only
      obtain ⟨g1, g2⟩ := vall_sum fs l n r.to h4
      split
      · simp [vsum]; omega
      · refine ⟨?_, fun x hx => ?_⟩
        · unfold vsum at g1 ⊢
          rw [List.map_cons, List.sum_cons]
          have : vsize ⟨r, k, run⟩ = r.to - r.start := rfl
          omega
        · rcases List.mem_cons.1 hx with rfl | hx
          · unfold Thin vsize; simp only; omega
          · exact g2 x hx
end Go.Proofs.Ytphkmpnahnakaaa
