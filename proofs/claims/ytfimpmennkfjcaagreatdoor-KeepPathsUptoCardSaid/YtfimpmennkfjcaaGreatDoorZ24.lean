/- Plain laws: a field's value, of valid records, fits it. No condition. Plain laws: a right schema's numbers; the meaning of valid bytes is right (tof_right). No condition. Plain laws: a record that is put is read (rnext_rput, vlook_rput); its bytes told as records (arecs_rput). No condition. Plain laws: a number's bytes are read back (kread_kput), a run of them too (runWords_kpack). No condition. tree.Fits, tree.right, tree.Right: fitsB, rightB, for each depth. The meaning's weight is at most 2^40. tree.right, tree.Right: rightB, for each depth. The meaning's weight is at most 2^40. darningref14.Many, Fits: fitsB, where Right tells rightB of the messages in it. The value's weight is at most 2^40. darningref14.Right: rightB, for each depth, where the schema is right; darningref13.Args, darningref15.May of one meaning. The meaning's weight is at most 2^40. tree.Right; darningref13.Args, darningref15.May of one meaning: mayCode. The meaning's weight is at most 2^40. -/
import Derived.Test.YtfimpmennkfjcaaGreatDoorZ19
import Derived.Test.YtfimpmennkfjcaaGreatDoorZ20
import Derived.Test.YtfimpmennkfjcaaGreatDoorZ22
import Derived.Test.YtfimpmennkfjcaaGreatDoorZ23
import Derived.StillTailTactics
import Derived.BigQuiet
namespace Go.Proofs.YtfimpmennkfjcaaGreatDoor
open Go.RowKit
/-- what is asked of a field's records -/
structure FieldRecs (R : Int → List UInt8 → Prop) (f : Fld) (l : List UInt8) (xs : List VW) : Prop where
  kind : kright f.kind = true
  run : ∀ x ∈ xs, x.run = true → f.rep = true ∧ knumber f.kind = true
  text : f.kind = 15 → ∀ x ∈ xs, ufirst (vbytes l x) = (vbytes l x).length
  sub : f.kind = 17 → (∀ x ∈ xs, R f.of (vbytes l x)) ∧ (f.rep = false → xs ≠ [] → R f.of (xs.flatMap (vbytes l)))
end Go.Proofs.YtfimpmennkfjcaaGreatDoor
namespace Go.Proofs.YtfimpmennkfjcaaGreatDoor
open Go.RowKit
theorem firstAt_first (p : Fld → Bool) (fs : List Fld) (q : Nat) (hq : q < fs.length) (hp : p (fs.getD q .zero) = true) (hb : ∀ j, j < q → p (fs.getD j .zero) = false) :
    ∀ (j k : Nat), k + j = q → firstAt p (fs.drop k) k = (q : Int)
  | 0, k, h => by
    obtain rfl : k = q := by omega
    rw [firstAt_at p fs k hq, hp, if_pos rfl]
  | j + 1, k, h => by
    rw [firstAt_at p fs k (by omega), hb k (by omega), if_neg (by decide)]
    exact firstAt_first p fs q hq hp hb j (k + 1) (by omega)
/-- numbers of a message of a right schema -/
structure Nums (fs : List Fld) : Prop where
  met : ∀ i, i < fs.length → numMet (fs.take i) (fs.getD i .zero).number = false
  pos : ∀ i, i < fs.length → 1 ≤ (fs.getD i .zero).number
theorem Nums.ne {fs : List Fld} (h : Nums fs) {i j : Nat} (hij : i < j) (hj : j < fs.length) : (fs.getD i .zero).number ≠ (fs.getD j .zero).number := by
  intro e
  have h1 := h.met j hj
  unfold numMet at h1
  rw [List.any_eq_false] at h1
  have hi : i < fs.length := by omega
  have h2 := h1 (fs.getD i .zero) (by
    have e2 : fs.getD i .zero = fs[i] := by simp [List.getD, hi]
    rw [e2]
    exact List.mem_take_iff_getElem.2 ⟨i, by omega, rfl⟩)
  exact h2 (decide_eq_true e)
theorem Nums.at {fs : List Fld} (h : Nums fs) {q : Nat} (hq : q < fs.length) : fieldAt fs (fs.getD q .zero).number = q := by
  have := firstAt_first (fun f => decide (f.number = (fs.getD q .zero).number)) fs q hq (decide_eq_true rfl) (fun j hj => decide_eq_false (h.ne hj hq)) q 0 (by omega)
  rw [List.drop_zero] at this
  exact this
theorem Nums.lt {fs : List Fld} (h : Nums fs) {i j : Int} (hi : 0 ≤ i ∧ i < fs.length) (hj : 0 ≤ j ∧ j < fs.length) (ha : Ahead fs i j) : numAt fs i < numAt fs j := by
  rcases ha with ha | ⟨h1, h2⟩
  · exact ha
  · exact absurd h1 (h.ne (i := i.toNat) (j := j.toNat) (by omega) (by omega))
end Go.Proofs.YtfimpmennkfjcaaGreatDoor
namespace Go.Proofs.YtfimpmennkfjcaaGreatDoor
open Go.RowKit
end Go.Proofs.YtfimpmennkfjcaaGreatDoor
namespace Go.Proofs.YtfimpmennkfjcaaGreatDoor
open Go.RowKit
end Go.Proofs.YtfimpmennkfjcaaGreatDoor
namespace Go.Proofs.YtfimpmennkfjcaaGreatDoor
open Go.RowKit
end Go.Proofs.YtfimpmennkfjcaaGreatDoor
namespace Go.Proofs.YtfimpmennkfjcaaGreatDoor
open Go.RowKit
end Go.Proofs.YtfimpmennkfjcaaGreatDoor
namespace Go.Proofs.YtfimpmennkfjcaaGreatDoor
open Go.RowKit
end Go.Proofs.YtfimpmennkfjcaaGreatDoor
namespace Go.Proofs.YtfimpmennkfjcaaGreatDoor
open Go.RowKit
theorem wpStill_of_quiet {P : Program} {ops : Array Oper} {w : World} {Q : Act → Prop} : ∀ (l : List Oper) (a : Act), wpQuiet P ops (fun w' => w' = w) Q l a → wpStill P ops w Q l a
  | [], a, h => h
  | o :: rest, a, h => by
    unfold wpQuiet at h
    unfold wpStill
    by_cases hw : Region.wanted o (yielded ops a.tmps) = true
    · rw [if_pos hw] at h ⊢
      obtain ⟨v, h1, h2⟩ := h
      have h3 := h1 w rfl
      unfold Oper.quietAt at h3
      unfold Oper.still
      generalize (execOp a.eval o).run P w = r at *
      cases r with
      | halt x w' => simp only [Oper.quietUpon] at h3
      | ok n w' =>
        cases n <;> simp only [Oper.quietUpon] at h3 <;> simp only [Oper.stillUpon]
        case value u => exact ⟨h3.1, by rw [h3.2]; exact wpStill_of_quiet rest _ h2⟩
        case skip => exact ⟨h3.1, by rw [← h3.2]; exact wpStill_of_quiet rest _ h2⟩
        case enter f args => exact ⟨h3.1, v, h3.2, wpStill_of_quiet rest _ h2⟩
    · rw [if_neg hw] at h ⊢
      exact wpStill_of_quiet rest _ h
end Go.Proofs.YtfimpmennkfjcaaGreatDoor
namespace Go.Proofs.YtfimpmennkfjcaaGreatDoor
open Go.RowKit
end Go.Proofs.YtfimpmennkfjcaaGreatDoor
