/- What the document's Fault of a field returns, of any schema: fieldFault. The two places lie in the schema. -/
import Derived.Test.YtfimpmennkfjcaaGreatDoorZ07
namespace Go.Proofs.YtfimpmennkfjcaaGreatDoor
open Go.RowKit
theorem str_beq (a b : ByteArray) : (a.toList == b.toList) = decide (a = b) := by
  rw [Bool.eq_iff_iff, beq_iff_eq, toList_inj, decide_eq_true_iff]
def boxAt (w : World) (B : Nat) (f : Fld) : Prop := w.heap[B]? = some (.cells #[.string f.name, .int .i64 f.number, .int .i64 f.kind, .bool f.rep, .bool f.packed, .int .i64 f.of] 64 (0, 0))
theorem boxAt.cells {w : World} {B : Nat} {f : Fld} (h : boxAt w B f) : w.cell? ⟨B, 0, none⟩ = some (.string f.name) ∧ w.cell? ⟨B, 1, none⟩ = some (.int .i64 f.number) ∧ w.cell? ⟨B, 2, none⟩ = some (.int .i64 f.kind) ∧
    w.cell? ⟨B, 3, none⟩ = some (.bool f.rep) ∧ w.cell? ⟨B, 4, none⟩ = some (.bool f.packed) ∧ w.cell? ⟨B, 5, none⟩ = some (.int .i64 f.of) ∧ B < w.heap.size := by
  unfold boxAt at h
  refine ⟨by simp [World.cell?, h], by simp [World.cell?, h], by simp [World.cell?, h], by simp [World.cell?, h], by simp [World.cell?, h], by simp [World.cell?, h], ?_⟩
  rw [Array.getElem?_eq_some_iff] at h
  exact h.1
end Go.Proofs.YtfimpmennkfjcaaGreatDoor
