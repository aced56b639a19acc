/- schema.by, ByNumber, ByName: the first field that is so. No condition. -/
import Derived.Test.YtbcpeckmnmhfhaaGreatZ09
namespace Go.Proofs.YtbcpeckmnmhfhaaGreat
open Go.RowKit
set_option maxRecDepth 100000 in
theorem schema_ByNumber_1 {w : World} {q : Nat} {x : Int} (hq : w.cell? ⟨q, 0, none⟩ = some (.int .i64 x)) (f : Fld) :
    Calls Tryz.prog 62 #[f.val, .pointer (some ⟨q, 0, none⟩)] w fun e w' => e = .returned (.bool (decide (f.number = x))) ∧ Below w.heap.size w w' := by
  obtain ⟨name, number, kind, rep, packed, of⟩ := f
  simp only [Fld.val]
  have hql : q < w.heap.size := World.block_lt_of_cell? w _ hq
  go_enter Tryz.func62, Tryz.ntmps62
  go_wp2
  go_ret
  refine ⟨ret1 ?_, by (repeat (first | with_reducible exact Below.refl _ _ | with_reducible refine Below.setCell ?_ (by first | omega | (simp; omega) | (simp; done)) _ | with_reducible refine Below.alloc ?_ (by first | omega | (simp; omega) | (simp; done)) _ | with_reducible refine below_drewN ?_ _ | with_reducible refine Below.drew ?_))⟩
  show Value.bool (number == x) = _
  congr 1
theorem firstAt_bds {α : Type} (p : α → Bool) (l : List α) (h : l.length ≤ 140737488355328) : -1 ≤ firstAt p l 0 ∧ firstAt p l 0 ≤ 140737488355328 := by
  rcases firstAt_bd p l 0 with h | ⟨j, h, h1, h2⟩
  · rw [h]; omega
  · rw [h]; omega
set_option maxRecDepth 100000 in
set_option maxHeartbeats 4000000 in
theorem schema_by {w : World} {v : Value} {fs : List Fld} (h : FieldsAt w v fs) (nm : ByteArray) (F : Nat) (cap : Array Value) (p : Fld → Bool) (hcf : ∀ (args : Array Value) (w : World), (callFunc F args).run Tryz.prog w = .ok (.enter F args) w)
    (hcl : ∀ (f : Fld) (wr : World), f.Ok → Below w.heap.size w wr → Calls Tryz.prog F (#[f.val] ++ cap) wr fun e w' => e = .returned (.bool (p f)) ∧ Below wr.heap.size wr w') :
    Calls Tryz.prog 61 #[.agg #[.string nm, v], .func (.func F) #[] cap] w fun e w' => e = .returned (.tuple #[.int .i64 (if 0 ≤ firstAt p fs 0 then firstAt p fs 0 else 0), .bool (decide (0 ≤ firstAt p fs 0))]) ∧ Below w.heap.size w w' := by
  have hB1 : Below w.heap.size w (w.alloc (.cells #[.string nm, v] 55)) := (Below.refl _ _).alloc (Nat.le_refl _) _
  have HI := hid (indexFunc_fld (h.keep (w' := w.alloc (.cells #[.string nm, v] 55)) (below_keeps hB1)) F cap p hcf (fun f wr hok hb => hcl f wr hok (hB1.trans (hb.mono (by simp)))))
  have hbd := firstAt_bds p fs h.1.2.1
  obtain ⟨hlen, a, c, rfl, -⟩ := h.open
  generalize firstAt p fs 0 = k at *
  clear h hcl
  by_cases hk : 0 ≤ k
  · rw [if_pos hk]
    go_enter Tryz.func61, Tryz.ntmps61
    go_wp2_with fail
    refine HI.out.mono ?_
    rintro e w1 ⟨rfl, hb1⟩
    go_wp2_with fail
    go_ret2
    refine ⟨?_, below_step hB1 hb1 (by simp)⟩
    first | rfl | (simp [hk]) | (simp [hk]; omega)
  · rw [if_neg hk]
    go_enter Tryz.func61, Tryz.ntmps61
    go_wp2_with fail
    refine HI.out.mono ?_
    rintro e w1 ⟨rfl, hb1⟩
    go_wp2_with fail
    go_ret2
    refine ⟨?_, below_step hB1 hb1 (by simp)⟩
    first | rfl | (simp [hk]) | (simp [hk]; omega)
set_option maxRecDepth 100000 in
set_option maxHeartbeats 4000000 in
theorem schema_ByNumber {w : World} {v : Value} {fs : List Fld} (h : FieldsAt w v fs) (nm : ByteArray) (x : Int) :
    Calls Tryz.prog 41 #[.agg #[.string nm, v], .int .i64 x] w fun e w' => e = .returned (.tuple #[.int .i64 (if 0 ≤ fieldAt fs x then fieldAt fs x else 0), .bool (decide (0 ≤ fieldAt fs x))]) ∧ Below w.heap.size w w' := by
  have H := hid h
  obtain ⟨hlen, a, c, rfl, -⟩ := h.open
  obtain ⟨k, HK⟩ : ∃ k, Hid (firstAt (fun f : Fld => decide (f.number = x)) fs 0 = k) := ⟨_, rfl⟩
  rw [show fieldAt fs x = k from HK.out]
  clear h
  by_cases hk : 0 ≤ k
  all_goals
    go_enter Tryz.func41, Tryz.ntmps41
    go_wp2_with fail
    refine (schema_by (H.out.keep (w' := (w.alloc _).alloc _) (below_keeps (Below.alloc ((Below.refl _ _).alloc (Nat.le_refl _) _) (by simp) _))) nm 62 _ (fun f => decide (f.number = x)) (fun args w => by simp [go_sem]) ?_).mono ?_
    · intro f wr hok hb
      refine schema_ByNumber_1 ?_ f
      have := below_keeps hb ⟨w.heap.size + 1, 0, none⟩ (.int .i64 x) (by simp [go_sem])
      exact this
    · rintro e w5 ⟨rfl, hb⟩
      rw [HK.out]
      first | rw [if_pos hk] | rw [if_neg (by omega)]
      go_wp2_with fail
      go_ret2
      refine ⟨?_, below_step (Below.alloc ((Below.refl _ _).alloc (Nat.le_refl _) _) (by simp) _) hb (by simp; omega)⟩
      first | rfl | (simp [hk])
end Go.Proofs.YtbcpeckmnmhfhaaGreat
