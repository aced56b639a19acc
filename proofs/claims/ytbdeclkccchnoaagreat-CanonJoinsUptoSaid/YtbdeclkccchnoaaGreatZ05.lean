/- Parts of a proof: texts of the author, merged. No condition of their own. -/
import Derived.Test.YtbdeclkccchnoaaGreatZ01
import Derived.Test.YtbdeclkccchnoaaGreatZ04
import Derived.Maps.AppendAt
import Derived.RangeFuncFrom
import Derived.Deep.RegionWith
import Derived.Deep.RegionHeld3
import Init
namespace Go.Proofs.YtbdeclkccchnoaaGreat
open Go.RowKit
def Blk (w : World) (b : Nat) (cs : List Value) (T : TypeId) : Prop := w.heap[b]? = some (.cells cs.toArray T (0, 0))
theorem Blk.cell {w : World} {b : Nat} {cs : List Value} {T : TypeId} (h : Blk w b cs T) (j : Nat) (u : Value) (hu : cs[j]? = some u) : w.cell? ⟨b, j, none⟩ = some u := by
  rw [cell_of_row _ _ _ _ T (0, 0) h]; simpa using hu
theorem Blk.free {w : World} {b : Nat} {cs : List Value} {T : TypeId} (h : Blk w b cs T) (j : Nat) : w.frozen? ⟨b, j, none⟩ = false := by
  unfold Blk at h
  simp [World.frozen?, h]
theorem Blk.lt {w : World} {b : Nat} {cs : List Value} {T : TypeId} (h : Blk w b cs T) : b < w.heap.size := by
  unfold Blk at h
  rw [Array.getElem?_eq_some_iff] at h
  exact h.1
theorem Blk.below {w w' : World} {b : Nat} {cs : List Value} {T : TypeId} (h : Blk w b cs T) (hb : Below w.heap.size w w') : Blk w' b cs T := (hb.block b h.lt).trans h
theorem Blk.alloc {w : World} {b : Nat} {cs : List Value} {T : TypeId} (h : Blk w b cs T) (o : Obj) : Blk (w.alloc o) b cs T := (Below.heap_alloc w o b h.lt).trans h
theorem Blk.new (w : World) (cs : List Value) (T : TypeId) : Blk (w.alloc (.cells cs.toArray T)) w.heap.size cs T := heap_alloc_new w _
theorem Blk.set_other {w : World} {b : Nat} {cs : List Value} {T : TypeId} (h : Blk w b cs T) (a : Addr) (v : Value) (hne : b ≠ a.block) : Blk (w.setCell a v) b cs T := (Below.heap_setCell w a v b hne).trans h
theorem Blk.set {w : World} {b : Nat} {cs : List Value} {T : TypeId} (h : Blk w b cs T) (j : Nat) (v : Value) : Blk (w.setCell ⟨b, j, none⟩ v) b (cs.set j v) T := by
  unfold Blk at *
  obtain ⟨hlt, hk⟩ := Array.getElem?_eq_some_iff.1 h
  show (w.heap.modify b _)[b]? = _
  rw [Array.getElem?_eq_getElem (by rw [Array.size_modify]; exact hlt), Array.getElem_modify_self, hk]
  simp
theorem cell_set_other (w : World) (a : Addr) (v : Value) (q j : Nat) (hne : q ≠ a.block) : (w.setCell a v).cell? ⟨q, j, none⟩ = w.cell? ⟨q, j, none⟩ := World.cell?_of_block (Below.heap_setCell w a v q hne)
theorem cell_set7 (w : World) (p q j : Nat) (hne : q ≠ p) (v0 v1 v2 v3 v4 v5 v6 : Value) :
    (((((((w.setCell ⟨p, 0, none⟩ v0).setCell ⟨p, 1, none⟩ v1).setCell ⟨p, 2, none⟩ v2).setCell ⟨p, 3, none⟩ v3).setCell ⟨p, 4, none⟩ v4).setCell ⟨p, 5, none⟩ v5).setCell ⟨p, 6, none⟩ v6).cell? ⟨q, j, none⟩ = w.cell? ⟨q, j, none⟩ := by
  repeat rw [cell_set_other _ _ _ _ _ hne]
theorem Blk.new' (w : World) (cs : List Value) (T : TypeId) (n : Nat) (h : n = w.heap.size) : Blk (w.alloc (.cells cs.toArray T)) n cs T := by subst h; exact Blk.new w cs T
theorem row_keep {w w' : World} {base size n : Nat} {e : TypeId} {v : Value} {xs : List Value} (h : w.ownsRow base e size v n xs)
    (hk : ∀ b cur, base ≤ b → w.heap[b]? = some (.cells cur e (0, 0)) → w'.heap[b]? = w.heap[b]?) : w'.ownsRow base e size v n xs := by
  refine ⟨h.1, ?_⟩
  rcases h.2 with h2 | ⟨g, cap, cur, hv, hb, hg, hnc, hcm, hcs, ht⟩
  · exact .inl h2
  · exact .inr ⟨g, cap, cur, hv, hb, (hk g cur hb hg).trans hg, hnc, hcm, hcs, ht⟩
theorem Blk.grown {w w' : World} {b r : Nat} {cs : List Value} {T : TypeId} (h : Blk w b cs T) (hg : w.grownBy w' (some r)) (hne : b ≠ r) : Blk w' b cs T :=
  (hg.block b h.lt (fun e => hne (Option.some.inj e))).trans h
theorem grown_grown {w w1 w2 : World} {r : Nat} (h : w.grownBy w1 (some r)) (hg : w1.grownBy w2 (some r)) : w.grownBy w2 (some r) :=
  ⟨hg.os.trans h.os, hg.tape.trans h.tape, hg.output.trans h.output, Nat.le_trans h.size hg.size, fun k hk hr => (hg.block k (Nat.lt_of_lt_of_le hk h.size) hr).trans (h.block k hk hr)⟩
theorem Blk.put {W : World} {b r : Nat} {cs : List Value} {T : TypeId} (h : Blk W b cs T) (o : Obj) (hne : b ≠ r) : Blk (W.putObj r o) b cs T :=
  (World.putObj_heap_other hne).trans h
theorem below_put {H : Nat} (W : World) (l : Nat) (o : Obj) (h : H ≤ l) : Below H W (W.putObj l o) :=
  ⟨rfl, rfl, rfl, by simp [World.putObj], fun b hb => World.putObj_heap_other (by omega)⟩
theorem two_results {w W : World} {H B0 B1 BD : Nat} {u0 u1 : Value} {T0 T1 : TypeId} (r0 : Blk W B0 [u0] T0) (r1 : Blk W B1 [u1] T1) (hD : W.heap[BD]? = some (.deferred (some [])))
    (h01 : B0 ≠ B1) (h0 : H ≤ B0) (h1 : H ≤ B1) (hHD : H ≤ BD) (hB : Below H w W) (x y : Value) :
    ((W.setCell ⟨B0, 0, none⟩ x).setCell ⟨B1, 0, none⟩ y).heap[BD]? = some (.deferred (some [])) ∧
    (((W.setCell ⟨B0, 0, none⟩ x).setCell ⟨B1, 0, none⟩ y).putObj BD (.deferred none)).cell? ⟨B0, 0, none⟩ = some x ∧
    (((W.setCell ⟨B0, 0, none⟩ x).setCell ⟨B1, 0, none⟩ y).putObj BD (.deferred none)).cell? ⟨B1, 0, none⟩ = some y ∧
    Below H w (((W.setCell ⟨B0, 0, none⟩ x).setCell ⟨B1, 0, none⟩ y).putObj BD (.deferred none)) := by
  have n0 : BD ≠ B0 := by rintro rfl; unfold Blk at r0; rw [r0] at hD; cases hD
  have n1 : BD ≠ B1 := by rintro rfl; unfold Blk at r1; rw [r1] at hD; cases hD
  have d1 : (W.setCell ⟨B0, 0, none⟩ x).heap[BD]? = some (.deferred (some [])) := (Below.heap_setCell W _ _ _ n0).trans hD
  have d2 : ((W.setCell ⟨B0, 0, none⟩ x).setCell ⟨B1, 0, none⟩ y).heap[BD]? = some (.deferred (some [])) := (Below.heap_setCell _ _ _ _ n1).trans d1
  have s0 : Blk (W.setCell ⟨B0, 0, none⟩ x) B0 [x] T0 := r0.set 0 x
  have s1 : Blk (W.setCell ⟨B0, 0, none⟩ x) B1 [u1] T1 := r1.set_other _ _ (Ne.symm h01)
  have t0 : Blk ((W.setCell ⟨B0, 0, none⟩ x).setCell ⟨B1, 0, none⟩ y) B0 [x] T0 := s0.set_other _ _ h01
  have t1 : Blk ((W.setCell ⟨B0, 0, none⟩ x).setCell ⟨B1, 0, none⟩ y) B1 [y] T1 := s1.set 0 y
  refine ⟨d2, (t0.put _ (Ne.symm n0)).cell 0 _ rfl, (t1.put _ (Ne.symm n1)).cell 0 _ rfl, ?_⟩
  have b2 : Below H w ((W.setCell ⟨B0, 0, none⟩ x).setCell ⟨B1, 0, none⟩ y) := (hB.setCell h0 _).setCell h1 _
  exact b2.trans (below_put _ _ _ hHD)
theorem two_results0 {w W : World} {H B0 B1 BD : Nat} {u0 u1 : Value} {T0 T1 : TypeId} (r0 : Blk W B0 [u0] T0) (r1 : Blk W B1 [u1] T1) (hD : W.heap[BD]? = some (.deferred (some [])))
    (hHD : H ≤ BD) (hB : Below H w W) :
    (W.putObj BD (.deferred none)).cell? ⟨B0, 0, none⟩ = some u0 ∧ (W.putObj BD (.deferred none)).cell? ⟨B1, 0, none⟩ = some u1 ∧ Below H w (W.putObj BD (.deferred none)) := by
  have n0 : BD ≠ B0 := by rintro rfl; unfold Blk at r0; rw [r0] at hD; cases hD
  have n1 : BD ≠ B1 := by rintro rfl; unfold Blk at r1; rw [r1] at hD; cases hD
  exact ⟨(r0.put _ (Ne.symm n0)).cell 0 _ rfl, (r1.put _ (Ne.symm n1)).cell 0 _ rfl, hB.trans (below_put _ _ _ hHD)⟩
theorem seg_blk {w : World} {g : Nat} {cs : List Value} {T : TypeId} (h : Blk w g cs T) (size n : Nat) (hl : cs.length = n * size) (hn : n ≤ 140737488355328) : Seg w (.slice (some ⟨g, 0, none⟩) n n) size n cs :=
  ⟨hl, hn, _, _, rfl, Nat.le_refl _, by omega, by simp, fun j u hu => ⟨g, 0, rfl, by rw [Nat.zero_add]; exact h.cell j u hu⟩⟩
end Go.Proofs.YtbdeclkccchnoaaGreat
namespace Go.Proofs.YtbdeclkccchnoaaGreat
open Go.RowKit
def vlook (fs : List Fld) (l : List UInt8) (i : Nat) : Rec × Int × Bool × Nat :=
  if (rnext l i).2 ≠ 0 then (.none, 0, false, (rnext l i).2) else
  if fieldAt fs (rnext l i).1.number < 0 then ((rnext l i).1, -1, false, 0) else
  let f := fs.getD (fieldAt fs (rnext l i).1.number).toNat .zero
  if (f.rep && knumber f.kind && decide ((rnext l i).1.wire = 2)) = true then ((rnext l i).1, fieldAt fs (rnext l i).1.number, true, 0) else
  if kright f.kind = false ∨ kwire f.kind ≠ (rnext l i).1.wire then (.none, 0, false, 6) else ((rnext l i).1, fieldAt fs (rnext l i).1.number, false, 0)
def recL (r : Rec) : List Value := [.int .i64 r.number, .int .i64 r.wire, .int .i64 r.start, .int .i64 r.at', .int .i64 r.to]
def viewL (r : Rec) (k : Int) (run : Bool) : List Value := [.int .i64 r.number, .int .i64 r.wire, .int .i64 r.start, .int .i64 r.at', .int .i64 r.to, .int .i64 k, .bool run]
def viewV (r : Rec) (k : Int) (run : Bool) : Value := .agg #[.int .i64 r.number, .int .i64 r.wire, .int .i64 r.start, .int .i64 r.at', .int .i64 r.to, .int .i64 k, .bool run]
set_option maxRecDepth 100000 in
set_option maxHeartbeats 4000000 in
theorem view_Look {w : World} {v vf : Value} {l : List UInt8} {fs : List Fld} (h : Bytes w v l) (hf : FieldsAt w vf fs) (nm : ByteArray) (i : Nat) (hi63 : i ≤ 9223372036854775807) :
    Calls Tryz.prog 65 #[.agg #[.string nm, vf], v, .int .i64 i] w fun e w' => e = .returned (.tuple #[viewV (vlook fs l i).1 (vlook fs l i).2.1 (vlook fs l i).2.2.1, .int .u8 (vlook fs l i).2.2.2]) ∧ Below w.heap.size w w' := by
  obtain ⟨hflen, fa, fcap, rfl, hfat⟩ := hf.open
  obtain ⟨fl, HFL⟩ : ∃ fl, Hid (fl = fs.length) := ⟨_, rfl⟩
  have HF := hid hf
  rw [← HFL.out] at hflen hfat ⊢
  have HFAT := hid hfat
  clear hfat hf
  obtain ⟨x, HX⟩ : ∃ x, Hid (x = vlook fs l i) := ⟨_, rfl⟩
  rw [← HX.out]
  unfold vlook at HX
  obtain ⟨r, c, HR⟩ : ∃ r c, Hid (rnext l i = (r, c)) := ⟨_, _, rfl⟩
  rw [HR.out] at HX
  simp only at HX
  go_enter Tryz.func65, Tryz.ntmps65
  go_wp2_with fail
  refine (record_Next (h.keep (w' := (w.alloc _).alloc _) (below_keeps (Below.alloc ((Below.refl _ _).alloc (Nat.le_refl _) _) (by simp) _))) i hi63).mono ?_
  rintro e w1 ⟨rfl, hb⟩
  rw [HR.out]
  have hB0 : Blk w1 w.heap.size [.string nm, .slice fa fl fcap] 47 := ((Blk.new w _ _).alloc _).below hb
  have hB1 : Blk w1 (w.heap.size + 1) (viewL .none 0 false) 93 := by
    refine Blk.below ?_ hb
    have := Blk.new (w.alloc (.cells #[.string nm, .slice fa fl fcap] 47)) (viewL .none 0 false) 93
    rw [show (w.alloc (.cells #[.string nm, .slice fa fl fcap] 47)).heap.size = w.heap.size + 1 by simp] at this
    exact this
  have hb1 : Below w.heap.size w w1 := below_step (Below.alloc ((Below.refl _ _).alloc (Nat.le_refl _) _) (by simp) _) hb (by simp; omega)
  have H0 := hid hB0
  have H1 := hid hB1
  have HB1 := hid hb1
  clear hB0 hB1 hb1
  obtain ⟨B1, HBB⟩ : ∃ B1, Hid (B1 = w.heap.size + 1) := ⟨_, rfl⟩
  obtain ⟨B0, HBA⟩ : ∃ B0, Hid (B0 = w.heap.size) := ⟨_, rfl⟩
  rw [← HBB.out] at H1 ⊢
  rw [← HBA.out] at H0 ⊢
  have hwB1 : w.heap.size ≤ B1 := by rw [HBB.out]; omega
  have hws : w.heap.size ≤ w1.heap.size := HB1.out.size
  by_cases hc : c = 0
  · subst hc
    have HX0 : Hid (x = if fieldAt fs r.number < 0 then (r, -1, false, 0) else
      if ((fs.getD (fieldAt fs r.number).toNat .zero).rep && knumber (fs.getD (fieldAt fs r.number).toNat .zero).kind && decide (r.wire = 2)) = true then (r, fieldAt fs r.number, true, 0) else
      if kright (fs.getD (fieldAt fs r.number).toNat .zero).kind = false ∨ kwire (fs.getD (fieldAt fs r.number).toNat .zero).kind ≠ r.wire then (.none, 0, false, 6) else (r, fieldAt fs r.number, false, 0)) := by
      rw [Hid, HX.out, if_neg (by decide)]
    obtain ⟨r1, r2, r3, r4, r5⟩ := r
    unfold Rec.val
    simp only
    have m0 := H0.out.cell 0 _ rfl
    have m1 := H0.out.cell 1 _ rfl
    have mlt := H0.out.lt
    go_wp2
    obtain ⟨W4, HW4⟩ : ∃ W4, Hid (W4 = w1.alloc (.cells #[.int .i64 r1, .int .i64 r2, .int .i64 r3, .int .i64 r4, .int .i64 r5] 91)) := ⟨_, rfl⟩
    rw [← HW4.out]
    obtain ⟨q, HQ⟩ : ∃ q, Hid (q = w1.heap.size) := ⟨_, rfl⟩
    rw [← HQ.out]
    have HF4 : Hid (Blk W4 q (recL ⟨r1, r2, r3, r4, r5⟩) 91 ∧ Blk W4 B0 [.string nm, .slice fa fl fcap] 47 ∧ Blk W4 B1 (viewL .none 0 false) 93 ∧ Below w.heap.size w W4) := by
      rw [HW4.out]
      exact ⟨by rw [HQ.out]; exact Blk.new w1 (recL ⟨r1, r2, r3, r4, r5⟩) _, H0.out.alloc _, H1.out.alloc _, HB1.out.alloc hws _⟩
    clear m0 m1 mlt
    obtain ⟨k, HKE⟩ : ∃ k, Hid (k = fieldAt fs r1) := ⟨_, rfl⟩
    go_cut [10] (fun s10 wx => ∃ p : Nat, s10 = .pointer (some ⟨p, 0, none⟩) ∧ B1 < p ∧ Hid (Blk wx p (viewL ⟨r1, r2, r3, r4, r5⟩ (fieldAt fs r1) false) 93 ∧ Blk wx q (recL ⟨r1, r2, r3, r4, r5⟩) 91 ∧ Blk wx B0 [.string nm, .slice fa fl fcap] 47 ∧ Blk wx B1 (viewL .none 0 false) 93 ∧ Below w.heap.size w wx))
    case first =>
      have F1 : FieldsAt (W4.alloc (.cells #[.int .i64 0, .int .i64 0, .int .i64 0, .int .i64 0, .int .i64 0, .int .i64 0, .bool false] 93)).drew (.slice fa fl fcap) fs := by
        have := HF.out.keep (below_keeps (HF4.out.2.2.2.alloc HF4.out.2.2.2.size (.cells #[.int .i64 0, .int .i64 0, .int .i64 0, .int .i64 0, .int .i64 0, .int .i64 0, .bool false] 93)))
        rw [← HFL.out] at this
        exact this.keep fun _ _ hu => hu
      have HNB : Hid (Blk (W4.alloc (.cells #[.int .i64 0, .int .i64 0, .int .i64 0, .int .i64 0, .int .i64 0, .int .i64 0, .bool false] 93)).drew W4.heap.size (viewL .none 0 false) 93 ∧ Blk (W4.alloc (.cells #[.int .i64 0, .int .i64 0, .int .i64 0, .int .i64 0, .int .i64 0, .int .i64 0, .bool false] 93)).drew q (recL ⟨r1, r2, r3, r4, r5⟩) 91 ∧ Blk (W4.alloc (.cells #[.int .i64 0, .int .i64 0, .int .i64 0, .int .i64 0, .int .i64 0, .int .i64 0, .bool false] 93)).drew B0 [.string nm, .slice fa fl fcap] 47 ∧ Blk (W4.alloc (.cells #[.int .i64 0, .int .i64 0, .int .i64 0, .int .i64 0, .int .i64 0, .int .i64 0, .bool false] 93)).drew B1 (viewL .none 0 false) 93 ∧ Below w.heap.size w (W4.alloc (.cells #[.int .i64 0, .int .i64 0, .int .i64 0, .int .i64 0, .int .i64 0, .int .i64 0, .bool false] 93)).drew) :=
        ⟨Blk.new W4 _ _, HF4.out.1.alloc _, HF4.out.2.1.alloc _, HF4.out.2.2.1.alloc _, (HF4.out.2.2.2.alloc HF4.out.2.2.2.size _).drew⟩
      have HF1 := hid F1
      clear F1
      have F2 : FieldsAt W4.drew (.slice fa fl fcap) fs := by
        have := HF.out.keep (below_keeps HF4.out.2.2.2)
        rw [← HFL.out] at this
        exact this.keep fun _ _ hu => hu
      have HF2 := hid F2
      clear F2
      have HND : Hid (Blk W4.drew q (recL ⟨r1, r2, r3, r4, r5⟩) 91 ∧ Blk W4.drew B0 [.string nm, .slice fa fl fcap] 47 ∧ Blk W4.drew B1 (viewL .none 0 false) 93 ∧ Below w.heap.size w W4.drew) :=
        ⟨HF4.out.1, HF4.out.2.1, HF4.out.2.2.1, HF4.out.2.2.2.drew⟩
      have q0 := HF4.out.1.cell 0 _ rfl
      have q1 := HF4.out.1.cell 1 _ rfl
      have q2 := HF4.out.1.cell 2 _ rfl
      have q3 := HF4.out.1.cell 3 _ rfl
      have q4 := HF4.out.1.cell 4 _ rfl
      have m0 := HF4.out.2.1.cell 0 _ rfl
      have m1 := HF4.out.2.1.cell 1 _ rfl
      have ql := HF4.out.1.lt
      have m0l := HF4.out.2.1.lt
      go_region_held3 (fun w' => w'.cell? ⟨q, 0, none⟩ = some (.int .i64 r1) ∧ w'.cell? ⟨q, 1, none⟩ = some (.int .i64 r2) ∧ w'.cell? ⟨q, 2, none⟩ = some (.int .i64 r3) ∧ w'.cell? ⟨q, 3, none⟩ = some (.int .i64 r4) ∧ w'.cell? ⟨q, 4, none⟩ = some (.int .i64 r5) ∧ w'.cell? ⟨B0, 0, none⟩ = some (.string nm) ∧ w'.cell? ⟨B0, 1, none⟩ = some (.slice fa fl fcap)) (first | (with_reducible exact ⟨q0', q1', q2', q3', q4', m0', m1'⟩) | (with_reducible exact ⟨q0, q1, q2, q3, q4, m0, m1⟩) | go_keep | (refine ⟨?_, ?_, ?_, ?_, ?_, ?_, ?_⟩ <;> (rw [cell_set7 _ _ _ _ (by omega)]; assumption))) (first | (go_at_call 98; (with_reducible refine (view_field HF1.out nm _).mono ?_); rintro e w5 ⟨rfl, hb5⟩; have HN5 := hid (show Blk w5 W4.heap.size (viewL .none 0 false) 93 ∧ Blk w5 q (recL ⟨r1, r2, r3, r4, r5⟩) 91 ∧ Blk w5 B0 [.string nm, .slice fa fl fcap] 47 ∧ Blk w5 B1 (viewL .none 0 false) 93 ∧ Below w.heap.size w w5 from ⟨HNB.out.1.below hb5, HNB.out.2.1.below hb5, HNB.out.2.2.1.below hb5, HNB.out.2.2.2.1.below hb5, below_step HNB.out.2.2.2.2 hb5 HNB.out.2.2.2.2.size⟩); have q0' := HN5.out.2.1.cell 0 _ rfl; have q1' := HN5.out.2.1.cell 1 _ rfl; have q2' := HN5.out.2.1.cell 2 _ rfl; have q3' := HN5.out.2.1.cell 3 _ rfl; have q4' := HN5.out.2.1.cell 4 _ rfl; have m0' := HN5.out.2.2.1.cell 0 _ rfl; have m1' := HN5.out.2.2.1.cell 1 _ rfl; have p0 := HN5.out.1.cell 0 _ rfl; have p1 := HN5.out.1.cell 1 _ rfl; have p2 := HN5.out.1.cell 2 _ rfl; have p3 := HN5.out.1.cell 3 _ rfl; have p4 := HN5.out.1.cell 4 _ rfl; have p5 := HN5.out.1.cell 5 _ rfl; have p6 := HN5.out.1.cell 6 _ rfl; have pz := HN5.out.1.free; have pl := HN5.out.1.lt) | (go_at_call 98; (with_reducible refine (view_field HF2.out nm _).mono ?_); rintro e w5 ⟨rfl, hb5⟩; have HN6 := hid (show Blk w5 q (recL ⟨r1, r2, r3, r4, r5⟩) 91 ∧ Blk w5 B0 [.string nm, .slice fa fl fcap] 47 ∧ Blk w5 B1 (viewL .none 0 false) 93 ∧ Below w.heap.size w w5 from ⟨HND.out.1.below hb5, HND.out.2.1.below hb5, HND.out.2.2.1.below hb5, below_step HND.out.2.2.2 hb5 HND.out.2.2.2.size⟩); have q0' := HN6.out.1.cell 0 _ rfl; have q1' := HN6.out.1.cell 1 _ rfl; have q2' := HN6.out.1.cell 2 _ rfl; have q3' := HN6.out.1.cell 3 _ rfl; have q4' := HN6.out.1.cell 4 _ rfl; have m0' := HN6.out.2.1.cell 0 _ rfl; have m1' := HN6.out.2.1.cell 1 _ rfl; have ql' := HN6.out.1.lt; have m0l' := HN6.out.2.1.lt))
      · go_wp2_with fail
        go_meet
        case rel => exact ⟨_, rfl, HN6.out.2.2.1.lt, Blk.new w5 (viewL ⟨r1, r2, r3, r4, r5⟩ (fieldAt fs r1) false) _, HN6.out.1.alloc _, HN6.out.2.1.alloc _, HN6.out.2.2.1.alloc _, HN6.out.2.2.2.alloc HN6.out.2.2.2.size _⟩
      · go_wp2_with fail
        go_meet
        case rel =>
          have hq : q ≠ W4.heap.size := by omega
          have hm : B0 ≠ W4.heap.size := by omega
          have hb : B1 ≠ W4.heap.size := by have := HF4.out.2.2.1.lt; omega
          refine ⟨_, rfl, HF4.out.2.2.1.lt, ?_, ?_, ?_, ?_, ?_⟩
          · exact ((((((HN5.out.1.set 0 _).set 1 _).set 2 _).set 3 _).set 4 _).set 5 _).set 6 _
          · exact ((((((HN5.out.2.1.set_other _ _ hq).set_other _ _ hq).set_other _ _ hq).set_other _ _ hq).set_other _ _ hq).set_other _ _ hq).set_other _ _ hq
          · exact ((((((HN5.out.2.2.1.set_other _ _ hm).set_other _ _ hm).set_other _ _ hm).set_other _ _ hm).set_other _ _ hm).set_other _ _ hm).set_other _ _ hm
          · exact ((((((HN5.out.2.2.2.1.set_other _ _ hb).set_other _ _ hb).set_other _ _ hb).set_other _ _ hb).set_other _ _ hb).set_other _ _ hb).set_other _ _ hb
          · have hs : w.heap.size ≤ W4.heap.size := HF4.out.2.2.2.size
            (repeat (first | with_reducible exact Below.refl _ _ | with_reducible refine Below.setCell ?_ (by first | omega | (simp; omega) | (simp; done)) _ | with_reducible refine Below.alloc ?_ (by first | omega | (simp; omega) | (simp; done)) _ | with_reducible refine below_drewN ?_ _ | with_reducible refine Below.drew ?_))
            exact HN5.out.2.2.2.2
    case rest =>
      obtain ⟨p, rfl, hB1p, HR4⟩ := hcut
      rw [← HKE.out] at HR4
      have HX2 := HX0.out
      rw [← HKE.out] at HX2
      have HX3 := hid HX2
      clear HX2
      have p0 := HR4.out.1.cell 0 _ rfl
      have p1 := HR4.out.1.cell 1 _ rfl
      have p2 := HR4.out.1.cell 2 _ rfl
      have p3 := HR4.out.1.cell 3 _ rfl
      have p4 := HR4.out.1.cell 4 _ rfl
      have p5 := HR4.out.1.cell 5 _ rfl
      have p6 := HR4.out.1.cell 6 _ rfl
      have pz := HR4.out.1.free
      have pl := HR4.out.1.lt
      have q0 := HR4.out.2.1.cell 0 _ rfl
      have q1 := HR4.out.2.1.cell 1 _ rfl
      have m0 := HR4.out.2.2.1.cell 0 _ rfl
      have m1 := HR4.out.2.2.1.cell 1 _ rfl
      have b0 := HR4.out.2.2.2.1.cell 0 _ rfl
      have b1 := HR4.out.2.2.2.1.cell 1 _ rfl
      have b2 := HR4.out.2.2.2.1.cell 2 _ rfl
      have b3 := HR4.out.2.2.2.1.cell 3 _ rfl
      have b4 := HR4.out.2.2.2.1.cell 4 _ rfl
      have b5 := HR4.out.2.2.2.1.cell 5 _ rfl
      have b6 := HR4.out.2.2.2.1.cell 6 _ rfl
      have bz := HR4.out.2.2.2.1.free
      have blt := HR4.out.2.2.2.1.lt
      by_cases hk : k < 0
      · obtain rfl : k = -1 := by
          rcases firstAt_bd (fun f : Fld => decide (f.number = (r1 : Int))) fs 0 with e | ⟨j, e, h1, h2⟩
          · rw [HKE.out]; exact e
          · have : k = j := by rw [HKE.out]; exact e
            omega
        obtain rfl : x = (⟨r1, r2, r3, r4, r5⟩, -1, false, 0) := by rw [HX3.out, if_pos (by omega)]
        go_wp2
        refine bodyPost_ret (v := .tuple #[viewV ⟨r1, r2, r3, r4, r5⟩ (-1) false, .int .u8 0]) ?_ rfl ⟨rfl, ?_⟩
        · simp [results, Tryz.results65, go_sem, viewV, b0, b1, b2, b3, b4, b5, b6]
        · (repeat (first | with_reducible exact Below.refl _ _ | with_reducible refine Below.setCell ?_ (by first | omega | (simp; omega) | (simp; done)) _ | with_reducible refine Below.alloc ?_ (by first | omega | (simp; omega) | (simp; done)) _ | with_reducible refine below_drewN ?_ _ | with_reducible refine Below.drew ?_))
          exact HR4.out.2.2.2.2
      · obtain ⟨K, HKK, hKl⟩ : ∃ K : Nat, Hid (k = K) ∧ K < fl := by
          rcases firstAt_bd (fun f : Fld => decide (f.number = (r1 : Int))) fs 0 with e | ⟨j, e, h1, h2⟩
          · have : k = -1 := by rw [HKE.out]; exact e
            omega
          · exact ⟨j, by rw [Hid, HKE.out]; exact e, by rw [HFL.out]; omega⟩
        rw [HKK.out] at HX3 p5 HR4
        clear hk
        have HX4 : Hid (x = if ((fs.getD K .zero).rep && knumber (fs.getD K .zero).kind && decide (r2 = 2)) = true then (⟨r1, r2, r3, r4, r5⟩, (K : Int), true, 0) else
          if kright (fs.getD K .zero).kind = false ∨ kwire (fs.getD K .zero).kind ≠ r2 then (.none, 0, false, 6) else (⟨r1, r2, r3, r4, r5⟩, (K : Int), false, 0)) := by
          rw [Hid, HX3.out, if_neg (by omega)]; rfl
        have hfc := HF.out.keep (below_keeps HR4.out.2.2.2.2)
        obtain ⟨-, fa', fcap', hv', hfat⟩ := hfc.open
        cases hv'
        obtain ⟨fb, fo, hfa, hfok, g0, g1, g2, g3, g4, g5⟩ := hfat K (by rw [← HFL.out]; exact hKl)
        have hixf := index_run Tryz.underlying45 size_fld hfa K hKl (cap := fcap)
        have HFA := hid hfa
        have hfbl : fb < wc.heap.size := World.block_lt_of_cell? wc _ g0
        clear hfa hfat hfc
        obtain ⟨f, HFF⟩ : ∃ f, Hid (f = fs.getD K .zero) := ⟨_, rfl⟩
        rw [← HFF.out] at hfok g0 g1 g2 g3 g4 g5 HX4
        have HFO := hid hfok
        clear hfok
        obtain ⟨fname, fnumber, fkind, frep, fpacked, fof⟩ := f
        simp only at g0 g1 g2 g3 g4 g5 HX4
        obtain ⟨run, HRUN⟩ : ∃ run, Hid (run = (frep && knumber fkind && decide (r2 = 2))) := ⟨_, rfl⟩
        rw [← HRUN.out] at HX4
        obtain ⟨fx, HFX⟩ : ∃ fx, Hid (fx = wc.heap.size) := ⟨_, rfl⟩
        have HPQ : Hid (p ≠ fx ∧ q ≠ fx ∧ B0 ≠ fx ∧ B1 ≠ fx ∧ q ≠ p ∧ B1 ≠ p) := by
          have h1 := HR4.out.2.1.lt
          have h2 := HR4.out.2.2.1.lt
          refine ⟨by rw [HFX.out]; omega, by rw [HFX.out]; omega, by rw [HFX.out]; omega, by rw [HFX.out]; omega, ?_, ?_⟩
          · rintro rfl
            have := HR4.out.1.symm.trans HR4.out.2.1
            simp at this
          · omega
        go_upto_region 8 with fail
        rw [← HFX.out]
        go_cut [] (fun wx => Hid (Blk wx p (viewL ⟨r1, r2, r3, r4, r5⟩ K run) 93 ∧ Blk wx q (recL ⟨r1, r2, r3, r4, r5⟩) 91 ∧ Blk wx B1 (viewL .none 0 false) 93 ∧ Blk wx fx [.string fname, .int .i64 fnumber, .int .i64 fkind, .bool frep, .bool fpacked, .int .i64 fof] 44 ∧ Below w.heap.size w wx))
        case first =>
          have HV : Hid (Blk (wc.alloc (.cells #[.string fname, .int .i64 fnumber, .int .i64 fkind, .bool frep, .bool fpacked, .int .i64 fof] 44)) p (viewL ⟨r1, r2, r3, r4, r5⟩ K false) 93 ∧ Blk (wc.alloc (.cells #[.string fname, .int .i64 fnumber, .int .i64 fkind, .bool frep, .bool fpacked, .int .i64 fof] 44)) q (recL ⟨r1, r2, r3, r4, r5⟩) 91 ∧ Blk (wc.alloc (.cells #[.string fname, .int .i64 fnumber, .int .i64 fkind, .bool frep, .bool fpacked, .int .i64 fof] 44)) B1 (viewL .none 0 false) 93 ∧ Blk (wc.alloc (.cells #[.string fname, .int .i64 fnumber, .int .i64 fkind, .bool frep, .bool fpacked, .int .i64 fof] 44)) fx [.string fname, .int .i64 fnumber, .int .i64 fkind, .bool frep, .bool fpacked, .int .i64 fof] 44 ∧ Below w.heap.size w (wc.alloc (.cells #[.string fname, .int .i64 fnumber, .int .i64 fkind, .bool frep, .bool fpacked, .int .i64 fof] 44))) :=
            ⟨HR4.out.1.alloc _, HR4.out.2.1.alloc _, HR4.out.2.2.2.1.alloc _, by rw [HFX.out]; exact Blk.new wc _ _, HR4.out.2.2.2.2.alloc HR4.out.2.2.2.2.size _⟩
          have hwp : w.heap.size ≤ p := by omega
          cases frep with
          | false =>
            obtain rfl : run = false := by rw [HRUN.out]; rfl
            have HNF : Hid (Blk ((wc.setCell ⟨p, 6, none⟩ (.bool false)).alloc (.cells #[.string fname, .int .i64 fnumber, .int .i64 fkind, .bool false, .bool fpacked, .int .i64 fof] 44)) fx [.string fname, .int .i64 fnumber, .int .i64 fkind, .bool false, .bool fpacked, .int .i64 fof] 44) := by
              have := Blk.new (wc.setCell ⟨p, 6, none⟩ (.bool false)) [.string fname, .int .i64 fnumber, .int .i64 fkind, .bool false, .bool fpacked, .int .i64 fof] 44
              rw [show (wc.setCell ⟨p, 6, none⟩ (.bool false)).heap.size = wc.heap.size by simp, ← HFX.out] at this
              exact this
            have x3 := HV.out.2.2.2.1.cell 3 _ rfl
            go_wp2_with fail
            go_meet
            case rel =>
              exact ⟨(HR4.out.1.set 6 _).alloc _, (HR4.out.2.1.set_other _ _ HPQ.out.2.2.2.2.1).alloc _, (HR4.out.2.2.2.1.set_other _ _ HPQ.out.2.2.2.2.2).alloc _, HNF.out, (HR4.out.2.2.2.2.setCell hwp _).alloc (by simp; exact HR4.out.2.2.2.2.size) _⟩
          | true =>
            have x3 := HV.out.2.2.2.1.cell 3 _ rfl
            have x2 := HV.out.2.2.2.1.cell 2 _ rfl
            go_wp2_with fail
            refine (kind_Number fkind _).mono ?_
            rintro e w6 ⟨rfl, hb6⟩
            have HV6 := hid (show Blk w6 p (viewL ⟨r1, r2, r3, r4, r5⟩ K false) 93 ∧ Blk w6 q (recL ⟨r1, r2, r3, r4, r5⟩) 91 ∧ Blk w6 B1 (viewL .none 0 false) 93 ∧ Blk w6 fx [.string fname, .int .i64 fnumber, .int .i64 fkind, .bool true, .bool fpacked, .int .i64 fof] 44 ∧ Below w.heap.size w w6 from ⟨HV.out.1.below hb6, HV.out.2.1.below hb6, HV.out.2.2.1.below hb6, HV.out.2.2.2.1.below hb6, below_step HV.out.2.2.2.2 hb6 HV.out.2.2.2.2.size⟩)
            have p6' := HV6.out.1.cell 6 _ rfl
            have pz' := HV6.out.1.free
            have pl' := HV6.out.1.lt
            have q1' := HV6.out.2.1.cell 1 _ rfl
            clear hb6 p0 p1 p2 p3 p4 p5 p6 pz
            cases hkn : knumber fkind with
            | false =>
              obtain rfl : run = false := by rw [HRUN.out, hkn]; rfl
              have HKN := hid hkn
              clear hkn
              go_wp2_with fail
              go_meet
              case rel =>
                exact ⟨HV6.out.1.set 6 _, HV6.out.2.1.set_other _ _ HPQ.out.2.2.2.2.1, HV6.out.2.2.1.set_other _ _ HPQ.out.2.2.2.2.2, HV6.out.2.2.2.1.set_other _ _ (Ne.symm HPQ.out.1), HV6.out.2.2.2.2.setCell hwp _⟩
            | true =>
              by_cases h2 : r2 = 2
              · obtain rfl : run = true := by rw [HRUN.out, hkn]; simp [h2]
                have HKN := hid hkn
                have h2' : ((r2 : Int) == 2) = true := by simp; omega
                have H2 := hid h2
                clear hkn h2
                go_wp2_with fail
                go_meet
                case rel =>
                  exact ⟨HV6.out.1.set 6 _, HV6.out.2.1.set_other _ _ HPQ.out.2.2.2.2.1, HV6.out.2.2.1.set_other _ _ HPQ.out.2.2.2.2.2, HV6.out.2.2.2.1.set_other _ _ (Ne.symm HPQ.out.1), HV6.out.2.2.2.2.setCell hwp _⟩
              · obtain rfl : run = false := by rw [HRUN.out, hkn]; simp [h2]
                have HKN := hid hkn
                have h2' : ((r2 : Int) == 2) = false := by simp; omega
                have H2 := hid h2
                clear hkn h2
                go_wp2_with fail
                go_meet
                case rel =>
                  exact ⟨HV6.out.1.set 6 _, HV6.out.2.1.set_other _ _ HPQ.out.2.2.2.2.1, HV6.out.2.2.1.set_other _ _ HPQ.out.2.2.2.2.2, HV6.out.2.2.2.1.set_other _ _ (Ne.symm HPQ.out.1), HV6.out.2.2.2.2.setCell hwp _⟩
        case rest =>
          have HV := hid hcut.out
          clear hcut p0 p1 p2 p3 p4 p5 p6 pz pl q0 q1 b0 b1 b2 b3 b4 b5 b6 bz blt m0 m1 g0 g1 g2 g3 g4 g5 hixf
          have hwp : w.heap.size ≤ p := by omega
          have x2 := HV.out.2.2.2.1.cell 2 _ rfl
          go_wp2_with fail
          refine (kind_Wire fkind _).mono ?_
          rintro e w7 ⟨rfl, hb7⟩
          have HV7 := hid (show Blk w7 p (viewL ⟨r1, r2, r3, r4, r5⟩ K run) 93 ∧ Blk w7 q (recL ⟨r1, r2, r3, r4, r5⟩) 91 ∧ Blk w7 B1 (viewL .none 0 false) 93 ∧ Below w.heap.size w w7 from ⟨HV.out.1.below hb7, HV.out.2.1.below hb7, HV.out.2.2.1.below hb7, below_step HV.out.2.2.2.2 hb7 HV.out.2.2.2.2.size⟩)
          clear hb7 x2
          have p0 := HV7.out.1.cell 0 _ rfl
          have p1 := HV7.out.1.cell 1 _ rfl
          have p2 := HV7.out.1.cell 2 _ rfl
          have p3 := HV7.out.1.cell 3 _ rfl
          have p4 := HV7.out.1.cell 4 _ rfl
          have p5 := HV7.out.1.cell 5 _ rfl
          have p6 := HV7.out.1.cell 6 _ rfl
          have q1 := HV7.out.2.1.cell 1 _ rfl
          have b0 := HV7.out.2.2.1.cell 0 _ rfl
          have b1 := HV7.out.2.2.1.cell 1 _ rfl
          have b2 := HV7.out.2.2.1.cell 2 _ rfl
          have b3 := HV7.out.2.2.1.cell 3 _ rfl
          have b4 := HV7.out.2.2.1.cell 4 _ rfl
          have b5 := HV7.out.2.2.1.cell 5 _ rfl
          have b6 := HV7.out.2.2.1.cell 6 _ rfl
          have bz := HV7.out.2.2.1.free
          have blt := HV7.out.2.2.1.lt
          obtain ⟨wr2, HWR⟩ : ∃ wr2, Hid (wr2 = kwire fkind) := ⟨_, rfl⟩
          rw [← HWR.out] at HX4 ⊢
          cases run with
          | true =>
            obtain rfl : x = (⟨r1, r2, r3, r4, r5⟩, (K : Int), true, 0) := by rw [HX4.out, if_pos rfl]
            cases hkr : kright fkind
            all_goals
              have HKR := hid hkr
              clear hkr
              simp only [Bool.false_eq_true, if_false, if_true]
              go_wp2
              refine bodyPost_ret (v := .tuple #[viewV ⟨r1, r2, r3, r4, r5⟩ K true, .int .u8 0]) ?_ rfl ⟨rfl, ?_⟩
              · simp [results, Tryz.results65, go_sem, viewV, b0, b1, b2, b3, b4, b5, b6]
              · (repeat (first | with_reducible exact Below.refl _ _ | with_reducible refine Below.setCell ?_ (by first | omega | (simp; omega) | (simp; done)) _ | with_reducible refine Below.alloc ?_ (by first | omega | (simp; omega) | (simp; done)) _ | with_reducible refine below_drewN ?_ _ | with_reducible refine Below.drew ?_))
                exact HV7.out.2.2.2
          | false =>
            have HX5 : Hid (x = if kright fkind = false ∨ wr2 ≠ r2 then (.none, 0, false, 6) else (⟨r1, r2, r3, r4, r5⟩, (K : Int), false, 0)) := by rw [Hid, HX4.out, if_neg (by decide)]
            cases hkr : kright fkind with
            | false =>
              obtain rfl : x = (.none, 0, false, 6) := by rw [HX5.out, if_pos (.inl hkr)]
              have HKR := hid hkr
              clear hkr
              simp only [Bool.false_eq_true, if_false]
              go_wp2
              refine bodyPost_ret (v := .tuple #[viewV .none 0 false, .int .u8 6]) ?_ rfl ⟨rfl, ?_⟩
              · simp [results, Tryz.results65, go_sem, viewV, Rec.none, b0, b1, b2, b3, b4, b5, b6]
              · (repeat (first | with_reducible exact Below.refl _ _ | with_reducible refine Below.setCell ?_ (by first | omega | (simp; omega) | (simp; done)) _ | with_reducible refine Below.alloc ?_ (by first | omega | (simp; omega) | (simp; done)) _ | with_reducible refine below_drewN ?_ _ | with_reducible refine Below.drew ?_))
                exact HV7.out.2.2.2
            | true =>
              by_cases hw : wr2 = r2
              · obtain rfl : x = (⟨r1, r2, r3, r4, r5⟩, (K : Int), false, 0) := by rw [HX5.out, if_neg (by simp [hkr, hw])]
                have HKR := hid hkr
                have hw' : ((wr2 : Int) == (r2 : Int)) = true := by simp; omega
                have hw2 : ((wr2 : Int) != (r2 : Int)) = false := by simp; omega
                have HW := hid hw
                clear hkr hw
                simp only [if_true]
                go_wp2
                refine bodyPost_ret (v := .tuple #[viewV ⟨r1, r2, r3, r4, r5⟩ K false, .int .u8 0]) ?_ rfl ⟨rfl, ?_⟩
                · simp [results, Tryz.results65, go_sem, viewV, b0, b1, b2, b3, b4, b5, b6]
                · (repeat (first | with_reducible exact Below.refl _ _ | with_reducible refine Below.setCell ?_ (by first | omega | (simp; omega) | (simp; done)) _ | with_reducible refine Below.alloc ?_ (by first | omega | (simp; omega) | (simp; done)) _ | with_reducible refine below_drewN ?_ _ | with_reducible refine Below.drew ?_))
                  exact HV7.out.2.2.2
              · obtain rfl : x = (.none, 0, false, 6) := by rw [HX5.out, if_pos (.inr hw)]
                have HKR := hid hkr
                have hw' : ((wr2 : Int) == (r2 : Int)) = false := by simp; omega
                have hw2 : ((wr2 : Int) != (r2 : Int)) = true := by simp; omega
                have HW := hid hw
                clear hkr hw
                simp only [if_true]
                go_wp2
                refine bodyPost_ret (v := .tuple #[viewV .none 0 false, .int .u8 6]) ?_ rfl ⟨rfl, ?_⟩
                · simp [results, Tryz.results65, go_sem, viewV, Rec.none, b0, b1, b2, b3, b4, b5, b6]
                · (repeat (first | with_reducible exact Below.refl _ _ | with_reducible refine Below.setCell ?_ (by first | omega | (simp; omega) | (simp; done)) _ | with_reducible refine Below.alloc ?_ (by first | omega | (simp; omega) | (simp; done)) _ | with_reducible refine below_drewN ?_ _ | with_reducible refine Below.drew ?_))
                  exact HV7.out.2.2.2
  · have hc0 : ((c : Int) == 0) = false := by simp; omega
    obtain rfl : x = (.none, 0, false, c) := by rw [HX.out, if_pos hc]
    have b0 := H1.out.cell 0 _ rfl
    have b1 := H1.out.cell 1 _ rfl
    have b2 := H1.out.cell 2 _ rfl
    have b3 := H1.out.cell 3 _ rfl
    have b4 := H1.out.cell 4 _ rfl
    have b5 := H1.out.cell 5 _ rfl
    have b6 := H1.out.cell 6 _ rfl
    have bz := H1.out.free
    have blt := H1.out.lt
    obtain ⟨r1, r2, r3, r4, r5⟩ := r
    unfold Rec.val
    have HC := hid hc
    clear hc
    simp only
    go_wp2
    refine bodyPost_ret (v := .tuple #[viewV .none 0 false, .int .u8 c]) ?_ rfl ⟨rfl, ?_⟩
    · simp [results, Tryz.results65, go_sem, viewV, Rec.none, b0, b1, b2, b3, b4, b5, b6, blt]
    · (repeat (first | with_reducible exact Below.refl _ _ | with_reducible refine Below.setCell ?_ (by first | omega | (simp; omega) | (simp; done)) _ | with_reducible refine Below.alloc ?_ (by first | omega | (simp; omega) | (simp; done)) _ | with_reducible refine below_drewN ?_ _ | with_reducible refine Below.drew ?_))
      exact HB1.out
end Go.Proofs.YtbdeclkccchnoaaGreat
namespace Go.Proofs.YtbdeclkccchnoaaGreat
open Go.RowKit
end Go.Proofs.YtbdeclkccchnoaaGreat
namespace Go.Proofs.YtbdeclkccchnoaaGreat
open Go.RowKit
def runSize (wire : Nat) (l : List UInt8) : Nat × Nat :=
  if wire = 0 then ((vread l).2.1, (vread l).2.2) else
  if l.length < (if wire = 1 then 8 else 4) then (0, 3) else (if wire = 1 then 8 else 4, 0)
set_option maxRecDepth 100000 in
set_option maxHeartbeats 2000000 in
theorem run_size {w : World} {v : Value} {l : List UInt8} (h : Bytes w v l) (wire : Nat) :
    Calls Tryz.prog 122 #[.int .i64 wire, v] w fun e w' => e = .returned (.tuple #[.int .i64 (runSize wire l).1, .int .u8 (runSize wire l).2]) ∧ w = w' := by
  obtain ⟨hlen, a, cap, rfl, -, -, -, hcell⟩ := h.open
  obtain ⟨n, HN⟩ : ∃ n, Hid (n = l.length) := ⟨_, rfl⟩
  obtain ⟨x, HX⟩ : ∃ x, Hid (x = runSize wire l) := ⟨_, rfl⟩
  rw [← HX.out]
  unfold runSize at HX
  rw [← HN.out] at HX hlen hcell h ⊢
  clear hcell
  by_cases h0 : wire = 0
  · subst h0
    obtain rfl : x = ((vread l).2.1, (vread l).2.2) := by rw [HX.out, if_pos rfl]
    go_enter Tryz.func122, Tryz.ntmps122
    go_wp2_with (go_at_call 128; refine (varint_Skip h).mono ?_; rintro e w' ⟨rfl, rfl⟩)
    go_ret2
    exact ⟨rfl, rfl⟩
  · by_cases h1 : wire = 1
    · subst h1
      by_cases hs : n < 8
      · obtain rfl : x = (0, 3) := by rw [HX.out, if_neg (by decide), if_pos (by simpa using hs)]
        go_enter Tryz.func122, Tryz.ntmps122
        go_wp2
        go_ret2
        exact ⟨rfl, rfl⟩
      · obtain rfl : x = (8, 0) := by rw [HX.out, if_neg (by decide), if_neg (by simpa using hs)]; rfl
        go_enter Tryz.func122, Tryz.ntmps122
        go_wp2
        go_ret2
        exact ⟨rfl, rfl⟩
    · have e0 : ((wire : Int) == 0) = false := by simp; omega
      have e1 : ((wire : Int) == 1) = false := by simp; omega
      have HI1 := hid h1
      have HI0 := hid h0
      clear h0 h1
      by_cases hs : n < 4
      · obtain rfl : x = (0, 3) := by rw [HX.out, if_neg HI0.out, if_pos (by rw [if_neg HI1.out]; exact hs)]
        go_enter Tryz.func122, Tryz.ntmps122
        go_wp2
        go_ret2
        exact ⟨rfl, rfl⟩
      · obtain rfl : x = (4, 0) := by rw [HX.out, if_neg HI0.out, if_neg (by rw [if_neg HI1.out]; exact hs), if_neg HI1.out]
        go_enter Tryz.func122, Tryz.ntmps122
        go_wp2
        go_ret2
        exact ⟨rfl, rfl⟩
end Go.Proofs.YtbdeclkccchnoaaGreat
namespace Go.Proofs.YtbdeclkccchnoaaGreat
open Go.RowKit
theorem runSize_cases (wire : Nat) (l : List UInt8) : (∃ n, runSize wire l = (n, 0) ∧ 0 < n ∧ n ≤ 10 ∧ n ≤ l.length) ∨ (∃ c, runSize wire l = (0, c) ∧ (c = 3 ∨ c = 4)) := by
  unfold runSize
  by_cases h0 : wire = 0
  · rw [if_pos h0]
    rcases vread_cases l with ⟨x, n, e, h1, h2, h3, -⟩ | ⟨c, e, hc⟩
    · exact .inl ⟨n, by rw [e], h1, h2, h3⟩
    · exact .inr ⟨c, by rw [e], hc⟩
  · rw [if_neg h0]
    by_cases h1 : l.length < (if wire = 1 then 8 else 4)
    · rw [if_pos h1]; exact .inr ⟨3, rfl, .inl rfl⟩
    · rw [if_neg h1]
      refine .inl ⟨_, rfl, ?_, ?_, by omega⟩ <;> split <;> omega
def runGo (wire : Nat) : Nat → List UInt8 → Nat × Nat
  | 0, _ => (0, 0)
  | k + 1, l => if l = [] then (0, 0) else
      if (runSize wire l).2 ≠ 0 then (0, (runSize wire l).2) else
      if (runGo wire k (l.drop (runSize wire l).1)).2 ≠ 0 then (0, (runGo wire k (l.drop (runSize wire l).1)).2) else
      ((runGo wire k (l.drop (runSize wire l).1)).1 + 1, 0)
def runCount (wire : Nat) (l : List UInt8) : Nat × Nat := runGo wire l.length l
theorem runGo_fuel (wire : Nat) : ∀ (k m : Nat) (l : List UInt8), l.length ≤ k → l.length ≤ m → runGo wire k l = runGo wire m l
  | 0, 0, _, _, _ => rfl
  | 0, m + 1, l, h, _ => by
    have : l = [] := List.length_eq_zero_iff.1 (by omega)
    subst this
    simp [runGo]
  | k + 1, 0, l, _, h => by
    have : l = [] := List.length_eq_zero_iff.1 (by omega)
    subst this
    simp [runGo]
  | k + 1, m + 1, l, h1, h2 => by
    by_cases hl : l = []
    · simp [runGo, hl]
    · rcases runSize_cases wire l with ⟨n, e, h3, -, h4⟩ | ⟨c, e, hc⟩
      · have := runGo_fuel wire k m (l.drop n) (by simp; omega) (by simp; omega)
        simp only [runGo, e, this]
      · have hc' : c ≠ 0 := by omega
        simp only [runGo, e, if_neg hl, if_pos hc']
theorem runCount_bad (wire : Nat) (l : List UInt8) (hl : l ≠ []) (c : Nat) (hc : c ≠ 0) (e : (runSize wire l).2 = c) : runCount wire l = (0, c) := by
  obtain ⟨k, hk⟩ : ∃ k, l.length = k + 1 := ⟨l.length - 1, by have := List.length_pos_iff.2 hl; omega⟩
  unfold runCount
  rw [hk]
  simp only [runGo, if_neg hl, e, if_pos hc]
theorem runCount_step (wire : Nat) (l : List UInt8) (hl : l ≠ []) (n : Nat) (e : runSize wire l = (n, 0)) :
    runCount wire l = if (runCount wire (l.drop n)).2 ≠ 0 then (0, (runCount wire (l.drop n)).2) else ((runCount wire (l.drop n)).1 + 1, 0) := by
  obtain ⟨k, hk⟩ : ∃ k, l.length = k + 1 := ⟨l.length - 1, by have := List.length_pos_iff.2 hl; omega⟩
  have hn : 0 < n := by
    rcases runSize_cases wire l with ⟨n', e', h3, -, h4⟩ | ⟨c, e', hc⟩
    · rw [e] at e'; cases e'; exact h3
    · rw [e] at e'; cases e'; omega
  have hf := runGo_fuel wire k (l.drop n).length (l.drop n) (by simp; omega) (Nat.le_refl _)
  unfold runCount
  rw [hk]
  simp only [runGo, if_neg hl, e, hf]
  simp
/-! the values themselves -/
def rpiecesGo (wire : Nat) : Nat → List UInt8 → List (List UInt8)
  | 0, _ => []
  | k + 1, l => if l = [] then [] else if (runSize wire l).2 ≠ 0 then [] else l.take (runSize wire l).1 :: rpiecesGo wire k (l.drop (runSize wire l).1)
def rpieces (wire : Nat) (l : List UInt8) : List (List UInt8) := rpiecesGo wire l.length l
theorem rpiecesGo_fuel (wire : Nat) : ∀ (k m : Nat) (l : List UInt8), l.length ≤ k → l.length ≤ m → rpiecesGo wire k l = rpiecesGo wire m l
  | 0, 0, _, _, _ => rfl
  | 0, m + 1, l, h, _ => by
    have : l = [] := List.length_eq_zero_iff.1 (by omega)
    subst this
    simp [rpiecesGo]
  | k + 1, 0, l, _, h => by
    have : l = [] := List.length_eq_zero_iff.1 (by omega)
    subst this
    simp [rpiecesGo]
  | k + 1, m + 1, l, h1, h2 => by
    by_cases hl : l = []
    · simp [rpiecesGo, hl]
    · rcases runSize_cases wire l with ⟨n, e, h3, -, h4⟩ | ⟨c, e, hc⟩
      · have := rpiecesGo_fuel wire k m (l.drop n) (by simp; omega) (by simp; omega)
        simp only [rpiecesGo, e, this]
      · have hc' : c ≠ 0 := by omega
        simp only [rpiecesGo, e, if_neg hl, if_pos hc']
theorem rpieces_nil (wire : Nat) : rpieces wire [] = [] := rfl
theorem rpieces_bad (wire : Nat) (l : List UInt8) (c : Nat) (hc : c ≠ 0) (e : (runSize wire l).2 = c) : rpieces wire l = [] := by
  unfold rpieces
  cases hk : l.length with
  | zero => rfl
  | succ k =>
    have hl : l ≠ [] := by rintro rfl; simp at hk
    simp only [rpiecesGo, if_neg hl, e, if_pos hc]
theorem rpieces_step (wire : Nat) (l : List UInt8) (hl : l ≠ []) (n : Nat) (e : runSize wire l = (n, 0)) : rpieces wire l = l.take n :: rpieces wire (l.drop n) := by
  obtain ⟨k, hk⟩ : ∃ k, l.length = k + 1 := ⟨l.length - 1, by have := List.length_pos_iff.2 hl; omega⟩
  have hn : 0 < n := by
    rcases runSize_cases wire l with ⟨n', e', h3, -, h4⟩ | ⟨c, e', hc⟩
    · rw [e] at e'; cases e'; exact h3
    · rw [e] at e'; cases e'; omega
  have hf := rpiecesGo_fuel wire k (l.drop n).length (l.drop n) (by simp; omega) (Nat.le_refl _)
  unfold rpieces
  rw [hk]
  simp only [rpiecesGo, if_neg hl, e, hf]
  simp
theorem rpieces_len (wire : Nat) : ∀ (m : Nat) (l : List UInt8), l.length ≤ m → (rpieces wire l).length ≤ l.length
  | 0, l, h => by
    obtain rfl : l = [] := List.length_eq_zero_iff.1 (by omega)
    exact Nat.le_refl _
  | m + 1, l, h => by
    by_cases hl : l = []
    · subst hl; exact Nat.le_refl _
    rcases runSize_cases wire l with ⟨n, e, h3, -, h4⟩ | ⟨c, e, hc⟩
    · have ih := rpieces_len wire m (l.drop n) (by simp; omega)
      rw [rpieces_step wire l hl n e]
      simp at ih ⊢; omega
    · rw [rpieces_bad wire l c (by omega) (by rw [e])]; simp
theorem runCount_len (wire : Nat) : ∀ (m : Nat) (l : List UInt8), l.length ≤ m → (runCount wire l).1 = if (runCount wire l).2 = 0 then (rpieces wire l).length else 0
  | 0, l, h => by
    obtain rfl : l = [] := List.length_eq_zero_iff.1 (by omega)
    rfl
  | m + 1, l, h => by
    by_cases hl : l = []
    · subst hl; rfl
    rcases runSize_cases wire l with ⟨n, e, h3, -, h4⟩ | ⟨c, e, hc⟩
    · have ih := runCount_len wire m (l.drop n) (by simp; omega)
      rw [runCount_step wire l hl n e, rpieces_step wire l hl n e]
      by_cases h0 : (runCount wire (l.drop n)).2 = 0
      · simp only [h0, ne_eq, not_true_eq_false, if_false, if_true, List.length_cons] at ih ⊢
        rw [ih]
      · simp [h0]
    · rw [runCount_bad wire l hl c (by omega) (by rw [e]), if_neg (show (0, c).2 ≠ 0 by show c ≠ 0; omega)]
end Go.Proofs.YtbdeclkccchnoaaGreat
namespace Go.Proofs.YtbdeclkccchnoaaGreat
def uhead (c : Nat) : Nat × Nat :=
  if c < 128 then (1, c) else if 192 ≤ c ∧ c < 224 then (2, c % 32) else if 224 ≤ c ∧ c < 240 then (3, c % 16) else if 240 ≤ c ∧ c < 248 then (4, c % 8) else (0, 0)
def uleast (n : Nat) : Nat := if n ≤ 1 then 0 else if n = 2 then 128 else if n = 3 then 2048 else 65536
def ucont : Nat → Nat → List UInt8 → Option Nat
  | 0, r, _ => some r
  | _ + 1, _, [] => none
  | k + 1, r, c :: t => if 128 ≤ c.toNat ∧ c.toNat < 192 then ucont k (r * 64 + c.toNat % 64) t else none
def ubad (n r : Nat) : Bool := decide (r < uleast n ∨ 1114111 < r ∨ 55296 ≤ r ∧ r ≤ 57343)
def unext (l : List UInt8) : Nat :=
  match l with
  | [] => 0
  | c :: t =>
    if (uhead c.toNat).1 = 0 ∨ l.length < (uhead c.toNat).1 then 0 else
    match ucont ((uhead c.toNat).1 - 1) (uhead c.toNat).2 t with
    | none => 0
    | some r => if ubad (uhead c.toNat).1 r then 0 else (uhead c.toNat).1
theorem uhead_le (c : Nat) : (uhead c).1 ≤ 4 := by
  unfold uhead
  repeat' split
  all_goals simp
theorem unext_le (l : List UInt8) : unext l ≤ l.length ∧ unext l ≤ 4 := by
  unfold unext
  split
  · exact ⟨Nat.le_refl _, by omega⟩
  · rename_i c t
    have := uhead_le c.toNat
    split
    · exact ⟨Nat.zero_le _, by omega⟩
    · split
      · exact ⟨Nat.zero_le _, by omega⟩
      · split
        · exact ⟨Nat.zero_le _, by omega⟩
        · exact ⟨by omega, this⟩
def ugo : Nat → List UInt8 → Nat
  | 0, _ => 0
  | f + 1, l => if unext l = 0 then 0 else unext l + ugo f (l.drop (unext l))
def ufirst (l : List UInt8) : Nat := ugo l.length l
theorem ugo_more : ∀ (f g : Nat) (l : List UInt8), l.length ≤ f → f ≤ g → ugo g l = ugo f l
  | 0, g, l, h, _ => by
    obtain rfl : l = [] := List.eq_nil_of_length_eq_zero (by omega)
    cases g <;> simp [ugo, unext]
  | f + 1, 0, l, _, h => by omega
  | f + 1, g + 1, l, h, hg => by
    simp only [ugo]
    split
    · rfl
    · rw [ugo_more f g _ (by rw [List.length_drop]; omega) (by omega)]
theorem ufirst_step (l : List UInt8) : ufirst l = if unext l = 0 then 0 else unext l + ufirst (l.drop (unext l)) := by
  unfold ufirst
  cases h : l.length with
  | zero =>
    obtain rfl : l = [] := List.eq_nil_of_length_eq_zero h
    simp [ugo, unext]
  | succ f =>
    simp only [ugo]
    split
    · rfl
    · rename_i hne
      have := unext_le l
      rw [ugo_more (l.drop (unext l)).length f _ (Nat.le_refl _) (by rw [List.length_drop]; omega)]
def b8 (n : Nat) : UInt8 := UInt8.ofNat n
theorem b8_eq (n : Nat) (c : UInt8) (h : n < 256) : b8 n = c ↔ n = c.toNat := by
  constructor
  · rintro rfl; simp [b8]; omega
  · intro e; apply UInt8.toNat_inj.1; simp [b8]; omega
theorem uhead_cases (c : Nat) : (c < 128 ∧ uhead c = (1, c)) ∨ (192 ≤ c ∧ c < 224 ∧ uhead c = (2, c % 32)) ∨ (224 ≤ c ∧ c < 240 ∧ uhead c = (3, c % 16)) ∨ (240 ≤ c ∧ c < 248 ∧ uhead c = (4, c % 8)) ∨
    ((128 ≤ c ∧ c < 192 ∨ 248 ≤ c) ∧ uhead c = (0, 0)) := by
  unfold uhead
  by_cases h1 : c < 128
  · exact .inl ⟨h1, if_pos h1⟩
  · rw [if_neg h1]
    by_cases h2 : 192 ≤ c ∧ c < 224
    · exact .inr (.inl ⟨h2.1, h2.2, if_pos h2⟩)
    · rw [if_neg h2]
      by_cases h3 : 224 ≤ c ∧ c < 240
      · exact .inr (.inr (.inl ⟨h3.1, h3.2, if_pos h3⟩))
      · rw [if_neg h3]
        by_cases h4 : 240 ≤ c ∧ c < 248
        · exact .inr (.inr (.inr (.inl ⟨h4.1, h4.2, if_pos h4⟩)))
        · exact .inr (.inr (.inr (.inr ⟨by omega, if_neg h4⟩)))
end Go.Proofs.YtbdeclkccchnoaaGreat
