/- What frames.Check returns: fcheck. -/
import Derived.Test.YtgephhmkaonahaaSplit
namespace Go.Proofs.Ytgephhmkaonahaa
open Go.RowKit Go.Shelf
attribute [local go_sem] Oper.semAt_some

/-- frame, place, code -/
def fone (s : List Mes) (root d : Int) (l : List UInt8) (e : Ev) : Nat × Nat × Nat :=
  if e.c ≠ 0 then (e.i, e.at', e.c) else (e.i, (vcheck s root (e.load l) d).1, (vcheck s root (e.load l) d).2)
def fcheckGo (s : List Mes) (root d : Int) (l : List UInt8) : List Ev → Nat × Nat × Nat
  | [] => (0, 0, 0)
  | e :: r => if (fone s root d l e).2.2 ≠ 0 then fone s root d l e else fcheckGo s root d l r
def fcheck (s : List Mes) (root d : Int) (l : List UInt8) : Nat × Nat × Nat :=
  if argsCode s root d ≠ 0 then (0, 0, argsCode s root d) else fcheckGo s root d l (evs l 0 0)

theorem fcheckGo_pass {s : List Mes} {root d : Int} {l : List UInt8} : ∀ {es : List Ev}, (∀ e ∈ es, (fone s root d l e).2.2 = 0) → fcheckGo s root d l es = (0, 0, 0)
  | [], _ => rfl
  | e :: r, h => by
    rw [fcheckGo, if_neg (by rw [h e (by simp)]; decide), fcheckGo_pass fun x hx => h x (by simp [hx])]
theorem fcheckGo_stop {s : List Mes} {root d : Int} {l : List UInt8} {x : Ev} (hx : (fone s root d l x).2.2 ≠ 0) : ∀ {pre t : List Ev}, (∀ e ∈ pre, (fone s root d l e).2.2 = 0) → fcheckGo s root d l (pre ++ x :: t) = fone s root d l x
  | [], t, _ => by rw [List.nil_append, fcheckGo, if_pos hx]
  | e :: r, t, h => by
    rw [List.cons_append, fcheckGo, if_neg (by rw [h e (by simp)]; decide), fcheckGo_stop hx fun y hy => h y (by simp [hy])]

/-- the boxes of a check under way -/
structure FCheckI (w : World) (sv : Value) (root d : Int) (T : List Ev → Prop) (pre : List Ev) (W : World) : Prop where
  good : T pre
  B : Below w.heap.size w W
  b0 : Blk W w.heap.size [sv] 25
  b1 : Blk W (w.heap.size + 1) [.int .i64 root] 3
  b2 : Blk W (w.heap.size + 1 + 1) [.int .i64 d] 3
  r0 : Blk W (w.heap.size + 1 + 1 + 1) [.int .i64 0] 3
  r1 : Blk W (w.heap.size + 1 + 1 + 1 + 1) [.int .i64 0] 3
  r2 : Blk W (w.heap.size + 1 + 1 + 1 + 1 + 1) [.int .u8 0] 28
structure FCheckX (w : World) (x : Nat × Nat × Nat) (W : World) : Prop where
  bad : x.2.2 ≠ 0
  B : Below w.heap.size w W
  r0 : Blk W (w.heap.size + 1 + 1 + 1) [.int .i64 x.1] 3
  r1 : Blk W (w.heap.size + 1 + 1 + 1 + 1) [.int .i64 x.2.1] 3
  r2 : Blk W (w.heap.size + 1 + 1 + 1 + 1 + 1) [.int .u8 x.2.2] 28

theorem FCheckI.later {w : World} {sv : Value} {root d : Int} {T : List Ev → Prop} {pre : List Ev} {W W' : World} (h : FCheckI w sv root d T pre W) (hb : Below W.heap.size W W') : FCheckI w sv root d T pre W' :=
  ⟨h.good, h.B.trans (hb.mono h.B.size), h.b0.below hb, h.b1.below hb, h.b2.below hb, h.r0.below hb, h.r1.below hb, h.r2.below hb⟩
theorem FCheckI.own {w : World} {sv : Value} {root d : Int} {T : List Ev → Prop} {B : Nat} (hB : w.heap.size ≤ B) : OwnFrom B (FCheckI w sv root d T) := by
  intro pre W W' row h hg hr
  have hr' : ∀ r, row = some r → ∃ o : Obj, W.heap[r]? = some o ∧ o.isCells = false := fun r e => (hr r e).2
  exact ⟨h.good, h.B.grown hg h.B.size (fun q e => Nat.le_trans hB (hr q e).1), (cells_kept hg hr' h.b0).trans h.b0, (cells_kept hg hr' h.b1).trans h.b1, (cells_kept hg hr' h.b2).trans h.b2, (cells_kept hg hr' h.r0).trans h.r0, (cells_kept hg hr' h.r1).trans h.r1, (cells_kept hg hr' h.r2).trans h.r2⟩
theorem FCheckX.own {w : World} {x : Nat × Nat × Nat} {W W' : World} {row : Option Nat} {B : Nat} (hB : w.heap.size ≤ B) (h : FCheckX w x W) (hg : W.grownBy W' row) (hr : ∀ r, row = some r → B ≤ r ∧ ∃ o : Obj, W.heap[r]? = some o ∧ o.isCells = false) : FCheckX w x W' :=
  have hr' : ∀ r, row = some r → ∃ o : Obj, W.heap[r]? = some o ∧ o.isCells = false := fun r e => (hr r e).2
  ⟨h.bad, h.B.grown hg h.B.size (fun q e => Nat.le_trans hB (hr q e).1), (cells_kept hg hr' h.r0).trans h.r0, (cells_kept hg hr' h.r1).trans h.r1, (cells_kept hg hr' h.r2).trans h.r2⟩
/-- the three results stored -/
theorem FCheckI.stored {w : World} {sv : Value} {root d : Int} {T : List Ev → Prop} {pre : List Ev} {W : World} (h : FCheckI w sv root d T pre W) (x : Nat × Nat × Nat) (hx : x.2.2 ≠ 0) :
    FCheckX w x (((W.setCell ⟨w.heap.size + 1 + 1 + 1, 0, none⟩ (.int .i64 x.1)).setCell ⟨w.heap.size + 1 + 1 + 1 + 1, 0, none⟩ (.int .i64 x.2.1)).setCell ⟨w.heap.size + 1 + 1 + 1 + 1 + 1, 0, none⟩ (.int .u8 x.2.2)) := by
  have s0 := h.r0.set 0 (.int .i64 x.1)
  have s1 := h.r1.set_other ⟨w.heap.size + 1 + 1 + 1, 0, none⟩ (.int .i64 x.1) (by simp)
  have s2 := h.r2.set_other ⟨w.heap.size + 1 + 1 + 1, 0, none⟩ (.int .i64 x.1) (by show w.heap.size + 1 + 1 + 1 + 1 + 1 ≠ w.heap.size + 1 + 1 + 1; omega)
  have t0 := s0.set_other ⟨w.heap.size + 1 + 1 + 1 + 1, 0, none⟩ (.int .i64 x.2.1) (by simp)
  have t1 := s1.set 0 (.int .i64 x.2.1)
  have t2 := s2.set_other ⟨w.heap.size + 1 + 1 + 1 + 1, 0, none⟩ (.int .i64 x.2.1) (by simp)
  exact ⟨hx, ((h.B.setCell (by simp; omega) _).setCell (by simp; omega) _).setCell (by simp; omega) _, t0.set_other ⟨w.heap.size + 1 + 1 + 1 + 1 + 1, 0, none⟩ (.int .u8 x.2.2) (by show w.heap.size + 1 + 1 + 1 ≠ w.heap.size + 1 + 1 + 1 + 1 + 1; omega),
    t1.set_other ⟨w.heap.size + 1 + 1 + 1 + 1 + 1, 0, none⟩ (.int .u8 x.2.2) (by simp), t2.set 0 (.int .u8 x.2.2)⟩
theorem FCheckX.drew {w : World} {x : Nat × Nat × Nat} {W : World} (h : FCheckX w x W) : FCheckX w x W.drew := ⟨h.bad, h.B.drew, h.r0, h.r1, h.r2⟩

set_option maxRecDepth 100000 in
set_option maxHeartbeats 4000000 in
theorem frames_Check {w : World} {vs v : Value} {s : List Mes} {l : List UInt8} (hS : SchemaAt w vs s) (h : Bytes w v l) (root d : Int) :
    Calls Try.prog 15 #[vs, .int .i64 root, v, .int .i64 d] w fun e w' => e = .returned (.tuple #[.int .i64 (fcheck s root d l).1, .int .i64 (fcheck s root d l).2.1, .int .u8 (fcheck s root d l).2.2]) ∧ Below w.heap.size w w' := by
  refine (callsIn_wide (n := 6)).1 ?_
  obtain ⟨hlen, a, cap, rfl, -, -, -, -⟩ := h.open
  obtain ⟨hslen, sa, scap, rfl, -⟩ := hS.open
  obtain ⟨ln, HN⟩ : ∃ ln, Hid (ln = l.length) := ⟨_, rfl⟩
  rw [← HN.out] at hlen h ⊢
  obtain ⟨sn, HSN⟩ : ∃ sn, Hid (sn = s.length) := ⟨_, rfl⟩
  rw [← HSN.out] at hslen hS ⊢
  have HV := hid h
  have HS := hid hS
  clear h hS
  obtain ⟨x, HX⟩ : ∃ x, Hid (x = fcheck s root d l) := ⟨_, rfl⟩
  rw [← HX.out]
  refine callsIn_of_wp_marks Try.func15 rfl trivial ?_ rfl
  simp only [Try.ntmps15, List.size_toArray, List.length_cons, List.length_nil, Nat.reduceAdd, Nat.reduceSub, Array.replicate_succ, Array.replicate_zero, List.push_toArray, List.append_toArray, List.nil_append, List.cons_append]
  have hn1 : 1 ≤ 6 := by omega
  have e0 := Blk.new w [.slice sa sn scap] 25
  have e1 := Blk.new (w.alloc (.cells #[.slice sa sn scap] 25)) [.int .i64 root] 3
  have e2 := Blk.new ((w.alloc (.cells #[.slice sa sn scap] 25)).alloc (.cells #[.int .i64 root] 3)) [.int .i64 d] 3
  have e3 := Blk.new (((w.alloc (.cells #[.slice sa sn scap] 25)).alloc (.cells #[.int .i64 root] 3)).alloc (.cells #[.int .i64 d] 3)) [.int .i64 0] 3
  have e4 := Blk.new ((((w.alloc (.cells #[.slice sa sn scap] 25)).alloc (.cells #[.int .i64 root] 3)).alloc (.cells #[.int .i64 d] 3)).alloc (.cells #[.int .i64 0] 3)) [.int .i64 0] 3
  have e5 := Blk.new (((((w.alloc (.cells #[.slice sa sn scap] 25)).alloc (.cells #[.int .i64 root] 3)).alloc (.cells #[.int .i64 d] 3)).alloc (.cells #[.int .i64 0] 3)).alloc (.cells #[.int .i64 0] 3)) [.int .u8 0] 28
  simp only [World.size_alloc] at e1 e2 e3 e4 e5
  obtain ⟨W0, HW0⟩ : ∃ W0, Hid (W0 = (((((w.alloc (.cells #[.slice sa sn scap] 25)).alloc (.cells #[.int .i64 root] 3)).alloc (.cells #[.int .i64 d] 3)).alloc (.cells #[.int .i64 0] 3)).alloc (.cells #[.int .i64 0] 3)).alloc (.cells #[.int .u8 0] 28)) := ⟨_, rfl⟩
  have hI0 : FCheckI w (.slice sa sn scap) root d (fun pre => ∀ e ∈ pre, (fone s root d l e).2.2 = 0) [] W0 := by
    rw [HW0.out]
    refine ⟨by simp, ?_, ((((e0.alloc _).alloc _).alloc _).alloc _).alloc _, (((e1.alloc _).alloc _).alloc _).alloc _, ((e2.alloc _).alloc _).alloc _, (e3.alloc _).alloc _, e4.alloc _, e5⟩
    (repeat (first | with_reducible exact Below.refl _ _ | with_reducible refine Below.setCell ?_ (by first | omega | (simp; omega) | (simp; done)) _ | with_reducible refine Below.alloc ?_ (by first | omega | (simp; omega) | (simp; done)) _ | with_reducible refine below_drewN ?_ _ | with_reducible refine Below.drew ?_))
  have HI0 := hid hI0
  clear hI0 e0 e1 e2 e3 e4 e5
  have HA := hid (valid_Args (HS.out.keep (below_keeps HI0.out.B)) root d)
  gi_wp2_with fail
  rw [← HW0.out]
  obtain ⟨c, HC⟩ : ∃ c, Hid (c = argsCode s root d) := ⟨_, rfl⟩
  rw [← HC.out] at HA
  refine ⟨trivial, ?_⟩
  refine (callsIn_wide.2 HA.out).mono ?_
  rintro e w1 ⟨rfl, hb1⟩
  have HI1 := hid (HI0.out.later hb1)
  clear hb1
  have r0 := HI1.out.r0.cell 0 _ rfl
  have r1 := HI1.out.r1.cell 0 _ rfl
  have r2 := HI1.out.r2.cell 0 _ rfl
  have z0 := HI1.out.r0.free
  have z1 := HI1.out.r1.free
  have z2 := HI1.out.r2.free
  by_cases hc : c = 0
  · subst hc
    obtain rfl : x = fcheckGo s root d l (evs l 0 0) := by rw [HX.out]; unfold fcheck; rw [← HC.out, if_neg (by decide)]
    gi_wp2_with (refine ⟨trivial, ?_⟩; gi_at_call 37; refine (frames_frames 5 _ _ _).mono ?_; rintro e w' ⟨rfl, rfl⟩)
    have HB1 := hid (show Blk (w1.alloc (.cells #[.slice a ln cap] 22)) w1.heap.size [.slice a ln cap] 22 from Blk.new w1 [.slice a ln cap] _)
    have HI2 := hid (HI1.out.later ((Below.refl w1.heap.size w1).alloc (Nat.le_refl _) (.cells #[.slice a ln cap] 22)))
    have hwz : w.heap.size + 1 + 1 + 1 + 1 + 1 < w1.heap.size := HI1.out.r2.lt
    refine wpIn_rangeFunc_ownH rfl hn1 (gf := 73) (lb := #[.pointer (some ⟨w1.heap.size, 0, none⟩)]) rfl trivial (enters_of Try.func73 (by kernel_rfl) rfl)
      (frames_stops 5 (by omega) w1.heap.size HV.out HN.out HI2.out.B HB1.out (by omega)) keeps2_t ?hKb (Below.refl _ _) (fun _ => rfl)
      (fun pre W => FCheckI w (.slice sa sn scap) root d (fun pre => ∀ e ∈ pre, (fone s root d l e).2.2 = 0) pre W ∧ w1.heap.size < W.heap.size) (fun c es W => c = .ret ∧ ∃ pre x, es = pre ++ [x] ∧ (∀ e ∈ pre, (fone s root d l e).2.2 = 0) ∧ FCheckX w (fone s root d l x) W) (OwnFrom.and (FCheckI.own (by simp; omega)) (fun s W W' row h hg hr => Nat.lt_of_lt_of_le h hg.size)) ?hIx ⟨HI2.out, by simp⟩
      (fun x a' W => ∃ Bx, w1.heap.size < Bx ∧ (∃ sa' sn' sc', x.val a ln cap = .agg #[.slice sa' sn' sc', .int .i64 x.at', .int .u8 x.c] ∧ Blk W Bx [.slice sa' sn' sc', .int .i64 x.at', .int .u8 x.c] 94) ∧ a' = { tmps := #[.slice sa sn scap, .int .i64 root, .slice a ln cap, .int .i64 d, .pointer (some ⟨w.heap.size, 0, none⟩), .pointer (some ⟨w.heap.size + 1, 0, none⟩), undef, .pointer (some ⟨w.heap.size + 1 + 1, 0, none⟩), .pointer (some ⟨w.heap.size + 1 + 1 + 1, 0, none⟩), .pointer (some ⟨w.heap.size + 1 + 1 + 1 + 1, 0, none⟩), .pointer (some ⟨w.heap.size + 1 + 1 + 1 + 1 + 1, 0, none⟩), .int .u8 0, .int .i64 x.i, .pointer (some ⟨Bx, 0, none⟩), undef, undef, .slice sa sn scap, .int .i64 root, .int .i64 d, .int .u8 0, .int .u8 0, .bool false, undef, .slice a ln cap, .func (.func 73) #[] #[.pointer (some ⟨w1.heap.size, 0, none⟩)], .int .i64 x.i, x.val a ln cap, undef, undef, undef, undef, undef, undef, undef, undef, undef, undef, undef, undef, undef, undef, undef, undef, undef, undef, undef, undef, undef, undef], defers := [] }) ?hAx ?assign ?body ?done ?stop
    case hKb =>
      intro W k o o' hk ho hc hw
      simp at hk
      exact ⟨below_put _ _ _ (by omega), World.putObj_heap_other (by omega)⟩
    case hIx =>
      intro c es W W' row h hg hr
      obtain ⟨rfl, pre, x, rfl, hpre, hX⟩ := h
      exact ⟨rfl, pre, x, rfl, hpre, hX.own (by simp; omega) hg hr⟩
    case hAx =>
      intro x a' _ W W' row h hg hr
      obtain ⟨Bx, h1, ⟨sa', sn', sc', h2, h3⟩, h4⟩ := h
      exact ⟨Bx, h1, ⟨sa', sn', sc', h2, (cells_kept hg (fun r e => (hr r e).2) h3).trans h3⟩, h4⟩
    case assign =>
      rintro lr pre x W K hi hK
      obtain ⟨sa', sn', sc', hsv⟩ := Ev.val_form a ln cap x
      simp only [Ev.enc, hsv]
      gi_wp2
      refine hK _ _ ?_ ?_ ?_ ?_
      · exact (KeepsOthers.alloc _ _).from _
      · exact ⟨(Below.refl _ _).alloc hi.1.B.size _, Below.heap_alloc W _ _ hi.2⟩
      · exact ⟨hi.1.later ((Below.refl _ _).alloc (Nat.le_refl _) _), by have := hi.2; simp; omega⟩
      · exact ⟨W.heap.size, hi.2, ⟨sa', sn', sc', hsv, Blk.new W [.slice sa' sn' sc', .int .i64 x.at', .int .u8 x.c] _⟩, by rw [hsv]⟩
    case body =>
      rintro lr pre x a' W hl hr hI ⟨Bx, hBx, ⟨sa', sn', sc', hval, hbx⟩, rfl⟩ hlt
      rw [hval]
      have q0 := hbx.cell 0 _ rfl
      have q1 := hbx.cell 1 _ rfl
      have q2 := hbx.cell 2 _ rfl
      have bl := hbx.lt
      have HI := hid hI.1
      have HIZ := hid hI.2
      have HVL := hid hval
      clear r0 r1 r2 z0 z1 z2
      have r0 := HI.out.r0.cell 0 _ rfl
      have r1 := HI.out.r1.cell 0 _ rfl
      have r2 := HI.out.r2.cell 0 _ rfl
      have z0 := HI.out.r0.free
      have z1 := HI.out.r1.free
      have z2 := HI.out.r2.free
      have b0 := HI.out.b0.cell 0 _ rfl
      have b1 := HI.out.b1.cell 0 _ rfl
      have b2 := HI.out.b2.cell 0 _ rfl
      clear hI hval hbx hr
      by_cases hc : x.c = 0
      · have e1 : ((x.c : Int) != 0) = false := by simp [hc]
        have hf : fone s root d l x = (x.i, (vcheck s root (x.load l) d).1, (vcheck s root (x.load l) d).2) := by unfold fone; rw [if_neg (by rw [hc]; decide)]
        have hbx : Bytes w (.slice sa' sn' sc') (Ev.load l x) := by
          have h5 := HVL.out
          unfold Ev.val at h5
          rw [if_pos hc] at h5
          injection h5 with h5
          injection h5 with h5
          injection h5 with h5 h6
          rw [← h5]
          unfold Ev.load
          rw [← HN.out]
          exact HV.out.sub HN.out _ _ (Nat.min_le_right _ _) (Nat.min_le_right _ _)
        obtain ⟨y, HY⟩ : ∃ y, Hid (y = vcheck s root (x.load l) d) := ⟨_, rfl⟩
        rw [← HY.out] at hf
        have HC := hid (valid_Check (HS.out.keep (below_keeps HI.out.B)) (hbx.keep (below_keeps HI.out.B)) root d)
        rw [← HY.out] at HC
        obtain ⟨y1, y2⟩ := y
        simp only at hf
        have HF := hid hf
        have hn2 : 1 ≤ 6 - 1 - 1 := by omega
        clear hf hbx hc
        by_cases hy : y2 = 0
        · subst hy
          gi_wp2_with (refine ⟨trivial, ?_⟩; gi_at_call 42; refine (CallsIn.inRound lr (callsIn_wide.2 HC.out)).mono ?_; rintro e W2 ⟨rfl, hb2⟩; have HI2 := hid (HI.out.later hb2); have HB2 := hid hb2; clear hb2)
          refine ⟨(KeepsOthers.of_grownBy (below_grown HB2.out none) (by intro j o e; cases e)).from _, ⟨HB2.out.mono HI.out.B.size, HB2.out.block _ HIZ.out⟩, ⟨?_, HI2.out.B, HI2.out.b0, HI2.out.b1, HI2.out.b2, HI2.out.r0, HI2.out.r1, HI2.out.r2⟩, Nat.lt_of_lt_of_le HIZ.out HB2.out.size⟩
          intro e he
          rcases List.mem_append.1 he with he | he
          · exact HI.out.good e he
          · simp at he; subst he; rw [HF.out]
        · have ey : ((y2 : Int) != 0) = true := by simp; omega
          have HYN := hid hy
          clear hy
          gi_wp2_with (refine ⟨trivial, ?_⟩; gi_at_call 42; refine (CallsIn.inRound lr (callsIn_wide.2 HC.out)).mono ?_; rintro e W2 ⟨rfl, hb2⟩; have HI2 := hid (HI.out.later hb2); have HB2 := hid hb2; clear hb2 r0 r1 r2 z0 z1 z2 b0 b1 b2; have r0 := HI2.out.r0.cell 0 _ rfl; have r1 := HI2.out.r1.cell 0 _ rfl; have r2 := HI2.out.r2.cell 0 _ rfl; have z0 := HI2.out.r0.free; have z1 := HI2.out.r1.free; have z2 := HI2.out.r2.free)
          have HX := HI2.out.stored (x.i, y1, y2) HYN.out
          rw [← HF.out] at HX
          rw [HF.out] at HX
          refine ⟨?_, rfl, pre, x, rfl, HI.out.good, by rw [HF.out]; exact HX⟩
          exact ((KeepsOthers.of_grownBy (below_grown HB2.out none) (by intro j o e; cases e)).trans (((KeepsOthers.setCell _ _ _).trans (KeepsOthers.setCell _ _ _)).trans (KeepsOthers.setCell _ _ _))).from _
      · have e1 : ((x.c : Int) != 0) = true := by simp; omega
        have hf : fone s root d l x = (x.i, x.at', x.c) := by unfold fone; rw [if_pos hc]
        have HX := hid (HI.out.stored (x.i, x.at', x.c) hc).drew
        rw [← hf] at HX
        have HKF : Hid (KeepsFrom (w1.alloc (.cells #[.slice a ln cap] 22)).heap.size W (((W.setCell ⟨w.heap.size + 1 + 1 + 1, 0, none⟩ (.int .i64 x.i)).setCell ⟨w.heap.size + 1 + 1 + 1 + 1, 0, none⟩ (.int .i64 x.at')).setCell ⟨w.heap.size + 1 + 1 + 1 + 1 + 1, 0, none⟩ (.int .u8 x.c)).drew) :=
          ((((KeepsOthers.setCell _ _ _).trans (KeepsOthers.setCell _ _ _)).trans (KeepsOthers.setCell _ _ _)).trans (KeepsOthers.drew _)).from _
        have HF := hid hf
        clear hc hf
        gi_wp2
        gi_region
        all_goals gi_wp2
        all_goals
          rw [HF.out] at HX
          exact ⟨HKF.out, rfl, pre, x, rfl, HI.out.good, by rw [HF.out]; exact HX.out⟩
    case done =>
      rintro D xs W hD rfl ⟨hI, -⟩ hK
      have HI := hid hI
      have HK := hid hK
      clear r0 r1 r2 z0 z1 z2
      have r0 := hI.r0.cell 0 _ rfl
      have r1 := hI.r1.cell 0 _ rfl
      have r2 := hI.r2.cell 0 _ rfl
      have z0 := hI.r0.free
      have z1 := hI.r1.free
      have z2 := hI.r2.free
      clear hI hK
      gi_wp2
      have s0 := HI.out.r0.set 0 (.int .i64 0)
      have s1 := HI.out.r1.set_other ⟨w.heap.size + 1 + 1 + 1, 0, none⟩ (.int .i64 0) (by simp)
      have s2 := HI.out.r2.set_other ⟨w.heap.size + 1 + 1 + 1, 0, none⟩ (.int .i64 0) (by show w.heap.size + 1 + 1 + 1 + 1 + 1 ≠ w.heap.size + 1 + 1 + 1; omega)
      have d0 := deferred_set HK.out HI.out.r0 0 (.int .i64 0)
      have t0 := s0.set_other ⟨w.heap.size + 1 + 1 + 1 + 1, 0, none⟩ (.int .i64 0) (by simp)
      have t1 := s1.set 0 (.int .i64 0)
      have t2 := s2.set_other ⟨w.heap.size + 1 + 1 + 1 + 1, 0, none⟩ (.int .i64 0) (by simp)
      have d1 := deferred_set d0 s1 0 (.int .i64 0)
      have u0 := t0.set_other ⟨w.heap.size + 1 + 1 + 1 + 1 + 1, 0, none⟩ (.int .u8 0) (by show w.heap.size + 1 + 1 + 1 ≠ w.heap.size + 1 + 1 + 1 + 1 + 1; omega)
      have u1 := t1.set_other ⟨w.heap.size + 1 + 1 + 1 + 1 + 1, 0, none⟩ (.int .u8 0) (by simp)
      have u2 := t2.set 0 (.int .u8 0)
      have d2 := deferred_set d1 t2 0 (.int .u8 0)
      have hb := ((HI.out.B.setCell (p := ⟨w.heap.size + 1 + 1 + 1, 0, none⟩) (by simp; omega) (.int .i64 0)).setCell (p := ⟨w.heap.size + 1 + 1 + 1 + 1, 0, none⟩) (by simp; omega) (.int .i64 0)).setCell (p := ⟨w.heap.size + 1 + 1 + 1 + 1 + 1, 0, none⟩) (by simp; omega) (.int .u8 0)
      obtain ⟨q0, q1, q2, q3, q4⟩ := three_results0 u0 u1 u2 d2 (by simp at hD; omega) hb
      refine ⟨by simp, .inl ⟨_, _, rfl, run_takeDeferred (P := Try.prog) d2, ?_⟩⟩
      exact ⟨_, by simp [results, Try.f15, go_sem, q0, q1, q2]; rfl, by rw [fcheckGo_pass HI.out.good]; rfl, q3⟩
    case stop =>
      rintro D c pre W hD hS ⟨rfl, pre', x, rfl, hpre, hX⟩ hK
      have HX := hid hX
      have HK := hid hK
      clear hX hK
      gi_wp2
      obtain ⟨q0, q1, q2, q3, q4⟩ := three_results0 HX.out.r0 HX.out.r1 HX.out.r2 HK.out (by simp at hD; omega) HX.out.B
      refine ⟨by simp, .inl ⟨_, _, rfl, run_takeDeferred (P := Try.prog) HK.out, ?_⟩⟩
      obtain ⟨tl, ht⟩ := hS
      have hgo : fcheckGo s root d l (evs l 0 0) = fone s root d l x := by
        rw [← ht, List.append_assoc]
        exact fcheckGo_stop HX.out.bad hpre
      exact ⟨_, by simp [results, Try.f15, go_sem, q0, q1, q2]; rfl, by rw [hgo], q3⟩
  · obtain rfl : x = (0, 0, c) := by rw [HX.out]; unfold fcheck; rw [← HC.out, if_pos hc]
    have ec : ((c : Int) != 0) = true := by simp; omega
    have HCN := hid hc
    clear hc
    gi_wp2
    have hX := HI1.out.stored (0, 0, c) HCN.out
    simp only [Int.natCast_zero] at hX
    generalize (((w1.setCell ⟨w.heap.size + 1 + 1 + 1, 0, none⟩ (.int .i64 0)).setCell ⟨w.heap.size + 1 + 1 + 1 + 1, 0, none⟩ (.int .i64 0)).setCell ⟨w.heap.size + 1 + 1 + 1 + 1 + 1, 0, none⟩ (.int .u8 c)) = WX at hX ⊢
    have q0 := hX.r0.cell 0 _ rfl
    have q1 := hX.r1.cell 0 _ rfl
    have q2 := hX.r2.cell 0 _ rfl
    refine ⟨_, by simp [results, Try.f15, go_sem, q0, q1, q2], rfl, hX.B⟩

end Go.Proofs.Ytgephhmkaonahaa
