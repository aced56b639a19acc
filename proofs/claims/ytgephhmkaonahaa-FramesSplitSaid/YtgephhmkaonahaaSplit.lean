/- What frames.Split returns: the frames' bytes (copies); or none, the place, the code. -/
import Derived.Test.YtgephhmkaonahaaLists
import Derived.RangeFuncNested
import Derived.RangeFuncBound
import Derived.RangeFuncCalls
import Derived.RangeFuncLeaves
import Derived.Shelf.RegionOpen
namespace Go.Proofs.Ytgephhmkaonahaa
open Go.RowKit Go.Shelf
attribute [local go_sem] Oper.semAt_some

def Ev.load (l : List UInt8) (e : Ev) : List UInt8 := part l (min e.ff (min e.tt l.length)) (min e.tt l.length)
def bad (es : List Ev) : Option Ev := es.find? fun e => e.c != 0

theorem Bytes.sub {w : World} {a : Option Addr} {n cap : Nat} {l : List UInt8} (h : Bytes w (.slice a n cap) l) (hn : n = l.length) (i j : Nat) (hij : i ≤ j) (hj : j ≤ n) : Bytes w (sliced a i j cap 1) (part l i j) := by
  subst hn
  have hs := Seg.sub h i j hij hj
  unfold Bytes part
  rw [List.length_take, List.length_drop, Nat.min_eq_left (by omega), List.map_take, List.map_drop]
  simpa using hs
theorem part_le (l : List UInt8) (i j : Nat) : (part l i j).length ≤ l.length := by
  unfold part; rw [List.length_take, List.length_drop]; omega

theorem Ev.val_form (a : Option Addr) (ln cap : Nat) (x : Ev) : ∃ sa sn sc, x.val a ln cap = .agg #[.slice sa sn sc, .int .i64 x.at', .int .u8 x.c] := by
  unfold Ev.val
  split
  · exact ⟨_, _, _, rfl⟩
  · exact ⟨_, _, _, rfl⟩

/-- the boxes of a split under way -/
structure SplitI (w : World) (l : List UInt8) (pre : List Ev) (W : World) : Prop where
  good : ∀ e ∈ pre, e.c = 0
  B : Below w.heap.size w W
  r0 : Blk W w.heap.size [.slice none 0 0] 23
  r1 : Blk W (w.heap.size + 1) [.int .i64 0] 3
  r2 : Blk W (w.heap.size + 1 + 1) [.int .u8 0] 28
  hz : w.heap.size + 1 + 1 + 1 + 1 + 1 ≤ W.heap.size
  rows : ∃ lv, Blk W (w.heap.size + 1 + 1 + 1) [lv] 23 ∧ Rows W (w.heap.size + 1 + 1 + 1 + 1 + 1) lv (pre.map (Ev.load l))
structure SplitX (w : World) (x : Ev) (W : World) : Prop where
  bad : x.c ≠ 0
  B : Below w.heap.size w W
  r0 : Blk W w.heap.size [.slice none 0 0] 23
  r1 : Blk W (w.heap.size + 1) [.int .i64 x.at'] 3
  r2 : Blk W (w.heap.size + 1 + 1) [.int .u8 x.c] 28

theorem cells_kept {W W' : World} {row : Option Nat} (hg : W.grownBy W' row) (hr : ∀ r, row = some r → ∃ o : Obj, W.heap[r]? = some o ∧ o.isCells = false) {b : Nat} {cur : Array Value} {e : TypeId} {f : Nat × Nat} (h : W.heap[b]? = some (.cells cur e f)) : W'.heap[b]? = W.heap[b]? :=
  hg.block b (Array.getElem?_eq_some_iff.1 h).1 (fun hb => by
    obtain ⟨o, ho, hc⟩ := hr b hb.symm
    rw [h] at ho
    cases ho
    cases hc)

theorem SplitI.own {w : World} {l : List UInt8} {B : Nat} (hB : w.heap.size ≤ B) : OwnFrom B (SplitI w l) := by
  intro pre W W' row h hg hr
  have hr' : ∀ r, row = some r → ∃ o : Obj, W.heap[r]? = some o ∧ o.isCells = false := fun r e => (hr r e).2
  obtain ⟨lv, h4, h5⟩ := h.rows
  refine ⟨h.good, h.B.grown hg h.B.size (fun q e => Nat.le_trans hB (hr q e).1), (cells_kept hg hr' h.r0).trans h.r0, (cells_kept hg hr' h.r1).trans h.r1, (cells_kept hg hr' h.r2).trans h.r2, Nat.le_trans h.hz hg.size, lv, (cells_kept hg hr' h4).trans h4, h5.keep fun b cur e _ he _ => cells_kept hg hr' he⟩
theorem SplitX.own {w : World} {x : Ev} {W W' : World} {row : Option Nat} {B : Nat} (hB : w.heap.size ≤ B) (h : SplitX w x W) (hg : W.grownBy W' row) (hr : ∀ r, row = some r → B ≤ r ∧ ∃ o : Obj, W.heap[r]? = some o ∧ o.isCells = false) : SplitX w x W' :=
  have hr' : ∀ r, row = some r → ∃ o : Obj, W.heap[r]? = some o ∧ o.isCells = false := fun r e => (hr r e).2
  ⟨h.bad, h.B.grown hg h.B.size (fun q e => Nat.le_trans hB (hr q e).1), (cells_kept hg hr' h.r0).trans h.r0, (cells_kept hg hr' h.r1).trans h.r1, (cells_kept hg hr' h.r2).trans h.r2⟩

theorem bad_none {es : List Ev} (h : ∀ e ∈ es, e.c = 0) : bad es = none := by
  unfold bad
  rw [List.find?_eq_none]
  intro e he
  simp [h e he]
theorem bad_some {es pre : List Ev} {x : Ev} (hp : pre ++ [x] <+: es) (h : ∀ e ∈ pre, e.c = 0) (hx : x.c ≠ 0) : bad es = some x := by
  obtain ⟨t, rfl⟩ := hp
  unfold bad
  rw [List.append_assoc, List.find?_append, show pre.find? _ = none from bad_none h]
  simp [hx]

/-- Three results in boxes of their own, and the block of the rounds' deferred calls is shut. -/
theorem three_results0 {w W : World} {H B0 B1 B2 BD : Nat} {u0 u1 u2 : Value} {T0 T1 T2 : TypeId} (r0 : Blk W B0 [u0] T0) (r1 : Blk W B1 [u1] T1) (r2 : Blk W B2 [u2] T2) (hD : W.heap[BD]? = some (.deferred (some [])))
    (hHD : H ≤ BD) (hB : Below H w W) :
    (W.putObj BD (.deferred none)).cell? ⟨B0, 0, none⟩ = some u0 ∧ (W.putObj BD (.deferred none)).cell? ⟨B1, 0, none⟩ = some u1 ∧ (W.putObj BD (.deferred none)).cell? ⟨B2, 0, none⟩ = some u2 ∧ Below H w (W.putObj BD (.deferred none)) ∧
      (∀ (b : Nat) (cur : Array Value) (e : TypeId), W.heap[b]? = some (.cells cur e (0, 0)) → (W.putObj BD (.deferred none)).heap[b]? = W.heap[b]?) := by
  have ne : ∀ {b : Nat} {cur : Array Value} {e : TypeId}, W.heap[b]? = some (.cells cur e (0, 0)) → b ≠ BD := by rintro b cur e h rfl; rw [h] at hD; cases hD
  exact ⟨(r0.put _ (ne r0)).cell 0 _ rfl, (r1.put _ (ne r1)).cell 0 _ rfl, (r2.put _ (ne r2)).cell 0 _ rfl, hB.trans (below_put _ _ _ hHD), fun b cur e h => World.putObj_heap_other (ne h)⟩

theorem deferred_set {W : World} {BD : Nat} (hD : W.heap[BD]? = some (.deferred (some []))) {B : Nat} {cs : List Value} {T : TypeId} (h : Blk W B cs T) (j : Nat) (v : Value) : (W.setCell ⟨B, j, none⟩ v).heap[BD]? = some (.deferred (some [])) :=
  (Below.heap_setCell W _ _ BD (by show BD ≠ B; rintro rfl; unfold Blk at h; rw [h] at hD; cases hD)).trans hD

set_option maxRecDepth 100000 in
set_option maxHeartbeats 4000000 in
theorem frames_Split {w : World} {v : Value} {l : List UInt8} (h : Bytes w v l) (hsm : l.length ≤ 1099511627776) :
    Calls Try.prog 10 #[v] w fun e w' => Below w.heap.size w w' ∧ ((bad (evs l 0 0) = none ∧ ∃ lv, e = .returned (.tuple #[lv, .int .i64 0, .int .u8 0]) ∧ Rows w' w.heap.size lv ((evs l 0 0).map (Ev.load l))) ∨
      (∃ x, bad (evs l 0 0) = some x ∧ e = .returned (.tuple #[.slice none 0 0, .int .i64 x.at', .int .u8 x.c]))) := by
  refine (callsIn_wide (n := 6)).1 ?_
  obtain ⟨hlen, a, cap, rfl, -, -, -, -⟩ := h.open
  obtain ⟨ln, HN⟩ : ∃ ln, Hid (ln = l.length) := ⟨_, rfl⟩
  rw [← HN.out] at hlen h hsm ⊢
  have HV := hid h
  clear h
  refine callsIn_of_wp_marks Try.func10 rfl trivial ?_ rfl
  simp only [Try.ntmps10, List.size_toArray, List.length_cons, List.length_nil, Nat.reduceAdd, Nat.reduceSub, Array.replicate_succ, Array.replicate_zero, List.push_toArray, List.append_toArray, List.nil_append, List.cons_append]
  have hn1 : 1 ≤ 6 := by omega
  gi_wp2_with (refine ⟨trivial, ?_⟩; gi_at_call 37; refine (frames_frames 5 _ _ _).mono ?_; rintro e w' ⟨rfl, rfl⟩)
  obtain ⟨W0, HW0⟩ : ∃ W0, Hid (W0 = ((((w.alloc (.cells #[.slice none 0 0] 23)).alloc (.cells #[.int .i64 0] 3)).alloc (.cells #[.int .u8 0] 28)).alloc (.cells #[.slice none 0 0] 23)).alloc (.cells #[.slice a ln cap] 22)) := ⟨_, rfl⟩
  rw [← HW0.out]
  have hs0 : W0.heap.size = w.heap.size + 1 + 1 + 1 + 1 + 1 := by rw [HW0.out]; simp
  have hB0 : Below w.heap.size w W0 := by
    rw [HW0.out]
    (repeat (first | with_reducible exact Below.refl _ _ | with_reducible refine Below.setCell ?_ (by first | omega | (simp; omega) | (simp; done)) _ | with_reducible refine Below.alloc ?_ (by first | omega | (simp; omega) | (simp; done)) _ | with_reducible refine below_drewN ?_ _ | with_reducible refine Below.drew ?_))
  have e0 := Blk.new w [.slice none 0 0] 23
  have e1 := Blk.new (w.alloc (.cells #[.slice none 0 0] 23)) [.int .i64 0] 3
  have e2 := Blk.new ((w.alloc (.cells #[.slice none 0 0] 23)).alloc (.cells #[.int .i64 0] 3)) [.int .u8 0] 28
  have e3 := Blk.new (((w.alloc (.cells #[.slice none 0 0] 23)).alloc (.cells #[.int .i64 0] 3)).alloc (.cells #[.int .u8 0] 28)) [.slice none 0 0] 23
  have e4 := Blk.new ((((w.alloc (.cells #[.slice none 0 0] 23)).alloc (.cells #[.int .i64 0] 3)).alloc (.cells #[.int .u8 0] 28)).alloc (.cells #[.slice none 0 0] 23)) [.slice a ln cap] 22
  simp only [World.size_alloc] at e1 e2 e3 e4
  have hI0 : SplitI w l [] W0 := by
    refine ⟨by simp, hB0, ?_, ?_, ?_, by omega, .slice none 0 0, ?_, rows_nil _ _⟩
    · rw [HW0.out]; exact (((e0.alloc _).alloc _).alloc _).alloc _
    · rw [HW0.out]; exact ((e1.alloc _).alloc _).alloc _
    · rw [HW0.out]; exact (e2.alloc _).alloc _
    · rw [HW0.out]; exact e3.alloc _
  have hBs : Blk W0 (w.heap.size + 1 + 1 + 1 + 1) [.slice a ln cap] 22 := by rw [HW0.out]; exact e4
  clear e0 e1 e2 e3 e4
  refine wpIn_rangeFunc_ownH rfl hn1 (gf := 73) (lb := #[.pointer (some ⟨w.heap.size + 1 + 1 + 1 + 1, 0, none⟩)]) rfl trivial (enters_of Try.func73 (by kernel_rfl) rfl)
    (frames_stops 5 (by omega) (w.heap.size + 1 + 1 + 1 + 1) HV.out HN.out hB0 hBs (by omega)) keeps2_t ?hKb (Below.refl _ _) (fun _ => rfl)
    (SplitI w l) (fun c es W => c = .ret ∧ ∃ pre x, es = pre ++ [x] ∧ (∀ e ∈ pre, e.c = 0) ∧ SplitX w x W) (SplitI.own (by omega)) ?hIx hI0
    (fun x a' W => ∃ Bx, w.heap.size + 1 + 1 + 1 + 1 + 1 ≤ Bx ∧ (∃ sa sn sc, x.val a ln cap = .agg #[.slice sa sn sc, .int .i64 x.at', .int .u8 x.c] ∧ Blk W Bx [.slice sa sn sc, .int .i64 x.at', .int .u8 x.c] 94) ∧ a' = { tmps := #[.slice a ln cap, undef, .pointer (some ⟨w.heap.size, 0, none⟩), .pointer (some ⟨w.heap.size + 1, 0, none⟩), .pointer (some ⟨w.heap.size + 1 + 1, 0, none⟩), .pointer (some ⟨w.heap.size + 1 + 1 + 1, 0, none⟩), undef, .pointer (some ⟨Bx, 0, none⟩), .slice a ln cap, .func (.func 73) #[] #[.pointer (some ⟨w.heap.size + 1 + 1 + 1 + 1, 0, none⟩)], .int .i64 x.i, x.val a ln cap, undef, undef, undef, undef, undef, undef, undef, undef, undef, undef, undef, undef, undef, undef, undef], defers := [] }) ?hAx ?assign ?body ?done ?stop
  case hKb =>
    intro W k o o' hk ho hc hw
    refine ⟨below_put _ _ _ (by omega), World.putObj_heap_other (by omega)⟩
  case hIx =>
    intro c es W W' row h hg hr
    obtain ⟨rfl, pre, x, rfl, hpre, hX⟩ := h
    exact ⟨rfl, pre, x, rfl, hpre, hX.own (by omega) hg hr⟩
  case hAx =>
    intro x a' _ W W' row h hg hr
    obtain ⟨Bx, h1, ⟨sa, sn, sc, h2, h3⟩, h4⟩ := h
    exact ⟨Bx, h1, ⟨sa, sn, sc, h2, (cells_kept hg (fun r e => (hr r e).2) h3).trans h3⟩, h4⟩
  case assign =>
    rintro lr pre x W K hi hK
    obtain ⟨sa, sn, sc, hsv⟩ := Ev.val_form a ln cap x
    simp only [Ev.enc, hsv]
    gi_wp2
    refine hK _ _ ?_ ?_ ?_ ?_
    · exact (KeepsOthers.alloc _ _).from _
    · exact ⟨(Below.refl _ _).alloc hi.B.size _, Below.heap_alloc W _ _ (by have := hi.hz; omega)⟩
    · obtain ⟨lv, g1, g2⟩ := hi.rows
      exact ⟨hi.good, hi.B.alloc hi.B.size _, hi.r0.alloc _, hi.r1.alloc _, hi.r2.alloc _, by have := hi.hz; simp; omega, lv, g1.alloc _, g2.later ((Below.refl _ _).alloc (Nat.le_refl _) _)⟩
    · exact ⟨W.heap.size, hi.hz, ⟨sa, sn, sc, hsv, Blk.new W [.slice sa sn sc, .int .i64 x.at', .int .u8 x.c] _⟩, by rw [hsv]⟩
  case body =>
    rintro lr pre x a' W hl hr hI ⟨Bx, hBx, ⟨sa, sn, sc, hval, hbx⟩, rfl⟩ hlt
    rw [hval]
    have b0 := hbx.cell 0 _ rfl
    have b1 := hbx.cell 1 _ rfl
    have b2 := hbx.cell 2 _ rfl
    have bl := hbx.lt
    have HI := hid hI
    have HVL := hid hval
    have HBX := hid hbx
    clear hI hval hbx hr
    have r0 := HI.out.r0.cell 0 _ rfl
    have r1 := HI.out.r1.cell 0 _ rfl
    have r2 := HI.out.r2.cell 0 _ rfl
    have z0 := HI.out.r0.free
    have z1 := HI.out.r1.free
    have z2 := HI.out.r2.free
    by_cases hc : x.c = 0
    · have e1 : ((x.c : Int) != 0) = false := by simp [hc]
      have HC := hid hc
      clear hc
      obtain ⟨lv, g1, g2⟩ := HI.out.rows
      have r3 := g1.cell 0 _ rfl
      have z3 := g1.free
      have hbx : Bytes w (.slice sa sn sc) (Ev.load l x) := by
        have h5 := HVL.out
        unfold Ev.val at h5
        rw [if_pos HC.out] at h5
        injection h5 with h5
        injection h5 with h5
        injection h5 with h5 h6
        rw [← h5]
        unfold Ev.load
        rw [← HN.out]
        exact HV.out.sub HN.out _ _ (Nat.min_le_right _ _) (Nat.min_le_right _ _)
      have hwa : Below w.heap.size w (W.alloc (.cells #[] 5)).drew := (HI.out.B.alloc HI.out.B.size _).drew
      obtain ⟨v1, W1, hr1, hO1, hg1, -⟩ := own_append (w := (W.alloc (.cells #[] 5)).drew) (base := w.heap.size + 1 + 1 + 1 + 1 + 1) (v := .slice (some ⟨W.heap.size, 0, none⟩) 0 0) (l := [])
        (World.ownsRow_made (size := 1) W #[] 0 HI.out.hz (by unfold maxLen; omega) rfl) (hbx.keep (below_keeps hwa)) (by have h9 := part_le l (min x.ff (min x.tt l.length)) (min x.tt l.length); have := HN.out; unfold Ev.load; simp only [List.length_nil]; omega) (by have := HI.out.hz; simp; omega)
      rw [List.nil_append] at hO1
      have hW1 : Below W.heap.size W W1 := (((Below.refl W.heap.size W).alloc (Nat.le_refl _) (.cells #[] 5)).drew).grown hg1 (by simp) (by intro q e; simp [Value.ownBlock] at e; omega)
      obtain ⟨a1, c1, rfl⟩ := hO1.form
      obtain ⟨v2, W2, hr2, hO2, hg2, hob⟩ := rows_append (g2.later hW1) hO1 rfl (by have := HN.out; simp only [List.length_map]; omega) (by have := HI.out.hz; have := hW1.size; omega)
      obtain ⟨a2, c2, e2⟩ := hO2.form
      obtain ⟨m2, HM2⟩ : ∃ m2, Hid (m2 = (pre.map (Ev.load l) ++ [Ev.load l x]).length) := ⟨_, rfl⟩
      rw [← HM2.out] at e2
      subst e2
      have HR1 := hid hr1
      have HR2 := hid hr2
      have HR3 := hid r3
      have kept : ∀ {b : Nat} {cs : List Value} {T : TypeId}, Blk W b cs T → b < w.heap.size + 1 + 1 + 1 + 1 + 1 → Blk W2 b cs T := fun {b cs T} hb hlt => by
        have hb' : Blk (W1.alloc (.cells #[.slice a1 (Ev.load l x).length c1] 22)) b cs T := (hb.below hW1).alloc _
        exact (hg2.block b hb'.lt (fun e => by have := (hob b e.symm).1; omega)).trans hb'
      have g3 := kept g1 (by omega)
      have hBW2 : Below w.heap.size W W2 := (hW1.mono HI.out.B.size).trans (((Below.refl w.heap.size W1).alloc (Nat.le_trans HI.out.B.size hW1.size) (.cells #[.slice a1 (Ev.load l x).length c1] 22)).grown hg2 (by simp; have := HI.out.B.size; have := hW1.size; omega) (fun q e => by have := (hob q e).1; omega))
      have r3w : W1.cell? ⟨w.heap.size + 1 + 1 + 1, 0, none⟩ = some lv := below_keeps hW1 _ _ r3
      have l3 : w.heap.size + 1 + 1 + 1 < W.heap.size := g1.lt
      have l3' : w.heap.size + 1 + 1 + 1 < W1.heap.size := Nat.lt_of_lt_of_le l3 hW1.size
      have r3' : W2.cell? ⟨w.heap.size + 1 + 1 + 1, 0, none⟩ = some lv := g3.cell 0 _ rfl
      have z3' : W2.frozen? ⟨w.heap.size + 1 + 1 + 1, 0, none⟩ = false := g3.free 0
      have FIN : Hid (∀ a', ownPostG W0.heap.size (Keeps2 w.heap.size (w.heap.size + 1 + 1 + 1 + 1)) (SplitI w l)
          (fun c es W => c = .ret ∧ ∃ pre x, es = pre ++ [x] ∧ (∀ e ∈ pre, e.c = 0) ∧ SplitX w x W) (pre ++ [x]) W Exit.normal a' (W2.setCell ⟨w.heap.size + 1 + 1 + 1, 0, none⟩ (.slice a2 m2 c2))) := by
        intro a'
        have hne : ∀ {b : Nat}, b ≠ w.heap.size + 1 + 1 + 1 → b ≠ (⟨w.heap.size + 1 + 1 + 1, 0, none⟩ : Addr).block := fun h => h
        refine ⟨?_, ⟨?_, ?_⟩, ?_⟩
        · refine KeepsFrom.trans (KeepsFrom.trans (KeepsOthers.of_grownBy (below_grown hW1 none) (by intro j o e; cases e) |>.from _) (KeepsOthers.alloc W1 _ |>.from _)) (KeepsFrom.trans (Y := W2) (KeepsOthers.of_grownBy hg2 ?_ |>.from _) (KeepsOthers.setCell _ _ _ |>.from _))
          intro j o e ho
          obtain ⟨-, cur, hcur⟩ := hob j e
          have h9 : (W1.alloc (.cells #[.slice a1 (Ev.load l x).length c1] 22)).heap[j]? = some (.cells cur 22 (0, 0)) := (Below.heap_alloc W1 _ j (Array.getElem?_eq_some_iff.1 hcur).1).trans hcur
          rw [h9] at ho
          cases ho
          rfl
        · exact hBW2.setCell (by simp; omega) _
        · have hz := HI.out.hz
          have hz1 := hW1.size
          refine (Below.heap_setCell W2 _ _ _ (by show w.heap.size + 1 + 1 + 1 + 1 ≠ w.heap.size + 1 + 1 + 1; omega)).trans ?_
          refine (hg2.block _ (by simp; omega) (fun e => by have := (hob _ e.symm).1; omega)).trans ?_
          exact (Below.heap_alloc W1 _ _ (by omega)).trans (hW1.block _ (by omega))
        · refine ⟨?_, (HI.out.B.trans hBW2).setCell (by simp; omega) _, (kept HI.out.r0 (by omega)).set_other _ _ (hne (by omega)), (kept HI.out.r1 (by omega)).set_other _ _ (hne (by omega)), (kept HI.out.r2 (by omega)).set_other _ _ (hne (by omega)), ?_, _, g3.set 0 _, ?_⟩
          · intro e he
            rcases List.mem_append.1 he with he | he
            · exact HI.out.good e he
            · simp at he; subst he; exact HC.out
          · have := HI.out.hz
            have := hBW2.size
            simp; omega
          · rw [List.map_append]
            exact hO2.set g3 (by decide) (by decide) 0
      clear hr1 hr2 hO1 hg1 hO2 hg2 hob g2 hbx hwa hW1
      gi_wp2
      refine wpIn_region_any (by kernel_rfl) ?_
      try (change wpAnyIn _ _ _ _ _ _ _ _ _ (World.drew _))
      refine wpAnyIn_ready (rs := [0, 1, 2]) (by kernel_rfl) (by simp) ?_
      refine AllReadyIn.cons rfl (fun K hK => ?_) ?_
      · go_simp
        refine hK _ _ ?_
        clear hK K
        refine wpAnyIn_ready (rs := [1, 2]) (by kernel_rfl) (by simp) ?_
        refine AllReadyIn.cons rfl (fun K hK => ?_) ?_
        · go_simp
          refine hK _ _ ?_
          clear hK K
          refine wpAnyIn_ready (rs := [2]) (by kernel_rfl) (by simp) ?_
          refine AllReadyIn.cons rfl (fun K hK => ?_) ?_
          · go_simp
            refine hK _ _ ?_
            clear hK K
            refine wpAnyIn_ready (rs := [3]) (by kernel_rfl) (by simp) ?_
            refine AllReadyIn.cons rfl (fun K hK => ?_) ?_
            · go_simp
              refine hK _ _ ?_
              clear hK K
              refine wpAnyIn_ready (rs := [4]) (by kernel_rfl) (by simp) ?_
              refine AllReadyIn.cons rfl (fun K hK => ?_) ?_
              · refine stepIn_append_eq rfl _ _ _ rfl _ _ rfl rfl HR1.out ?_
                refine hK _ _ ?_
                clear hK K
                refine wpAnyIn_ready (rs := [5]) (by kernel_rfl) (by simp) ?_
                refine AllReadyIn.cons rfl (fun K hK => ?_) ?_
                · go_simp
                  refine hK _ _ ?_
                  clear hK K
                  refine wpAnyIn_ready (rs := [6]) (by kernel_rfl) (by simp) ?_
                  refine AllReadyIn.cons rfl (fun K hK => ?_) ?_
                  · refine stepIn_append_eq rfl _ _ _ rfl _ _ rfl rfl HR2.out ?_
                    refine hK _ _ ?_
                    clear hK K
                    refine wpAnyIn_ready (rs := [7]) (by kernel_rfl) (by simp) ?_
                    refine AllReadyIn.cons rfl (fun K hK => ?_) ?_
                    · go_simp
                      refine hK _ _ ?_
                      clear hK K
                      refine wpAnyIn_done (by kernel_rfl) ?_ _
                      exact FIN.out { tmps := #[], defers := [] }
                    exact AllReadyIn.nil
                  exact AllReadyIn.nil
                exact AllReadyIn.nil
              exact AllReadyIn.nil
            exact AllReadyIn.nil
          exact AllReadyIn.nil
        refine AllReadyIn.cons rfl (fun K hK => ?_) ?_
        · go_simp
          refine hK _ _ ?_
          clear hK K
          refine wpAnyIn_ready (rs := [1, 3]) (by kernel_rfl) (by simp) ?_
          refine AllReadyIn.cons rfl (fun K hK => ?_) ?_
          · go_simp
            refine hK _ _ ?_
            clear hK K
            refine wpAnyIn_ready (rs := [3]) (by kernel_rfl) (by simp) ?_
            refine AllReadyIn.cons rfl (fun K hK => ?_) ?_
            · go_simp
              refine hK _ _ ?_
              clear hK K
              refine wpAnyIn_ready (rs := [4]) (by kernel_rfl) (by simp) ?_
              refine AllReadyIn.cons rfl (fun K hK => ?_) ?_
              · refine stepIn_append_eq rfl _ _ _ rfl _ _ rfl rfl HR1.out ?_
                refine hK _ _ ?_
                clear hK K
                refine wpAnyIn_ready (rs := [5]) (by kernel_rfl) (by simp) ?_
                refine AllReadyIn.cons rfl (fun K hK => ?_) ?_
                · go_simp
                  refine hK _ _ ?_
                  clear hK K
                  refine wpAnyIn_ready (rs := [6]) (by kernel_rfl) (by simp) ?_
                  refine AllReadyIn.cons rfl (fun K hK => ?_) ?_
                  · refine stepIn_append_eq rfl _ _ _ rfl _ _ rfl rfl HR2.out ?_
                    refine hK _ _ ?_
                    clear hK K
                    refine wpAnyIn_ready (rs := [7]) (by kernel_rfl) (by simp) ?_
                    refine AllReadyIn.cons rfl (fun K hK => ?_) ?_
                    · go_simp
                      refine hK _ _ ?_
                      clear hK K
                      refine wpAnyIn_done (by kernel_rfl) ?_ _
                      exact FIN.out { tmps := #[], defers := [] }
                    exact AllReadyIn.nil
                  exact AllReadyIn.nil
                exact AllReadyIn.nil
              exact AllReadyIn.nil
            exact AllReadyIn.nil
          refine AllReadyIn.cons rfl (fun K hK => ?_) ?_
          · go_simp
            refine hK _ _ ?_
            clear hK K
            refine wpAnyIn_ready (rs := [1]) (by kernel_rfl) (by simp) ?_
            refine AllReadyIn.cons rfl (fun K hK => ?_) ?_
            · go_simp
              refine hK _ _ ?_
              clear hK K
              refine wpAnyIn_ready (rs := [4]) (by kernel_rfl) (by simp) ?_
              refine AllReadyIn.cons rfl (fun K hK => ?_) ?_
              · refine stepIn_append_eq rfl _ _ _ rfl _ _ rfl rfl HR1.out ?_
                refine hK _ _ ?_
                clear hK K
                refine wpAnyIn_ready (rs := [5]) (by kernel_rfl) (by simp) ?_
                refine AllReadyIn.cons rfl (fun K hK => ?_) ?_
                · go_simp
                  refine hK _ _ ?_
                  clear hK K
                  refine wpAnyIn_ready (rs := [6]) (by kernel_rfl) (by simp) ?_
                  refine AllReadyIn.cons rfl (fun K hK => ?_) ?_
                  · refine stepIn_append_eq rfl _ _ _ rfl _ _ rfl rfl HR2.out ?_
                    refine hK _ _ ?_
                    clear hK K
                    refine wpAnyIn_ready (rs := [7]) (by kernel_rfl) (by simp) ?_
                    refine AllReadyIn.cons rfl (fun K hK => ?_) ?_
                    · go_simp
                      refine hK _ _ ?_
                      clear hK K
                      refine wpAnyIn_done (by kernel_rfl) ?_ _
                      exact FIN.out { tmps := #[], defers := [] }
                    exact AllReadyIn.nil
                  exact AllReadyIn.nil
                exact AllReadyIn.nil
              exact AllReadyIn.nil
            exact AllReadyIn.nil
          exact AllReadyIn.nil
        exact AllReadyIn.nil
      refine AllReadyIn.cons rfl (fun K hK => ?_) ?_
      · go_simp
        refine hK _ _ ?_
        clear hK K
        refine wpAnyIn_ready (rs := [0, 2]) (by kernel_rfl) (by simp) ?_
        refine AllReadyIn.cons rfl (fun K hK => ?_) ?_
        · go_simp
          refine hK _ _ ?_
          clear hK K
          refine wpAnyIn_ready (rs := [2]) (by kernel_rfl) (by simp) ?_
          refine AllReadyIn.cons rfl (fun K hK => ?_) ?_
          · go_simp
            refine hK _ _ ?_
            clear hK K
            refine wpAnyIn_ready (rs := [3]) (by kernel_rfl) (by simp) ?_
            refine AllReadyIn.cons rfl (fun K hK => ?_) ?_
            · go_simp
              refine hK _ _ ?_
              clear hK K
              refine wpAnyIn_ready (rs := [4]) (by kernel_rfl) (by simp) ?_
              refine AllReadyIn.cons rfl (fun K hK => ?_) ?_
              · refine stepIn_append_eq rfl _ _ _ rfl _ _ rfl rfl HR1.out ?_
                refine hK _ _ ?_
                clear hK K
                refine wpAnyIn_ready (rs := [5]) (by kernel_rfl) (by simp) ?_
                refine AllReadyIn.cons rfl (fun K hK => ?_) ?_
                · go_simp
                  refine hK _ _ ?_
                  clear hK K
                  refine wpAnyIn_ready (rs := [6]) (by kernel_rfl) (by simp) ?_
                  refine AllReadyIn.cons rfl (fun K hK => ?_) ?_
                  · refine stepIn_append_eq rfl _ _ _ rfl _ _ rfl rfl HR2.out ?_
                    refine hK _ _ ?_
                    clear hK K
                    refine wpAnyIn_ready (rs := [7]) (by kernel_rfl) (by simp) ?_
                    refine AllReadyIn.cons rfl (fun K hK => ?_) ?_
                    · go_simp
                      refine hK _ _ ?_
                      clear hK K
                      refine wpAnyIn_done (by kernel_rfl) ?_ _
                      exact FIN.out { tmps := #[], defers := [] }
                    exact AllReadyIn.nil
                  exact AllReadyIn.nil
                exact AllReadyIn.nil
              exact AllReadyIn.nil
            exact AllReadyIn.nil
          exact AllReadyIn.nil
        refine AllReadyIn.cons rfl (fun K hK => ?_) ?_
        · go_simp
          refine hK _ _ ?_
          clear hK K
          refine wpAnyIn_ready (rs := [0, 3]) (by kernel_rfl) (by simp) ?_
          refine AllReadyIn.cons rfl (fun K hK => ?_) ?_
          · go_simp
            refine hK _ _ ?_
            clear hK K
            refine wpAnyIn_ready (rs := [3]) (by kernel_rfl) (by simp) ?_
            refine AllReadyIn.cons rfl (fun K hK => ?_) ?_
            · go_simp
              refine hK _ _ ?_
              clear hK K
              refine wpAnyIn_ready (rs := [4]) (by kernel_rfl) (by simp) ?_
              refine AllReadyIn.cons rfl (fun K hK => ?_) ?_
              · refine stepIn_append_eq rfl _ _ _ rfl _ _ rfl rfl HR1.out ?_
                refine hK _ _ ?_
                clear hK K
                refine wpAnyIn_ready (rs := [5]) (by kernel_rfl) (by simp) ?_
                refine AllReadyIn.cons rfl (fun K hK => ?_) ?_
                · go_simp
                  refine hK _ _ ?_
                  clear hK K
                  refine wpAnyIn_ready (rs := [6]) (by kernel_rfl) (by simp) ?_
                  refine AllReadyIn.cons rfl (fun K hK => ?_) ?_
                  · refine stepIn_append_eq rfl _ _ _ rfl _ _ rfl rfl HR2.out ?_
                    refine hK _ _ ?_
                    clear hK K
                    refine wpAnyIn_ready (rs := [7]) (by kernel_rfl) (by simp) ?_
                    refine AllReadyIn.cons rfl (fun K hK => ?_) ?_
                    · go_simp
                      refine hK _ _ ?_
                      clear hK K
                      refine wpAnyIn_done (by kernel_rfl) ?_ _
                      exact FIN.out { tmps := #[], defers := [] }
                    exact AllReadyIn.nil
                  exact AllReadyIn.nil
                exact AllReadyIn.nil
              exact AllReadyIn.nil
            exact AllReadyIn.nil
          refine AllReadyIn.cons rfl (fun K hK => ?_) ?_
          · go_simp
            refine hK _ _ ?_
            clear hK K
            refine wpAnyIn_ready (rs := [0, 4]) (by kernel_rfl) (by simp) ?_
            refine AllReadyIn.cons rfl (fun K hK => ?_) ?_
            · go_simp
              refine hK _ _ ?_
              clear hK K
              refine wpAnyIn_ready (rs := [4]) (by kernel_rfl) (by simp) ?_
              refine AllReadyIn.cons rfl (fun K hK => ?_) ?_
              · refine stepIn_append_eq rfl _ _ _ rfl _ _ rfl rfl HR1.out ?_
                refine hK _ _ ?_
                clear hK K
                refine wpAnyIn_ready (rs := [5]) (by kernel_rfl) (by simp) ?_
                refine AllReadyIn.cons rfl (fun K hK => ?_) ?_
                · go_simp
                  refine hK _ _ ?_
                  clear hK K
                  refine wpAnyIn_ready (rs := [6]) (by kernel_rfl) (by simp) ?_
                  refine AllReadyIn.cons rfl (fun K hK => ?_) ?_
                  · refine stepIn_append_eq rfl _ _ _ rfl _ _ rfl rfl HR2.out ?_
                    refine hK _ _ ?_
                    clear hK K
                    refine wpAnyIn_ready (rs := [7]) (by kernel_rfl) (by simp) ?_
                    refine AllReadyIn.cons rfl (fun K hK => ?_) ?_
                    · go_simp
                      refine hK _ _ ?_
                      clear hK K
                      refine wpAnyIn_done (by kernel_rfl) ?_ _
                      exact FIN.out { tmps := #[], defers := [] }
                    exact AllReadyIn.nil
                  exact AllReadyIn.nil
                exact AllReadyIn.nil
              exact AllReadyIn.nil
            refine AllReadyIn.cons rfl (fun K hK => ?_) ?_
            · refine stepIn_append_eq rfl _ _ _ rfl _ _ rfl rfl HR1.out ?_
              refine hK _ _ ?_
              clear hK K
              refine wpAnyIn_ready (rs := [0, 5]) (by kernel_rfl) (by simp) ?_
              refine AllReadyIn.cons rfl (fun K hK => ?_) ?_
              · go_simp
                refine hK _ _ ?_
                clear hK K
                refine wpAnyIn_ready (rs := [5]) (by kernel_rfl) (by simp) ?_
                refine AllReadyIn.cons rfl (fun K hK => ?_) ?_
                · go_simp
                  refine hK _ _ ?_
                  clear hK K
                  refine wpAnyIn_ready (rs := [6]) (by kernel_rfl) (by simp) ?_
                  refine AllReadyIn.cons rfl (fun K hK => ?_) ?_
                  · refine stepIn_append_eq rfl _ _ _ rfl _ _ rfl rfl HR2.out ?_
                    refine hK _ _ ?_
                    clear hK K
                    refine wpAnyIn_ready (rs := [7]) (by kernel_rfl) (by simp) ?_
                    refine AllReadyIn.cons rfl (fun K hK => ?_) ?_
                    · go_simp
                      refine hK _ _ ?_
                      clear hK K
                      refine wpAnyIn_done (by kernel_rfl) ?_ _
                      exact FIN.out { tmps := #[], defers := [] }
                    exact AllReadyIn.nil
                  exact AllReadyIn.nil
                exact AllReadyIn.nil
              refine AllReadyIn.cons rfl (fun K hK => ?_) ?_
              · go_simp
                refine hK _ _ ?_
                clear hK K
                refine wpAnyIn_ready (rs := [0]) (by kernel_rfl) (by simp) ?_
                refine AllReadyIn.cons rfl (fun K hK => ?_) ?_
                · go_simp
                  refine hK _ _ ?_
                  clear hK K
                  refine wpAnyIn_ready (rs := [6]) (by kernel_rfl) (by simp) ?_
                  refine AllReadyIn.cons rfl (fun K hK => ?_) ?_
                  · refine stepIn_append_eq rfl _ _ _ rfl _ _ rfl rfl HR2.out ?_
                    refine hK _ _ ?_
                    clear hK K
                    refine wpAnyIn_ready (rs := [7]) (by kernel_rfl) (by simp) ?_
                    refine AllReadyIn.cons rfl (fun K hK => ?_) ?_
                    · go_simp
                      refine hK _ _ ?_
                      clear hK K
                      refine wpAnyIn_done (by kernel_rfl) ?_ _
                      exact FIN.out { tmps := #[], defers := [] }
                    exact AllReadyIn.nil
                  exact AllReadyIn.nil
                exact AllReadyIn.nil
              exact AllReadyIn.nil
            exact AllReadyIn.nil
          exact AllReadyIn.nil
        exact AllReadyIn.nil
      refine AllReadyIn.cons rfl (fun K hK => ?_) ?_
      · go_simp
        refine hK _ _ ?_
        clear hK K
        refine wpAnyIn_ready (rs := [0, 1, 3]) (by kernel_rfl) (by simp) ?_
        refine AllReadyIn.cons rfl (fun K hK => ?_) ?_
        · go_simp
          refine hK _ _ ?_
          clear hK K
          refine wpAnyIn_ready (rs := [1, 3]) (by kernel_rfl) (by simp) ?_
          refine AllReadyIn.cons rfl (fun K hK => ?_) ?_
          · go_simp
            refine hK _ _ ?_
            clear hK K
            refine wpAnyIn_ready (rs := [3]) (by kernel_rfl) (by simp) ?_
            refine AllReadyIn.cons rfl (fun K hK => ?_) ?_
            · go_simp
              refine hK _ _ ?_
              clear hK K
              refine wpAnyIn_ready (rs := [4]) (by kernel_rfl) (by simp) ?_
              refine AllReadyIn.cons rfl (fun K hK => ?_) ?_
              · refine stepIn_append_eq rfl _ _ _ rfl _ _ rfl rfl HR1.out ?_
                refine hK _ _ ?_
                clear hK K
                refine wpAnyIn_ready (rs := [5]) (by kernel_rfl) (by simp) ?_
                refine AllReadyIn.cons rfl (fun K hK => ?_) ?_
                · go_simp
                  refine hK _ _ ?_
                  clear hK K
                  refine wpAnyIn_ready (rs := [6]) (by kernel_rfl) (by simp) ?_
                  refine AllReadyIn.cons rfl (fun K hK => ?_) ?_
                  · refine stepIn_append_eq rfl _ _ _ rfl _ _ rfl rfl HR2.out ?_
                    refine hK _ _ ?_
                    clear hK K
                    refine wpAnyIn_ready (rs := [7]) (by kernel_rfl) (by simp) ?_
                    refine AllReadyIn.cons rfl (fun K hK => ?_) ?_
                    · go_simp
                      refine hK _ _ ?_
                      clear hK K
                      refine wpAnyIn_done (by kernel_rfl) ?_ _
                      exact FIN.out { tmps := #[], defers := [] }
                    exact AllReadyIn.nil
                  exact AllReadyIn.nil
                exact AllReadyIn.nil
              exact AllReadyIn.nil
            exact AllReadyIn.nil
          refine AllReadyIn.cons rfl (fun K hK => ?_) ?_
          · go_simp
            refine hK _ _ ?_
            clear hK K
            refine wpAnyIn_ready (rs := [1]) (by kernel_rfl) (by simp) ?_
            refine AllReadyIn.cons rfl (fun K hK => ?_) ?_
            · go_simp
              refine hK _ _ ?_
              clear hK K
              refine wpAnyIn_ready (rs := [4]) (by kernel_rfl) (by simp) ?_
              refine AllReadyIn.cons rfl (fun K hK => ?_) ?_
              · refine stepIn_append_eq rfl _ _ _ rfl _ _ rfl rfl HR1.out ?_
                refine hK _ _ ?_
                clear hK K
                refine wpAnyIn_ready (rs := [5]) (by kernel_rfl) (by simp) ?_
                refine AllReadyIn.cons rfl (fun K hK => ?_) ?_
                · go_simp
                  refine hK _ _ ?_
                  clear hK K
                  refine wpAnyIn_ready (rs := [6]) (by kernel_rfl) (by simp) ?_
                  refine AllReadyIn.cons rfl (fun K hK => ?_) ?_
                  · refine stepIn_append_eq rfl _ _ _ rfl _ _ rfl rfl HR2.out ?_
                    refine hK _ _ ?_
                    clear hK K
                    refine wpAnyIn_ready (rs := [7]) (by kernel_rfl) (by simp) ?_
                    refine AllReadyIn.cons rfl (fun K hK => ?_) ?_
                    · go_simp
                      refine hK _ _ ?_
                      clear hK K
                      refine wpAnyIn_done (by kernel_rfl) ?_ _
                      exact FIN.out { tmps := #[], defers := [] }
                    exact AllReadyIn.nil
                  exact AllReadyIn.nil
                exact AllReadyIn.nil
              exact AllReadyIn.nil
            exact AllReadyIn.nil
          exact AllReadyIn.nil
        refine AllReadyIn.cons rfl (fun K hK => ?_) ?_
        · go_simp
          refine hK _ _ ?_
          clear hK K
          refine wpAnyIn_ready (rs := [0, 3]) (by kernel_rfl) (by simp) ?_
          refine AllReadyIn.cons rfl (fun K hK => ?_) ?_
          · go_simp
            refine hK _ _ ?_
            clear hK K
            refine wpAnyIn_ready (rs := [3]) (by kernel_rfl) (by simp) ?_
            refine AllReadyIn.cons rfl (fun K hK => ?_) ?_
            · go_simp
              refine hK _ _ ?_
              clear hK K
              refine wpAnyIn_ready (rs := [4]) (by kernel_rfl) (by simp) ?_
              refine AllReadyIn.cons rfl (fun K hK => ?_) ?_
              · refine stepIn_append_eq rfl _ _ _ rfl _ _ rfl rfl HR1.out ?_
                refine hK _ _ ?_
                clear hK K
                refine wpAnyIn_ready (rs := [5]) (by kernel_rfl) (by simp) ?_
                refine AllReadyIn.cons rfl (fun K hK => ?_) ?_
                · go_simp
                  refine hK _ _ ?_
                  clear hK K
                  refine wpAnyIn_ready (rs := [6]) (by kernel_rfl) (by simp) ?_
                  refine AllReadyIn.cons rfl (fun K hK => ?_) ?_
                  · refine stepIn_append_eq rfl _ _ _ rfl _ _ rfl rfl HR2.out ?_
                    refine hK _ _ ?_
                    clear hK K
                    refine wpAnyIn_ready (rs := [7]) (by kernel_rfl) (by simp) ?_
                    refine AllReadyIn.cons rfl (fun K hK => ?_) ?_
                    · go_simp
                      refine hK _ _ ?_
                      clear hK K
                      refine wpAnyIn_done (by kernel_rfl) ?_ _
                      exact FIN.out { tmps := #[], defers := [] }
                    exact AllReadyIn.nil
                  exact AllReadyIn.nil
                exact AllReadyIn.nil
              exact AllReadyIn.nil
            exact AllReadyIn.nil
          refine AllReadyIn.cons rfl (fun K hK => ?_) ?_
          · go_simp
            refine hK _ _ ?_
            clear hK K
            refine wpAnyIn_ready (rs := [0, 4]) (by kernel_rfl) (by simp) ?_
            refine AllReadyIn.cons rfl (fun K hK => ?_) ?_
            · go_simp
              refine hK _ _ ?_
              clear hK K
              refine wpAnyIn_ready (rs := [4]) (by kernel_rfl) (by simp) ?_
              refine AllReadyIn.cons rfl (fun K hK => ?_) ?_
              · refine stepIn_append_eq rfl _ _ _ rfl _ _ rfl rfl HR1.out ?_
                refine hK _ _ ?_
                clear hK K
                refine wpAnyIn_ready (rs := [5]) (by kernel_rfl) (by simp) ?_
                refine AllReadyIn.cons rfl (fun K hK => ?_) ?_
                · go_simp
                  refine hK _ _ ?_
                  clear hK K
                  refine wpAnyIn_ready (rs := [6]) (by kernel_rfl) (by simp) ?_
                  refine AllReadyIn.cons rfl (fun K hK => ?_) ?_
                  · refine stepIn_append_eq rfl _ _ _ rfl _ _ rfl rfl HR2.out ?_
                    refine hK _ _ ?_
                    clear hK K
                    refine wpAnyIn_ready (rs := [7]) (by kernel_rfl) (by simp) ?_
                    refine AllReadyIn.cons rfl (fun K hK => ?_) ?_
                    · go_simp
                      refine hK _ _ ?_
                      clear hK K
                      refine wpAnyIn_done (by kernel_rfl) ?_ _
                      exact FIN.out { tmps := #[], defers := [] }
                    exact AllReadyIn.nil
                  exact AllReadyIn.nil
                exact AllReadyIn.nil
              exact AllReadyIn.nil
            refine AllReadyIn.cons rfl (fun K hK => ?_) ?_
            · refine stepIn_append_eq rfl _ _ _ rfl _ _ rfl rfl HR1.out ?_
              refine hK _ _ ?_
              clear hK K
              refine wpAnyIn_ready (rs := [0, 5]) (by kernel_rfl) (by simp) ?_
              refine AllReadyIn.cons rfl (fun K hK => ?_) ?_
              · go_simp
                refine hK _ _ ?_
                clear hK K
                refine wpAnyIn_ready (rs := [5]) (by kernel_rfl) (by simp) ?_
                refine AllReadyIn.cons rfl (fun K hK => ?_) ?_
                · go_simp
                  refine hK _ _ ?_
                  clear hK K
                  refine wpAnyIn_ready (rs := [6]) (by kernel_rfl) (by simp) ?_
                  refine AllReadyIn.cons rfl (fun K hK => ?_) ?_
                  · refine stepIn_append_eq rfl _ _ _ rfl _ _ rfl rfl HR2.out ?_
                    refine hK _ _ ?_
                    clear hK K
                    refine wpAnyIn_ready (rs := [7]) (by kernel_rfl) (by simp) ?_
                    refine AllReadyIn.cons rfl (fun K hK => ?_) ?_
                    · go_simp
                      refine hK _ _ ?_
                      clear hK K
                      refine wpAnyIn_done (by kernel_rfl) ?_ _
                      exact FIN.out { tmps := #[], defers := [] }
                    exact AllReadyIn.nil
                  exact AllReadyIn.nil
                exact AllReadyIn.nil
              refine AllReadyIn.cons rfl (fun K hK => ?_) ?_
              · go_simp
                refine hK _ _ ?_
                clear hK K
                refine wpAnyIn_ready (rs := [0]) (by kernel_rfl) (by simp) ?_
                refine AllReadyIn.cons rfl (fun K hK => ?_) ?_
                · go_simp
                  refine hK _ _ ?_
                  clear hK K
                  refine wpAnyIn_ready (rs := [6]) (by kernel_rfl) (by simp) ?_
                  refine AllReadyIn.cons rfl (fun K hK => ?_) ?_
                  · refine stepIn_append_eq rfl _ _ _ rfl _ _ rfl rfl HR2.out ?_
                    refine hK _ _ ?_
                    clear hK K
                    refine wpAnyIn_ready (rs := [7]) (by kernel_rfl) (by simp) ?_
                    refine AllReadyIn.cons rfl (fun K hK => ?_) ?_
                    · go_simp
                      refine hK _ _ ?_
                      clear hK K
                      refine wpAnyIn_done (by kernel_rfl) ?_ _
                      exact FIN.out { tmps := #[], defers := [] }
                    exact AllReadyIn.nil
                  exact AllReadyIn.nil
                exact AllReadyIn.nil
              exact AllReadyIn.nil
            exact AllReadyIn.nil
          exact AllReadyIn.nil
        refine AllReadyIn.cons rfl (fun K hK => ?_) ?_
        · go_simp
          refine hK _ _ ?_
          clear hK K
          refine wpAnyIn_ready (rs := [0, 1]) (by kernel_rfl) (by simp) ?_
          refine AllReadyIn.cons rfl (fun K hK => ?_) ?_
          · go_simp
            refine hK _ _ ?_
            clear hK K
            refine wpAnyIn_ready (rs := [1]) (by kernel_rfl) (by simp) ?_
            refine AllReadyIn.cons rfl (fun K hK => ?_) ?_
            · go_simp
              refine hK _ _ ?_
              clear hK K
              refine wpAnyIn_ready (rs := [4]) (by kernel_rfl) (by simp) ?_
              refine AllReadyIn.cons rfl (fun K hK => ?_) ?_
              · refine stepIn_append_eq rfl _ _ _ rfl _ _ rfl rfl HR1.out ?_
                refine hK _ _ ?_
                clear hK K
                refine wpAnyIn_ready (rs := [5]) (by kernel_rfl) (by simp) ?_
                refine AllReadyIn.cons rfl (fun K hK => ?_) ?_
                · go_simp
                  refine hK _ _ ?_
                  clear hK K
                  refine wpAnyIn_ready (rs := [6]) (by kernel_rfl) (by simp) ?_
                  refine AllReadyIn.cons rfl (fun K hK => ?_) ?_
                  · refine stepIn_append_eq rfl _ _ _ rfl _ _ rfl rfl HR2.out ?_
                    refine hK _ _ ?_
                    clear hK K
                    refine wpAnyIn_ready (rs := [7]) (by kernel_rfl) (by simp) ?_
                    refine AllReadyIn.cons rfl (fun K hK => ?_) ?_
                    · go_simp
                      refine hK _ _ ?_
                      clear hK K
                      refine wpAnyIn_done (by kernel_rfl) ?_ _
                      exact FIN.out { tmps := #[], defers := [] }
                    exact AllReadyIn.nil
                  exact AllReadyIn.nil
                exact AllReadyIn.nil
              exact AllReadyIn.nil
            exact AllReadyIn.nil
          refine AllReadyIn.cons rfl (fun K hK => ?_) ?_
          · go_simp
            refine hK _ _ ?_
            clear hK K
            refine wpAnyIn_ready (rs := [0, 4]) (by kernel_rfl) (by simp) ?_
            refine AllReadyIn.cons rfl (fun K hK => ?_) ?_
            · go_simp
              refine hK _ _ ?_
              clear hK K
              refine wpAnyIn_ready (rs := [4]) (by kernel_rfl) (by simp) ?_
              refine AllReadyIn.cons rfl (fun K hK => ?_) ?_
              · refine stepIn_append_eq rfl _ _ _ rfl _ _ rfl rfl HR1.out ?_
                refine hK _ _ ?_
                clear hK K
                refine wpAnyIn_ready (rs := [5]) (by kernel_rfl) (by simp) ?_
                refine AllReadyIn.cons rfl (fun K hK => ?_) ?_
                · go_simp
                  refine hK _ _ ?_
                  clear hK K
                  refine wpAnyIn_ready (rs := [6]) (by kernel_rfl) (by simp) ?_
                  refine AllReadyIn.cons rfl (fun K hK => ?_) ?_
                  · refine stepIn_append_eq rfl _ _ _ rfl _ _ rfl rfl HR2.out ?_
                    refine hK _ _ ?_
                    clear hK K
                    refine wpAnyIn_ready (rs := [7]) (by kernel_rfl) (by simp) ?_
                    refine AllReadyIn.cons rfl (fun K hK => ?_) ?_
                    · go_simp
                      refine hK _ _ ?_
                      clear hK K
                      refine wpAnyIn_done (by kernel_rfl) ?_ _
                      exact FIN.out { tmps := #[], defers := [] }
                    exact AllReadyIn.nil
                  exact AllReadyIn.nil
                exact AllReadyIn.nil
              exact AllReadyIn.nil
            refine AllReadyIn.cons rfl (fun K hK => ?_) ?_
            · refine stepIn_append_eq rfl _ _ _ rfl _ _ rfl rfl HR1.out ?_
              refine hK _ _ ?_
              clear hK K
              refine wpAnyIn_ready (rs := [0, 5]) (by kernel_rfl) (by simp) ?_
              refine AllReadyIn.cons rfl (fun K hK => ?_) ?_
              · go_simp
                refine hK _ _ ?_
                clear hK K
                refine wpAnyIn_ready (rs := [5]) (by kernel_rfl) (by simp) ?_
                refine AllReadyIn.cons rfl (fun K hK => ?_) ?_
                · go_simp
                  refine hK _ _ ?_
                  clear hK K
                  refine wpAnyIn_ready (rs := [6]) (by kernel_rfl) (by simp) ?_
                  refine AllReadyIn.cons rfl (fun K hK => ?_) ?_
                  · refine stepIn_append_eq rfl _ _ _ rfl _ _ rfl rfl HR2.out ?_
                    refine hK _ _ ?_
                    clear hK K
                    refine wpAnyIn_ready (rs := [7]) (by kernel_rfl) (by simp) ?_
                    refine AllReadyIn.cons rfl (fun K hK => ?_) ?_
                    · go_simp
                      refine hK _ _ ?_
                      clear hK K
                      refine wpAnyIn_done (by kernel_rfl) ?_ _
                      exact FIN.out { tmps := #[], defers := [] }
                    exact AllReadyIn.nil
                  exact AllReadyIn.nil
                exact AllReadyIn.nil
              refine AllReadyIn.cons rfl (fun K hK => ?_) ?_
              · go_simp
                refine hK _ _ ?_
                clear hK K
                refine wpAnyIn_ready (rs := [0]) (by kernel_rfl) (by simp) ?_
                refine AllReadyIn.cons rfl (fun K hK => ?_) ?_
                · go_simp
                  refine hK _ _ ?_
                  clear hK K
                  refine wpAnyIn_ready (rs := [6]) (by kernel_rfl) (by simp) ?_
                  refine AllReadyIn.cons rfl (fun K hK => ?_) ?_
                  · refine stepIn_append_eq rfl _ _ _ rfl _ _ rfl rfl HR2.out ?_
                    refine hK _ _ ?_
                    clear hK K
                    refine wpAnyIn_ready (rs := [7]) (by kernel_rfl) (by simp) ?_
                    refine AllReadyIn.cons rfl (fun K hK => ?_) ?_
                    · go_simp
                      refine hK _ _ ?_
                      clear hK K
                      refine wpAnyIn_done (by kernel_rfl) ?_ _
                      exact FIN.out { tmps := #[], defers := [] }
                    exact AllReadyIn.nil
                  exact AllReadyIn.nil
                exact AllReadyIn.nil
              exact AllReadyIn.nil
            exact AllReadyIn.nil
          exact AllReadyIn.nil
        exact AllReadyIn.nil
      exact AllReadyIn.nil
    · have e1 : ((x.c : Int) != 0) = true := by simp; omega
      have HC := hid hc
      clear hc
      gi_wp2
      have HX : Hid (SplitX w x (((W.setCell ⟨w.heap.size, 0, none⟩ (.slice none 0 0)).setCell ⟨w.heap.size + 1, 0, none⟩ (.int .i64 x.at')).setCell ⟨w.heap.size + 1 + 1, 0, none⟩ (.int .u8 x.c)).drew) := by
        have s0 := HI.out.r0.set 0 (.slice none 0 0)
        have s1 := HI.out.r1.set_other ⟨w.heap.size, 0, none⟩ (.slice none 0 0) (by simp)
        have s2 := HI.out.r2.set_other ⟨w.heap.size, 0, none⟩ (.slice none 0 0) (by show w.heap.size + 1 + 1 ≠ w.heap.size; omega)
        have t0 := s0.set_other ⟨w.heap.size + 1, 0, none⟩ (.int .i64 x.at') (by simp)
        have t1 := s1.set 0 (.int .i64 x.at')
        have t2 := s2.set_other ⟨w.heap.size + 1, 0, none⟩ (.int .i64 x.at') (by simp)
        have u0 := t0.set_other ⟨w.heap.size + 1 + 1, 0, none⟩ (.int .u8 x.c) (by show w.heap.size ≠ w.heap.size + 1 + 1; omega)
        have u1 := t1.set_other ⟨w.heap.size + 1 + 1, 0, none⟩ (.int .u8 x.c) (by simp)
        have u2 := t2.set 0 (.int .u8 x.c)
        exact ⟨HC.out, (((HI.out.B.setCell (Nat.le_refl _) _).setCell (by simp) _).setCell (by simp; omega) _).drew, u0, u1, u2⟩
      have HKF : Hid (KeepsFrom W0.heap.size W (((W.setCell ⟨w.heap.size, 0, none⟩ (.slice none 0 0)).setCell ⟨w.heap.size + 1, 0, none⟩ (.int .i64 x.at')).setCell ⟨w.heap.size + 1 + 1, 0, none⟩ (.int .u8 x.c)).drew) :=
        ((((KeepsOthers.setCell _ _ _).trans (KeepsOthers.setCell _ _ _)).trans (KeepsOthers.setCell _ _ _)).trans (KeepsOthers.drew _)).from _
      gi_region
      all_goals gi_wp2
      all_goals exact ⟨HKF.out, rfl, pre, x, rfl, HI.out.good, HX.out⟩
  case done =>
    rintro D xs W hD rfl hI hK
    obtain ⟨lv, g1, g2⟩ := hI.rows
    obtain ⟨la, lc, e2⟩ := g2.form
    obtain ⟨m2, HM2⟩ : ∃ m2, Hid (m2 = ((evs l 0 0).map (Ev.load l)).length) := ⟨_, rfl⟩
    rw [← HM2.out] at e2
    subst e2
    have HI := hid hI
    have HK := hid hK
    have HG := hid (And.intro g1 g2)
    have r3 := g1.cell 0 _ rfl
    have r0 := hI.r0.cell 0 _ rfl
    have r1 := hI.r1.cell 0 _ rfl
    have r2 := hI.r2.cell 0 _ rfl
    have z0 := hI.r0.free
    have z1 := hI.r1.free
    have z2 := hI.r2.free
    clear g1 g2 hI hK
    gi_wp2
    have s0 := HI.out.r0.set 0 (.slice la m2 lc)
    have s1 := HI.out.r1.set_other ⟨w.heap.size, 0, none⟩ (.slice la m2 lc) (by simp)
    have s2 := HI.out.r2.set_other ⟨w.heap.size, 0, none⟩ (.slice la m2 lc) (by show w.heap.size + 1 + 1 ≠ w.heap.size; omega)
    have d0 := deferred_set HK.out HI.out.r0 0 (.slice la m2 lc)
    have t0 := s0.set_other ⟨w.heap.size + 1, 0, none⟩ (.int .i64 0) (by simp)
    have t1 := s1.set 0 (.int .i64 0)
    have t2 := s2.set_other ⟨w.heap.size + 1, 0, none⟩ (.int .i64 0) (by simp)
    have d1 := deferred_set d0 s1 0 (.int .i64 0)
    have u0 := t0.set_other ⟨w.heap.size + 1 + 1, 0, none⟩ (.int .u8 0) (by show w.heap.size ≠ w.heap.size + 1 + 1; omega)
    have u1 := t1.set_other ⟨w.heap.size + 1 + 1, 0, none⟩ (.int .u8 0) (by simp)
    have u2 := t2.set 0 (.int .u8 0)
    have d2 := deferred_set d1 t2 0 (.int .u8 0)
    have hb := ((HI.out.B.setCell (p := ⟨w.heap.size, 0, none⟩) (Nat.le_refl _) (.slice la m2 lc)).setCell (p := ⟨w.heap.size + 1, 0, none⟩) (by simp) (.int .i64 0)).setCell (p := ⟨w.heap.size + 1 + 1, 0, none⟩) (by simp; omega) (.int .u8 0)
    obtain ⟨q0, q1, q2, q3, q4⟩ := three_results0 u0 u1 u2 d2 (by omega) hb
    refine ⟨by simp, .inl ⟨_, _, rfl, run_takeDeferred (P := Try.prog) d2, ?_⟩⟩
    refine ⟨_, by simp [results, Try.f10, go_sem, q0, q1, q2]; rfl, q3, .inl ⟨bad_none HI.out.good, _, rfl, ?_⟩⟩
    have h9 := HG.out.2.mono (b' := w.heap.size) (by omega)
    have h10 := ((h9.set (x := .slice la m2 lc) HI.out.r0 (by decide) (by decide) 0).set (x := .int .i64 0) s1 (by decide) (by decide) 0).set (x := .int .u8 0) t2 (by decide) (by decide) 0
    exact h10.keep fun b cur e _ he _ => q4 b cur e he
  case stop =>
    rintro D c pre W hD hS ⟨rfl, pre', x, rfl, hpre, hX⟩ hK
    have HX := hid hX
    have HK := hid hK
    clear hX hK
    gi_wp2
    obtain ⟨q0, q1, q2, q3, q4⟩ := three_results0 HX.out.r0 HX.out.r1 HX.out.r2 HK.out (by omega) HX.out.B
    refine ⟨by simp, .inl ⟨_, _, rfl, run_takeDeferred (P := Try.prog) HK.out, ?_⟩⟩
    exact ⟨_, by simp [results, Try.f10, go_sem, q0, q1, q2], q3, .inr ⟨x, bad_some hS hpre HX.out.bad, rfl⟩⟩

end Go.Proofs.Ytgephhmkaonahaa
