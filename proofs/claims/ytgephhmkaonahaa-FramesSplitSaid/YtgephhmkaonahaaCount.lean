/- What run.Count returns: runCount's. Range over a function, by hand over the laws (L1), (L2). No condition.. -/
import Derived.Test.YtgephhmkaonahaaValues
import Derived.RangeFuncFrom
import Derived.WalkKit
import Derived.OwnWalkIn
import Derived.TacticsInMore
import Derived.RegionIn
import Derived.LoopNIn
import Derived.LoopIn
import Derived.Shelf.Abstract
namespace Go.Proofs.Ytgephhmkaonahaa
open Go.RowKit Go.Shelf
attribute [local go_sem] Oper.semAt_some

/-- the record's code by names -/
theorem rf_named {F : Fence} {n : Nat} {P : Program} {g : Operand} {ps : Array Tmp} {assign body : Code} {Q : Exit → Act → World → Prop} {a : Act} {w : World}
    (h : ∀ ac bd, Hid (ac = assign) → Hid (bd = body) → (Code.rangeFunc g ps ac bd).wpIn F n P Q a w) : (Code.rangeFunc g ps assign body).wpIn F n P Q a w :=
  h _ _ rfl rfl

def cRec (fn : FuncId) (H : Nat) (k : Int) (a : Option Addr) (ln cap : Nat) (ac bd : Code) (st : LoopState) (pend : Option Code) : Loop :=
  { state := st, pending := pend, fn, tmps := #[.int .i64 k, .slice a ln cap, undef, undef, .pointer (some ⟨H, 0, none⟩), .pointer (some ⟨H + 1, 0, none⟩), .pointer (some ⟨H + 1 + 1, 0, none⟩), undef, .int .i64 k, .slice a ln cap,
      .func (.func 203) #[] #[.pointer (some ⟨H + 1 + 1 + 1, 0, none⟩), .pointer (some ⟨H + 1 + 1 + 1 + 1, 0, none⟩)], undef, undef, undef, undef, undef, undef, undef, undef, undef],
    params := #[11], assign := ac, body := bd, defers := H + 1 + 1 + 1 + 1 + 1 }

/-- The boxes of a count under way: results, n, k, b (from block H on), the block of deferred calls, the loop's record. -/
structure CA (w : World) (k : Int) (rec : Loop) (cnt code : Nat) (bv : Value) (W : World) : Prop where
  r0 : Blk W w.heap.size [.int .i64 0] 3
  r1 : Blk W (w.heap.size + 1) [.int .u8 code] 28
  nb : Blk W (w.heap.size + 1 + 1) [.int .i64 cnt] 3
  kb : Blk W (w.heap.size + 1 + 1 + 1) [.int .i64 k] 3
  bb : Blk W (w.heap.size + 1 + 1 + 1 + 1) [bv] 22
  D : W.heap[w.heap.size + 1 + 1 + 1 + 1 + 1]? = some (.deferred (some []))
  L : W.heap[w.heap.size + 1 + 1 + 1 + 1 + 1 + 1]? = some (.loop rec)
  B : Below w.heap.size w W

theorem CA.below {w : World} {k : Int} {rec : Loop} {cnt code : Nat} {bv : Value} {W W' : World} (h : CA w k rec cnt code bv W) (hb : Below W.heap.size W W') : CA w k rec cnt code bv W' :=
  ⟨h.r0.below hb, h.r1.below hb, h.nb.below hb, h.kb.below hb, h.bb.below hb, (hb.block _ (Array.getElem?_eq_some_iff.1 h.D).1).trans h.D, (hb.block _ (Array.getElem?_eq_some_iff.1 h.L).1).trans h.L, h.B.trans (hb.mono h.B.size)⟩
theorem CA.put {w : World} {k : Int} {rec : Loop} {cnt code : Nat} {bv : Value} {W : World} (h : CA w k rec cnt code bv W) (rec' : Loop) :
    CA w k rec' cnt code bv (W.putObj (w.heap.size + 1 + 1 + 1 + 1 + 1 + 1) (.loop rec')) :=
  ⟨h.r0.put _ (by omega), h.r1.put _ (by omega), h.nb.put _ (by omega), h.kb.put _ (by omega), h.bb.put _ (by omega), (World.putObj_heap_other (by omega)).trans h.D,
    World.putObj_heap_same (Array.getElem?_eq_some_iff.1 h.L).1, belowK_b (Nat.le_refl _) W _ _ _ (by omega) h.L rfl rfl |> fun hb => h.B.trans hb⟩
theorem CA.alloc {w : World} {k : Int} {rec : Loop} {cnt code : Nat} {bv : Value} {W : World} (h : CA w k rec cnt code bv W) (o : Obj) : CA w k rec cnt code bv (W.alloc o) :=
  ⟨h.r0.alloc _, h.r1.alloc _, h.nb.alloc _, h.kb.alloc _, h.bb.alloc _, (Below.heap_alloc W o _ (Array.getElem?_eq_some_iff.1 h.D).1).trans h.D, (Below.heap_alloc W o _ (Array.getElem?_eq_some_iff.1 h.L).1).trans h.L, h.B.alloc h.B.size _⟩
theorem CA.drew {w : World} {k : Int} {rec : Loop} {cnt code : Nat} {bv : Value} {W : World} (h : CA w k rec cnt code bv W) : CA w k rec cnt code bv W.drew :=
  ⟨h.r0, h.r1, h.nb, h.kb, h.bb, h.D, h.L, h.B.drew⟩
theorem CA.setN {w : World} {k : Int} {rec : Loop} {cnt code : Nat} {bv : Value} {W : World} (h : CA w k rec cnt code bv W) (c : Nat) : CA w k rec c code bv (W.setCell ⟨w.heap.size + 1 + 1, 0, none⟩ (.int .i64 c)) :=
  ⟨h.r0.set_other _ _ (by first | (simp; done) | (simp; omega)), h.r1.set_other _ _ (by simp), by simpa using h.nb.set 0 (.int .i64 c), h.kb.set_other _ _ (by simp), h.bb.set_other _ _ (by first | (simp; done) | (simp; omega)), (Below.heap_setCell W _ _ _ (by first | (simp; done) | (simp; omega))).trans h.D, (Below.heap_setCell W _ _ _ (by first | (simp; done) | (simp; omega))).trans h.L, h.B.setCell (by first | (simp; done) | (simp; omega)) _⟩
theorem CA.setB {w : World} {k : Int} {rec : Loop} {cnt code : Nat} {bv : Value} {W : World} (h : CA w k rec cnt code bv W) (c : Value) : CA w k rec cnt code c (W.setCell ⟨w.heap.size + 1 + 1 + 1 + 1, 0, none⟩ c) :=
  ⟨h.r0.set_other _ _ (by first | (simp; done) | (simp; omega)), h.r1.set_other _ _ (by first | (simp; done) | (simp; omega)), h.nb.set_other _ _ (by first | (simp; done) | (simp; omega)), h.kb.set_other _ _ (by simp), by simpa using h.bb.set 0 c, (Below.heap_setCell W _ _ _ (by simp)).trans h.D, (Below.heap_setCell W _ _ _ (by first | (simp; done) | (simp; omega))).trans h.L, h.B.setCell (by first | (simp; done) | (simp; omega)) _⟩
theorem CA.setR {w : World} {k : Int} {rec : Loop} {cnt code : Nat} {bv : Value} {W : World} (h : CA w k rec cnt code bv W) (c : Nat) : CA w k rec cnt c bv ((W.setCell ⟨w.heap.size, 0, none⟩ (.int .i64 0)).setCell ⟨w.heap.size + 1, 0, none⟩ (.int .u8 c)) :=
  ⟨(by simpa using h.r0.set 0 (.int .i64 0) : Blk (W.setCell ⟨w.heap.size, 0, none⟩ (.int .i64 0)) _ _ _).set_other _ _ (by simp), by simpa using (h.r1.set_other ⟨w.heap.size, 0, none⟩ (.int .i64 0) (by simp)).set 0 (.int .u8 c),
    (h.nb.set_other _ _ (by first | (simp; done) | (simp; omega))).set_other _ _ (by simp), (h.kb.set_other _ _ (by first | (simp; done) | (simp; omega))).set_other _ _ (by first | (simp; done) | (simp; omega)), (h.bb.set_other _ _ (by first | (simp; done) | (simp; omega))).set_other _ _ (by first | (simp; done) | (simp; omega)),
    (Below.heap_setCell _ _ _ _ (by first | (simp; done) | (simp; omega))).trans ((Below.heap_setCell W _ _ _ (by first | (simp; done) | (simp; omega))).trans h.D), (Below.heap_setCell _ _ _ _ (by first | (simp; done) | (simp; omega))).trans ((Below.heap_setCell W _ _ _ (by first | (simp; done) | (simp; omega))).trans h.L), (h.B.setCell (by simp) _).setCell (by simp) _⟩

set_option maxRecDepth 100000 in
set_option maxHeartbeats 4000000 in
theorem run_values {w : World} (n : Nat) (k : Int) (va : Option Addr) (vn vc : Nat) :
    CallsIn Fence.wide n Try.prog 190 #[.int .i64 k, .slice va vn vc] w fun e w' => e = .returned (.func (.func 203) #[] #[.pointer (some ⟨w.heap.size, 0, none⟩), .pointer (some ⟨w.heap.size + 1, 0, none⟩)]) ∧ w' = (w.alloc (.cells #[.int .i64 k] 3)).alloc (.cells #[.slice va vn vc] 22) := by
  refine callsIn_of_wp Try.func190 rfl trivial ?_ rfl
  simp only [Try.ntmps190, List.size_toArray, List.length_cons, List.length_nil, Nat.reduceAdd, Nat.reduceSub, Array.replicate_succ, Array.replicate_zero, List.push_toArray, List.append_toArray, List.nil_append, List.cons_append]
  gi_wp2
  go_ret
  exact ⟨rfl, rfl⟩

set_option maxRecDepth 100000 in
set_option maxHeartbeats 4000000 in
theorem run_Count {w : World} {v : Value} {l : List UInt8} (h : Bytes w v l) (k : Int) (hk : knumber k = true) :
    Calls Try.prog 174 #[.int .i64 k, v] w fun e w' => e = .returned (.tuple #[.int .i64 (runCount (kwire k) l).1, .int .u8 (runCount (kwire k) l).2]) ∧ Below w.heap.size w w' := by
  refine (callsIn_wide (n := 4)).1 ?_
  have hv := hid h
  obtain ⟨hlen, a, cap, rfl, -, -, -, hcell⟩ := h.open
  clear hcell
  obtain ⟨ln, HN⟩ : ∃ ln, Hid (ln = l.length) := ⟨_, rfl⟩
  rw [← HN.out] at hlen h ⊢
  refine callsIn_of_wp_marks Try.func174 rfl trivial ?_ rfl
  simp only [Try.ntmps174, List.size_toArray, List.length_cons, List.length_nil, Nat.reduceAdd, Nat.reduceSub, Array.replicate_succ, Array.replicate_zero, List.push_toArray, List.append_toArray, List.nil_append, List.cons_append]
  have hn1 : 1 ≤ 4 := by omega
  gi_wp2_with (refine ⟨trivial, ?_⟩; gi_at_call 190; refine (run_values 3 _ _ _ _).mono ?_; rintro e w' ⟨rfl, rfl⟩)
  refine rf_named ?_
  intro ac bd HAC HBD
  refine wpIn_rangeFunc ?_
  intro fn hfn
  obtain ⟨W0, HW0⟩ : ∃ W0, Hid (W0 = ((((w.alloc (.cells #[.int .i64 0] 3)).alloc (.cells #[.int .u8 0] 28)).alloc (.cells #[.int .i64 0] 3)).alloc (.cells #[.int .i64 k] 3)).alloc (.cells #[.slice a ln cap] 22)) := ⟨_, rfl⟩
  rw [← HW0.out]
  obtain ⟨W1, HW1⟩ : ∃ W1, Hid (W1 = (W0.alloc (.deferred (some []))).alloc (.loop (cRec fn w.heap.size k a ln cap ac bd .ready none))) := ⟨_, rfl⟩
  have hs0 : W0.heap.size = w.heap.size + 1 + 1 + 1 + 1 + 1 := by rw [HW0.out]; simp
  have hM : CA w k (cRec fn w.heap.size k a ln cap ac bd .ready none) 0 0 (.slice a ln cap) W1 := by
    have e0 := Blk.new w [.int .i64 0] 3
    have e1 := Blk.new (w.alloc (.cells #[.int .i64 0] 3)) [.int .u8 0] 28
    have e2 := Blk.new ((w.alloc (.cells #[.int .i64 0] 3)).alloc (.cells #[.int .u8 0] 28)) [.int .i64 0] 3
    have e3 := Blk.new (((w.alloc (.cells #[.int .i64 0] 3)).alloc (.cells #[.int .u8 0] 28)).alloc (.cells #[.int .i64 0] 3)) [.int .i64 k] 3
    have e4 := Blk.new ((((w.alloc (.cells #[.int .i64 0] 3)).alloc (.cells #[.int .u8 0] 28)).alloc (.cells #[.int .i64 0] 3)).alloc (.cells #[.int .i64 k] 3)) [.slice a ln cap] 22
    have e5 := heap_alloc_new W0 (.deferred (some []))
    have e6 := heap_alloc_new (W0.alloc (.deferred (some []))) (.loop (cRec fn w.heap.size k a ln cap ac bd .ready none))
    simp only [World.size_alloc] at e1 e2 e3 e4 e6
    rw [hs0] at e5 e6
    rw [HW1.out]
    refine ⟨?_, ?_, ?_, ?_, ?_, ?_, e6, ?_⟩
    · exact Blk.alloc (Blk.alloc (by rw [HW0.out]; exact (((e0.alloc _).alloc _).alloc _).alloc _) _) _
    · exact Blk.alloc (Blk.alloc (by rw [HW0.out]; exact ((e1.alloc _).alloc _).alloc _) _) _
    · exact Blk.alloc (Blk.alloc (by rw [HW0.out]; exact (e2.alloc _).alloc _) _) _
    · exact Blk.alloc (Blk.alloc (by rw [HW0.out]; exact e3.alloc _) _) _
    · exact Blk.alloc (Blk.alloc (by rw [HW0.out]; exact e4) _) _
    · exact (Below.heap_alloc _ _ _ (by simp; omega)).trans e5
    · have : Below w.heap.size w W0 := by
        rw [HW0.out]
        (repeat (first | with_reducible exact Below.refl _ _ | with_reducible refine Below.setCell ?_ (by first | omega | (simp; omega) | (simp; done)) _ | with_reducible refine Below.alloc ?_ (by first | omega | (simp; omega) | (simp; done)) _ | with_reducible refine below_drewN ?_ _ | with_reducible refine Below.drew ?_))
      exact (this.alloc (by omega) _).alloc (by simp; omega) _
  have hround : ∀ (cnt e : Nat) (bv : Value) (sa : Option Addr) (sn sc : Nat) (W : World), cnt ≤ 140737488355328 → CA w k (cRec fn w.heap.size k a ln cap ac bd .ready none) cnt 0 bv W →
      YieldAt Fence.wide (4 - 1 - 1) Try.prog (w.heap.size + 1 + 1 + 1 + 1 + 1 + 1) #[.agg #[.slice sa sn sc, .int .u8 e]] W fun e' W' =>
        (e = 0 ∧ e' = .returned (.bool true) ∧ CA w k (cRec fn w.heap.size k a ln cap ac bd .ready none) (cnt + 1) 0 bv W') ∨
        (e ≠ 0 ∧ e' = .returned (.bool false) ∧ CA w k (cRec fn w.heap.size k a ln cap ac bd .done (some .ret)) cnt e bv W') := by
    intro cnt e bv sa sn sc W hcnt hC
    refine ⟨fn, _, ac, bd, by simpa [cRec] using run_yield (P := Try.prog) (args := #[.agg #[.slice sa sn sc, .int .u8 e]]) hC.L rfl, roundIn_of_wpIn hfn ?_⟩
    have hlt := (Array.getElem?_eq_some_iff.1 hC.L).1
    obtain ⟨rr, HRR⟩ : ∃ rr, Hid (rr = cRec fn w.heap.size k a ln cap ac bd .ready none) := ⟨_, rfl⟩
    obtain ⟨rd, HRD⟩ : ∃ rd, Hid (rd = cRec fn w.heap.size k a ln cap ac bd .done (some .ret)) := ⟨_, rfl⟩
    rw [← HRR.out, ← HRD.out]
    rw [← HRR.out] at hC
    rw [HAC.out]
    gi_wp2
    have hC1 := hC.alloc (.cells #[.slice sa sn sc, .int .u8 e] 289)
    have hV1 := Blk.new W [.slice sa sn sc, .int .u8 e] 289
    refine ⟨_, run_beginRound hC1.L (by rw [HRR.out]; rfl), ?_⟩
    have hC2 := hC1.put { rr with state := .busy }
    have hV2 := hV1.put (.loop { rr with state := .busy }) (r := w.heap.size + 1 + 1 + 1 + 1 + 1 + 1) (by omega)
    obtain ⟨W2, HW2⟩ : ∃ W2, Hid (W2 = (W.alloc (.cells #[.slice sa sn sc, .int .u8 e] 289)).putObj (w.heap.size + 1 + 1 + 1 + 1 + 1 + 1) (.loop { rr with state := .busy })) := ⟨_, rfl⟩
    rw [← HW2.out] at hC2 hV2 ⊢
    rw [HBD.out]
    have v1 := hV2.cell 1 _ rfl
    have n0 := hC2.nb.cell 0 _ rfl
    have nz := hC2.nb.free
    have z0 := hC2.r0.free
    have z1 := hC2.r1.free
    have q0 := hC2.r0.cell 0 _ rfl
    have q1 := hC2.r1.cell 0 _ rfl
    by_cases he : e = 0
    · subst he
      gi_wp2
      have hC3 := hC2.setN (cnt + 1)
      have hC4 := hC3.put rr
      have hrd : ({ ({ rr with state := .busy } : Loop) with state := .ready, pending := none } : Loop) = rr := by rw [HRR.out]; rfl
      have hend := run_endRound (P := Try.prog) none hC3.L
      exact ⟨_, _, hend, rfl, by simpa [hrd] using hC4⟩
    · have e1 : ((e : Int) != 0) = true := by simp; omega
      have e2 : ((e : Int) == 0) = false := by simp; omega
      have HE := hid he
      clear he
      gi_wp2
      gi_region
      all_goals gi_wp2
      all_goals
        have hC3 : CA w k { rr with state := .busy } cnt e bv ((W2.setCell ⟨w.heap.size, 0, none⟩ (.int .i64 0)).setCell ⟨w.heap.size + 1, 0, none⟩ (.int .u8 e)).drew := (hC2.setR e).drew
        have hC4 := hC3.put rd
        have hrd : ({ ({ rr with state := .busy } : Loop) with state := .done, pending := some .ret } : Loop) = rd := by rw [HRR.out, HRD.out]; rfl
        exact ⟨_, _, run_endRound (P := Try.prog) (some .ret) hC3.L, .inr ⟨HE.out, rfl, by simpa [hrd] using hC4⟩⟩
  refine ⟨W0.heap.size + 1, [{ target := .collected W0.heap.size, args := #[] }], W1, { target := .fn (.func 203) #[.pointer (some ⟨w.heap.size + 1 + 1 + 1, 0, none⟩), .pointer (some ⟨w.heap.size + 1 + 1 + 1 + 1, 0, none⟩)], args := #[.func (.yield (W0.heap.size + 1)) #[] #[]] }, W1, 203,
    #[.func (.yield (W0.heap.size + 1)) #[] #[], .pointer (some ⟨w.heap.size + 1 + 1 + 1, 0, none⟩), .pointer (some ⟨w.heap.size + 1 + 1 + 1 + 1, 0, none⟩)], W1, ?_, ?_, ?_, ?_, fun _ => hn1, ?_⟩
  · rw [HW1.out, cRec, ← hs0]; exact run_enterLoop_outer _ _ _ _ _
  · simp [resolve, go_sem]
  · intro f' hf'; trivial
  · simp [invoke, go_sem]
  · refine CallsIn.mono (R := fun e W' => (∃ v, e = .returned v) ∧ (((runCount (kwire k) l).2 = 0 ∧ ∃ bv, CA w k (cRec fn w.heap.size k a ln cap ac bd .ready none) (rpieces (kwire k) l).length 0 bv W') ∨
        ∃ pre x e, RunStops (kwire k) l pre x e ∧ (e ≠ 0 ∧ ∃ bv, CA w k (cRec fn w.heap.size k a ln cap ac bd .done (some .ret)) pre.length e bv W'))) ?_ ?_
    · rw [hs0]
      refine run_values1 (4 - 1) (by omega) _ _ _ k hk h (fun pre bv W => CA w k (cRec fn w.heap.size k a ln cap ac bd .ready none) pre.length 0 bv W) (fun pre x e W => e ≠ 0 ∧ ∃ bv, CA w k (cRec fn w.heap.size k a ln cap ac bd .done (some .ret)) pre.length e bv W)
        (fun pre bv W hC => ⟨hC.kb.cell 0 _ rfl, hC.bb.cell 0 _ rfl, hC.bb.free 0, hC.B⟩) (fun pre bv W W' hC hb => hC.below hb) (fun pre bv bv' W hC => hC.setB bv') ?_ W1 hM
      intro pre bv W sa sn sc x e hpl hC hx
      have := hround pre.length e bv sa sn sc W (by have := HN.out; omega) hC
      obtain ⟨fn', tm, as', bo, hy, hR⟩ := this
      refine ⟨fn', tm, as', bo, hy, hR.mono ?_⟩
      rintro e' W' (⟨h1, h2, h3⟩ | ⟨h1, h2, h3⟩)
      · exact .inl ⟨h1, h2, by simpa using h3⟩
      · exact .inr (.inr ⟨h1, ⟨_, h2⟩, h1, _, h3⟩)
    · rintro e W' ⟨⟨v, rfl⟩, ⟨h0, bv, hC⟩ | ⟨pre, x, e, hS, h0, bv, hC⟩⟩
      · have hE := run_endLoop (P := Try.prog) hC.L (by simp [cRec])
        have hC2 := hC.put { (cRec fn w.heap.size k a ln cap ac bd .ready none) with state := .exhausted }
        obtain ⟨W3, HW3⟩ : ∃ W3, Hid (W3 = W'.putObj (w.heap.size + 1 + 1 + 1 + 1 + 1 + 1) (.loop { (cRec fn w.heap.size k a ln cap ac bd .ready none) with state := .exhausted })) := ⟨_, rfl⟩
        rw [← HW3.out] at hC2 hE
        refine ⟨none, W3, by rw [hs0]; exact hE, ?_⟩
        simp only
        have HD := hid hC2.D
        rw [hs0]
        have c0 := hC2.r0.cell 0 _ rfl
        have c1 := hC2.r1.cell 0 _ rfl
        have f0 := hC2.r0.free 0
        have f1 := hC2.r1.free 0
        have cn := hC2.nb.cell 0 _ rfl
        gi_wp2
        obtain ⟨e1, e2, e3, e4⟩ := two_results hC2.r0 hC2.r1 HD.out (by omega) (Nat.le_refl _) (by omega) (by omega) hC2.B (.int .i64 ((rpieces (kwire k) l).length : Int)) (.int .u8 0)
        refine ⟨by simp, .inl ⟨_, _, rfl, run_takeDeferred (P := Try.prog) e1, ?_⟩⟩
        refine ⟨_, by simp [results, Try.f174, go_sem, e2, e3]; rfl, ?_, e4⟩
        rw [runCount_len (kwire k) _ l (Nat.le_refl _), if_pos h0]
      · have hE := run_endLoop (P := Try.prog) hC.L (by simp [cRec])
        have hC2 := hC.put { (cRec fn w.heap.size k a ln cap ac bd .done (some .ret)) with state := .exhausted }
        obtain ⟨W3, HW3⟩ : ∃ W3, Hid (W3 = W'.putObj (w.heap.size + 1 + 1 + 1 + 1 + 1 + 1) (.loop { (cRec fn w.heap.size k a ln cap ac bd .done (some .ret)) with state := .exhausted })) := ⟨_, rfl⟩
        rw [← HW3.out] at hC2 hE
        refine ⟨some .ret, W3, by rw [hs0]; exact hE, ?_⟩
        simp only
        rw [hs0]
        gi_wp2
        obtain ⟨e2, e3, e4⟩ := two_results0 hC2.r0 hC2.r1 hC2.D (by omega) hC2.B
        refine ⟨by simp, .inl ⟨_, _, rfl, run_takeDeferred (P := Try.prog) hC2.D, ?_⟩⟩
        refine ⟨_, by simp [results, Try.f174, go_sem, e2, e3]; rfl, ?_, e4⟩
        have he : e = (runCount (kwire k) l).2 := by
          rcases hS with ⟨_, _, h⟩ | ⟨h, _⟩
          · exact h
          · exact absurd h h0
        rw [runCount_len (kwire k) _ l (Nat.le_refl _), ← he, if_neg h0]; rfl

end Go.Proofs.Ytgephhmkaonahaa
