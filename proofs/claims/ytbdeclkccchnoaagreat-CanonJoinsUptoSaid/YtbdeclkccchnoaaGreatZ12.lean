/- Parts of a proof: texts of the author, merged. No condition of their own. -/
import Derived.Test.YtbdeclkccchnoaaGreatZ06
import Derived.Test.YtbdeclkccchnoaaGreatZ07
import Derived.Test.YtbdeclkccchnoaaGreatZ08
import Derived.Test.YtbdeclkccchnoaaGreatZ11
import Derived.RangeFuncNested
import Derived.RangeFuncCalls
namespace Go.Proofs.YtbdeclkccchnoaaGreat
open Go.RowKit Go.Shelf
attribute [local go_sem] Oper.semAt_some
def kwords (k : Int) (l : List UInt8) : List Nat := (rpieces (kwire k) l).map fun x => (kread k x).1
def runWords (k : Int) (l : List UInt8) : List Nat × Nat := if (runCount (kwire k) l).2 = 0 then (kwords k l, 0) else ([], (runCount (kwire k) l).2)
def WordsOwn (w : World) (base : Nat) (v : Value) (l : List Nat) : Prop := w.ownsRow base 48 1 v l.length (l.map wordV)
theorem info_u64 : (Tryz.prog.info? 48).map (fun i => (i.zero, i.size, i.bytes)) = some (some (.int .u64 0), 1, 8) := by kernel_rfl
theorem under_words : Tryz.prog.underlying 49 = some (.slice 48) := Tryz.underlying49
theorem WordsOwn.form {w : World} {base : Nat} {v : Value} {l : List Nat} (h : WordsOwn w base v l) : ∃ a c, v = .slice a l.length c := by
  rcases h.2 with ⟨h1, h2⟩ | ⟨g, cap, cur, hv, -⟩
  · exact ⟨none, 0, by rw [h1, h2]⟩
  · exact ⟨_, _, hv⟩
theorem WordsOwn.later {w w' : World} {base : Nat} {v : Value} {l : List Nat} (h : WordsOwn w base v l) (hb : Below w.heap.size w w') : WordsOwn w' base v l :=
  row_keep h fun b _ _ he => hb.block b (Array.getElem?_eq_some_iff.1 he).1
theorem WordsOwn.mono {W : World} {b b' : Nat} {v : Value} {l : List Nat} (h : WordsOwn W b v l) (hb : b' ≤ b) : WordsOwn W b' v l := by
  refine ⟨h.1, ?_⟩
  rcases h.2 with h2 | ⟨g, cap, cur, hv, hg, h3⟩
  · exact .inl h2
  · exact .inr ⟨g, cap, cur, hv, by omega, h3⟩
theorem WordsOwn.words {w : World} {base : Nat} {v : Value} {l : List Nat} (h : WordsOwn w base v l) (hn : l.length ≤ 140737488355328) (hl : ∀ x ∈ l, x < 2 ^ 64) : WordsAt w v l := ⟨row_seg h hn, hl⟩
theorem WordsOwn.one {W : World} {base : Nat} {v : Value} {l : List Nat} (h : WordsOwn W base v l) (y : Nat) (hn : l.length ≤ 1099511627776) (hB : base ≤ W.heap.size) :
    ∃ v' w', (Builtin.append_ #[49, 49] 49 #[v, .slice (some ⟨W.heap.size, 0, none⟩) 1 1]).run Tryz.prog (W.alloc (.cells #[.int .u64 (y : Int)] 48)) = .ok v' w' ∧ WordsOwn w' base v' (l ++ [y]) ∧ W.grownBy w' v.ownBlock := by
  have hA : Below W.heap.size W (W.alloc (.cells #[.int .u64 (y : Int)] 48)) := (Below.refl _ _).alloc (Nat.le_refl _) _
  have hx : Seg (W.alloc (.cells #[.int .u64 (y : Int)] 48)) (.slice (some ⟨W.heap.size, 0, none⟩) 1 1) 1 1 [.int .u64 (y : Int)] := seg_blk (Blk.new W [.int .u64 (y : Int)] _) 1 1 rfl (by omega)
  obtain ⟨v', w', h1, h2, h3, -⟩ := seg_append (P := Tryz.prog) _ base 49 49 48 (.int .u64 0) 1 8 under_words info_u64 rfl (by decide) v _ l.length 1 _ _ (h.later hA) hx (by intro u hu; simp at hu; subst hu; rfl) (by omega) (by omega) (by simp; omega)
  refine ⟨v', w', h1, ?_, ?_⟩
  · unfold WordsOwn
    rw [List.length_append, List.map_append]
    exact h2
  · refine ⟨h3.os, h3.tape, h3.output, Nat.le_trans (by simp) h3.size, fun k hk hr => (h3.block k (by simp; omega) hr).trans (Below.heap_alloc W _ k hk)⟩
structure WA (w : World) (k : Int) (rec : Loop) (code : Nat) (lv : Value) (ws : List Nat) (bv : Value) (W : World) : Prop where
  k0 : Blk W (w.heap.size) [.int .i64 k] 3
  r0 : Blk W (w.heap.size + 1) [.slice none 0 0] 49
  r1 : Blk W (w.heap.size + 1 + 1) [.int .u8 code] 33
  lb : Blk W (w.heap.size + 1 + 1 + 1) [lv] 49
  kb : Blk W (w.heap.size + 1 + 1 + 1 + 1) [.int .i64 k] 3
  bb : Blk W (w.heap.size + 1 + 1 + 1 + 1 + 1) [bv] 32
  D : W.heap[w.heap.size + 1 + 1 + 1 + 1 + 1 + 1]? = some (.deferred (some []))
  L : W.heap[w.heap.size + 1 + 1 + 1 + 1 + 1 + 1 + 1]? = some (.loop rec)
  own : WordsOwn W (w.heap.size + 1 + 1 + 1 + 1 + 1 + 1 + 1 + 1) lv ws
  B : Below w.heap.size w W
theorem heap_lt {W : World} {b : Nat} {o : Obj} (h : W.heap[b]? = some o) : b < W.heap.size := (Array.getElem?_eq_some_iff.1 h).1
theorem WA.below {w : World} {k : Int} {rec : Loop} {code : Nat} {lv : Value} {ws : List Nat} {bv : Value} {W W' : World} (h : WA w k rec code lv ws bv W) (hb : Below W.heap.size W W') : WA w k rec code lv ws bv W' :=
  ⟨h.k0.below hb, h.r0.below hb, h.r1.below hb, h.lb.below hb, h.kb.below hb, h.bb.below hb, (hb.block _ (heap_lt h.D)).trans h.D, (hb.block _ (heap_lt h.L)).trans h.L, h.own.later hb, h.B.trans (hb.mono h.B.size)⟩
theorem WA.put {w : World} {k : Int} {rec : Loop} {code : Nat} {lv : Value} {ws : List Nat} {bv : Value} {W : World} (h : WA w k rec code lv ws bv W) (rec' : Loop) :
    WA w k rec' code lv ws bv (W.putObj (w.heap.size + 1 + 1 + 1 + 1 + 1 + 1 + 1) (.loop rec')) :=
  ⟨h.k0.put _ (by omega), h.r0.put _ (by omega), h.r1.put _ (by omega), h.lb.put _ (by omega), h.kb.put _ (by omega), h.bb.put _ (by omega), (World.putObj_heap_other (by omega)).trans h.D,
    World.putObj_heap_same (heap_lt h.L), row_keep h.own (fun b _ hb _ => World.putObj_heap_other (by omega)), belowK_b (Nat.le_refl _) W _ _ _ (by omega) h.L rfl rfl |> fun hb => h.B.trans hb⟩
theorem WA.drew {w : World} {k : Int} {rec : Loop} {code : Nat} {lv : Value} {ws : List Nat} {bv : Value} {W : World} (h : WA w k rec code lv ws bv W) : WA w k rec code lv ws bv W.drew :=
  h.below (Below.refl W.heap.size W).drew
theorem cell_grown (W : World) (a : Addr) (v : Value) : W.grownBy (W.setCell a v) (some a.block) :=
  ⟨rfl, rfl, rfl, by simp, fun k _ hr => Below.heap_setCell W _ _ k (fun e => hr (by rw [e]))⟩
theorem WA.store {w : World} {k : Int} {rec : Loop} {code : Nat} {lv : Value} {ws : List Nat} {bv : Value} {W W' : World} (h : WA w k rec code lv ws bv W) {r : Nat} (hr : w.heap.size ≤ r) (hr2 : r < w.heap.size + 1 + 1 + 1 + 1 + 1 + 1) (hg : W.grownBy W' (some r))
    {code' : Nat} {lv' : Value} {bv' : Value} (h0 : Blk W' (w.heap.size) [.int .i64 k] 3) (h1 : Blk W' (w.heap.size + 1) [.slice none 0 0] 49) (h2 : Blk W' (w.heap.size + 1 + 1) [.int .u8 code'] 33) (h3 : Blk W' (w.heap.size + 1 + 1 + 1) [lv'] 49) (h4 : Blk W' (w.heap.size + 1 + 1 + 1 + 1) [.int .i64 k] 3) (h5 : Blk W' (w.heap.size + 1 + 1 + 1 + 1 + 1) [bv'] 32)
    {ws' : List Nat} (ho : WordsOwn W' (w.heap.size + 1 + 1 + 1 + 1 + 1 + 1 + 1 + 1) lv' ws') : WA w k rec code' lv' ws' bv' W' :=
  ⟨h0, h1, h2, h3, h4, h5, (hg.block _ (heap_lt h.D) (fun e => by cases e; omega)).trans h.D, (hg.block _ (heap_lt h.L) (fun e => by cases e; omega)).trans h.L, ho, h.B.grown hg h.B.size (fun q e => by cases e; exact hr)⟩
theorem WA.setB {w : World} {k : Int} {rec : Loop} {code : Nat} {lv : Value} {ws : List Nat} {bv : Value} {W : World} (h : WA w k rec code lv ws bv W) (c : Value) : WA w k rec code lv ws c (W.setCell ⟨w.heap.size + 1 + 1 + 1 + 1 + 1, 0, none⟩ (c)) :=
  h.store (r := w.heap.size + 1 + 1 + 1 + 1 + 1) (by omega) (by omega) (cell_grown W _ _) (h.k0.set_other _ _ (by first | (simp; done) | (simp; omega))) (h.r0.set_other _ _ (by first | (simp; done) | (simp; omega))) (h.r1.set_other _ _ (by first | (simp; done) | (simp; omega))) (h.lb.set_other _ _ (by first | (simp; done) | (simp; omega))) (h.kb.set_other _ _ (by first | (simp; done) | (simp; omega))) (by simpa using h.bb.set 0 (c))
    (row_keep h.own fun b _ hb _ => Below.heap_setCell W _ _ b (by simp; omega))
theorem WA.setR0 {w : World} {k : Int} {rec : Loop} {code : Nat} {lv : Value} {ws : List Nat} {bv : Value} {W : World} (h : WA w k rec code lv ws bv W)  : WA w k rec code lv ws bv (W.setCell ⟨w.heap.size + 1, 0, none⟩ (.slice none 0 0)) :=
  h.store (r := w.heap.size + 1) (by omega) (by omega) (cell_grown W _ _) (h.k0.set_other _ _ (by first | (simp; done) | (simp; omega))) (by simpa using h.r0.set 0 (.slice none 0 0)) (h.r1.set_other _ _ (by first | (simp; done) | (simp; omega))) (h.lb.set_other _ _ (by first | (simp; done) | (simp; omega))) (h.kb.set_other _ _ (by first | (simp; done) | (simp; omega))) (h.bb.set_other _ _ (by first | (simp; done) | (simp; omega)))
    (row_keep h.own fun b _ hb _ => Below.heap_setCell W _ _ b (by simp; omega))
theorem WA.setR1 {w : World} {k : Int} {rec : Loop} {code : Nat} {lv : Value} {ws : List Nat} {bv : Value} {W : World} (h : WA w k rec code lv ws bv W) (c : Nat) : WA w k rec c lv ws bv (W.setCell ⟨w.heap.size + 1 + 1, 0, none⟩ (.int .u8 c)) :=
  h.store (r := w.heap.size + 1 + 1) (by omega) (by omega) (cell_grown W _ _) (h.k0.set_other _ _ (by first | (simp; done) | (simp; omega))) (h.r0.set_other _ _ (by first | (simp; done) | (simp; omega))) (by simpa using h.r1.set 0 (.int .u8 c)) (h.lb.set_other _ _ (by first | (simp; done) | (simp; omega))) (h.kb.set_other _ _ (by first | (simp; done) | (simp; omega))) (h.bb.set_other _ _ (by first | (simp; done) | (simp; omega)))
    (row_keep h.own fun b _ hb _ => Below.heap_setCell W _ _ b (by simp; omega))
theorem WA.push {w : World} {k : Int} {rec : Loop} {code : Nat} {lv : Value} {ws : List Nat} {bv : Value} {W w' : World} (h : WA w k rec code lv ws bv W) (hg : W.grownBy w' lv.ownBlock) {lv' : Value} {ws' : List Nat} (ho : WordsOwn w' (w.heap.size + 1 + 1 + 1 + 1 + 1 + 1 + 1 + 1) lv' ws') :
    WA w k rec code lv' ws' bv (w'.setCell ⟨w.heap.size + 1 + 1 + 1, 0, none⟩ lv') ∧ Blk w' (w.heap.size + 1 + 1 + 1) [lv] 49 := by
  have hk : ∀ b o, W.heap[b]? = some o → b < w.heap.size + 1 + 1 + 1 + 1 + 1 + 1 + 1 + 1 → w'.heap[b]? = some o := fun b o hb hlt => by
    refine (hg.block b (heap_lt hb) fun e => ?_).trans hb
    have := (World.ownsRow.lt h.own b e.symm).1
    omega
  have b0 : Blk w' _ _ _ := hk _ _ h.k0 (by omega)
  have b1 : Blk w' _ _ _ := hk _ _ h.r0 (by omega)
  have b2 : Blk w' _ _ _ := hk _ _ h.r1 (by omega)
  have b3 : Blk w' _ _ _ := hk _ _ h.lb (by omega)
  have b4 : Blk w' _ _ _ := hk _ _ h.kb (by omega)
  have b5 : Blk w' _ _ _ := hk _ _ h.bb (by omega)
  have hB : Below w.heap.size w w' := h.B.grown hg h.B.size (fun q e => by have := (World.ownsRow.lt h.own q e).1; omega)
  refine ⟨⟨b0.set_other _ _ (by first | (simp; done) | (simp; omega)), b1.set_other _ _ (by first | (simp; done) | (simp; omega)), b2.set_other _ _ (by first | (simp; done) | (simp; omega)), by simpa using b3.set 0 lv', b4.set_other _ _ (by first | (simp; done) | (simp; omega)), b5.set_other _ _ (by first | (simp; done) | (simp; omega)),
    (Below.heap_setCell w' _ _ _ (by first | (simp; done) | (simp; omega))).trans (hk _ _ h.D (by omega)), (Below.heap_setCell w' _ _ _ (by first | (simp; done) | (simp; omega))).trans (hk _ _ h.L (by omega)), row_keep ho fun b _ hb _ => Below.heap_setCell w' _ _ b (by simp; omega), hB.setCell (by simp; omega) _⟩, b3⟩
def wRec (fn : FuncId) (H : Nat) (k : Int) (a : Option Addr) (ln cap : Nat) (ac bd : Code) (st : LoopState) (pend : Option Code) : Loop :=
  { state := st, pending := pend, fn, tmps := #[.int .i64 k, .slice a ln cap, .pointer (some ⟨H, 0, none⟩), undef, .pointer (some ⟨H + 1, 0, none⟩), .pointer (some ⟨H + 1 + 1, 0, none⟩), .pointer (some ⟨H + 1 + 1 + 1, 0, none⟩), undef, undef, undef, .int .i64 k, .slice a ln cap,
      .func (.func 121) #[] #[.pointer (some ⟨H + 1 + 1 + 1 + 1, 0, none⟩), .pointer (some ⟨H + 1 + 1 + 1 + 1 + 1, 0, none⟩)], undef, undef, undef, undef, undef, undef, undef, undef, undef, undef, undef, undef, undef, undef, undef, undef, undef, undef],
    params := #[13], assign := ac, body := bd, defers := H + 1 + 1 + 1 + 1 + 1 + 1 }
def WordsPost (w : World) (x : List Nat × Nat) (e : Ending) (w' : World) : Prop := ∃ v', e = .returned (.tuple #[v', .int .u8 (x.2 : Nat)]) ∧ WordsOwn w' w.heap.size v' x.1 ∧ Below w.heap.size w w'
set_option maxRecDepth 100000 in
set_option maxHeartbeats 8000000 in
theorem run_Words {w : World} {v : Value} {l : List UInt8} (h : Bytes w v l) (hl40 : l.length ≤ 1099511627776) (k : Int) (hk : knumber k = true) :
    Calls Tryz.prog 67 #[.int .i64 k, v] w (WordsPost w (runWords k l)) := by
  refine (callsIn_wide (n := 4)).1 ?_
  have hv := hid h
  have HK := hid hk
  have H40 := hid hl40
  obtain ⟨hlen, a, cap, rfl, -, -, -, hcell⟩ := h.open
  clear hcell
  obtain ⟨ln, HN⟩ : ∃ ln, Hid (ln = l.length) := ⟨_, rfl⟩
  rw [← HN.out] at hlen h ⊢
  refine callsIn_of_wp_marks Tryz.func67 rfl trivial ?_ rfl
  simp only [Tryz.ntmps67, List.size_toArray, List.length_cons, List.length_nil, Nat.reduceAdd, Nat.reduceSub, Array.replicate_succ, Array.replicate_zero, List.push_toArray, List.append_toArray, List.nil_append, List.cons_append]
  have hn1 : 1 ≤ 4 := by omega
  gi_wp2_with (refine ⟨trivial, ?_⟩; gi_at_call 100; refine (run_values 3 _ _ _ _).mono ?_; rintro e w' ⟨rfl, rfl⟩)
  refine rf_named ?_
  intro ac bd HAC HBD
  refine wpIn_rangeFunc ?_
  intro fn hfn
  obtain ⟨W0, HW0⟩ : ∃ W0, Hid (W0 = ((((((w.alloc (.cells #[.int .i64 k] 3)).alloc (.cells #[.slice none 0 0] 49)).alloc (.cells #[.int .u8 0] 33)).alloc (.cells #[.slice none 0 0] 49)).alloc (.cells #[.int .i64 k] 3)).alloc (.cells #[.slice a ln cap] 32))) := ⟨_, rfl⟩
  rw [← HW0.out]
  obtain ⟨rr, HRR⟩ : ∃ rr, Hid (rr = wRec fn w.heap.size k a ln cap ac bd .ready none) := ⟨_, rfl⟩
  obtain ⟨rd, HRD⟩ : ∃ rd, Hid (rd = wRec fn w.heap.size k a ln cap ac bd .done (some .ret)) := ⟨_, rfl⟩
  obtain ⟨W1, HW1⟩ : ∃ W1, Hid (W1 = (W0.alloc (.deferred (some []))).alloc (.loop rr)) := ⟨_, rfl⟩
  have hs0 : W0.heap.size = w.heap.size + 1 + 1 + 1 + 1 + 1 + 1 := by rw [HW0.out]; simp
  have hM : WA w k rr 0 (.slice none 0 0) [] (.slice a ln cap) W1 := by
    have e0 := Blk.new w [.int .i64 k] 3
    have e1 := Blk.new (w.alloc (.cells #[.int .i64 k] 3)) [.slice none 0 0] 49
    have e2 := Blk.new ((w.alloc (.cells #[.int .i64 k] 3)).alloc (.cells #[.slice none 0 0] 49)) [.int .u8 0] 33
    have e3 := Blk.new (((w.alloc (.cells #[.int .i64 k] 3)).alloc (.cells #[.slice none 0 0] 49)).alloc (.cells #[.int .u8 0] 33)) [.slice none 0 0] 49
    have e4 := Blk.new ((((w.alloc (.cells #[.int .i64 k] 3)).alloc (.cells #[.slice none 0 0] 49)).alloc (.cells #[.int .u8 0] 33)).alloc (.cells #[.slice none 0 0] 49)) [.int .i64 k] 3
    have e5 := Blk.new (((((w.alloc (.cells #[.int .i64 k] 3)).alloc (.cells #[.slice none 0 0] 49)).alloc (.cells #[.int .u8 0] 33)).alloc (.cells #[.slice none 0 0] 49)).alloc (.cells #[.int .i64 k] 3)) [.slice a ln cap] 32
    have e6 := heap_alloc_new W0 (.deferred (some []))
    have e7 := heap_alloc_new (W0.alloc (.deferred (some []))) (.loop rr)
    simp only [World.size_alloc] at e1 e2 e3 e4 e5 e7
    rw [hs0] at e6 e7
    rw [HW1.out]
    refine ⟨?_, ?_, ?_, ?_, ?_, ?_, ?_, e7, World.ownsRow_nil _ _ _ _, ?_⟩
    · exact Blk.alloc (Blk.alloc (by rw [HW0.out]; exact (((((e0.alloc _).alloc _).alloc _).alloc _).alloc _)) _) _
    · exact Blk.alloc (Blk.alloc (by rw [HW0.out]; exact ((((e1.alloc _).alloc _).alloc _).alloc _)) _) _
    · exact Blk.alloc (Blk.alloc (by rw [HW0.out]; exact (((e2.alloc _).alloc _).alloc _)) _) _
    · exact Blk.alloc (Blk.alloc (by rw [HW0.out]; exact ((e3.alloc _).alloc _)) _) _
    · exact Blk.alloc (Blk.alloc (by rw [HW0.out]; exact (e4.alloc _)) _) _
    · exact Blk.alloc (Blk.alloc (by rw [HW0.out]; exact e5) _) _
    · exact (Below.heap_alloc _ _ _ (by simp; omega)).trans e6
    · have : Below w.heap.size w W0 := by
        rw [HW0.out]
        (repeat (first | with_reducible exact Below.refl _ _ | with_reducible refine Below.setCell ?_ (by first | omega | (simp; omega) | (simp; done)) _ | with_reducible refine Below.alloc ?_ (by first | omega | (simp; omega) | (simp; done)) _ | with_reducible refine below_drewN ?_ _ | with_reducible refine Below.drew ?_))
      exact (this.alloc (by omega) _).alloc (by simp; omega) _
  have hround : ∀ (ws : List Nat) (e : Nat) (lv bv : Value) (sa : Option Addr) (sn sc : Nat) (x : List UInt8) (W : World), ws.length ≤ 1099511627776 → Bytes w (.slice sa sn sc) x → WA w k rr 0 lv ws bv W →
      YieldAt Fence.wide (4 - 1 - 1) Tryz.prog (w.heap.size + 1 + 1 + 1 + 1 + 1 + 1 + 1) #[.agg #[.slice sa sn sc, .int .u8 e]] W fun e' W' =>
        (e = 0 ∧ e' = .returned (.bool true) ∧ ∃ lv', WA w k rr 0 lv' (ws ++ [(kread k x).1]) bv W') ∨
        (e ≠ 0 ∧ e' = .returned (.bool false) ∧ WA w k rd e lv ws bv W') := by
    intro ws e lv bv sa sn sc x W hws hX hC
    refine ⟨fn, _, ac, bd, by simpa [HRR.out, wRec] using run_yield (P := Tryz.prog) (args := #[.agg #[.slice sa sn sc, .int .u8 e]]) hC.L (by rw [HRR.out]; rfl), roundIn_of_wpIn hfn ?_⟩
    have hlt := heap_lt hC.L
    rw [HAC.out]
    have HX := hid hX
    have HWS := hid hws
    clear hX hws
    gi_wp2
    have hC1 := hC.below ((Below.refl W.heap.size W).alloc (Nat.le_refl _) (.cells #[.slice sa sn sc, .int .u8 e] 179))
    have hV1 := Blk.new W [.slice sa sn sc, .int .u8 e] 179
    refine ⟨_, run_beginRound hC1.L (by rw [HRR.out]; rfl), ?_⟩
    have hC2 := hC1.put { rr with state := .busy }
    have hV2 := hV1.put (.loop { rr with state := .busy }) (r := w.heap.size + 1 + 1 + 1 + 1 + 1 + 1 + 1) (by omega)
    obtain ⟨W2, HW2⟩ : ∃ W2, Hid (W2 = (W.alloc (.cells #[.slice sa sn sc, .int .u8 e] 179)).putObj (w.heap.size + 1 + 1 + 1 + 1 + 1 + 1 + 1) (.loop { rr with state := .busy })) := ⟨_, rfl⟩
    rw [← HW2.out] at hC2 hV2 ⊢
    rw [HBD.out]
    have v1 := hV2.cell 1 _ rfl
    have v0 := hV2.cell 0 _ rfl
    have kk0 := hC2.k0.cell 0 _ rfl
    have n0 := hC2.lb.cell 0 _ rfl
    have nz := hC2.lb.free 0
    have z0 := hC2.r0.free 0
    have z1 := hC2.r1.free 0
    have q0 := hC2.r0.cell 0 _ rfl
    have q1 := hC2.r1.cell 0 _ rfl
    by_cases he : e = 0
    · subst he
      obtain ⟨a3, c3, e3⟩ := hC2.own.form
      obtain ⟨wn, HWN⟩ : ∃ wn, Hid (wn = ws.length) := ⟨_, rfl⟩
      rw [← HWN.out] at e3
      subst e3
      gi_wp2
      refine ⟨trivial, ?_⟩
      have hbx : Bytes W2 (.slice sa sn sc) x := HX.out.keep (below_keeps hC2.B)
      have hrd0 := scalar_Read HK.out hbx
      refine (CallsIn.inRound (w.heap.size + 1 + 1 + 1 + 1 + 1 + 1 + 1) (callsIn_wide.2 hrd0)).mono ?_
      rintro e w3 ⟨rfl, hb3⟩
      have hC3 := hC2.below hb3
      have hV3 := hV2.below hb3
      obtain ⟨y, HYY⟩ : ∃ y, Hid (y = (kread k x).1) := ⟨_, rfl⟩
      rw [← HYY.out]
      obtain ⟨yc, HYC⟩ : ∃ yc, Hid (yc = (kread k x).2) := ⟨_, rfl⟩
      rw [← HYC.out]
      obtain ⟨v5, w5, hr5, hO5, hg5⟩ := hC3.own.one y HWS.out (by have := heap_lt hC3.L; omega)
      obtain ⟨hC5, hb5⟩ := hC3.push hg5 hO5
      obtain ⟨a5, c5, e5⟩ := hO5.form
      obtain ⟨k5, HK5⟩ : ∃ k5, Hid (k5 = (ws ++ [y]).length) := ⟨_, rfl⟩
      rw [← HK5.out] at e5
      subst e5
      have HR5 := hid hr5
      have HC5 := hid hC5
      have HC3 := hid hC3
      have m0 := hb5.cell 0 _ rfl
      have mz := hb5.free 0
      have ml := hb5.lt
      have n0 := hC3.lb.cell 0 _ rfl
      have nl := hC3.lb.lt
      clear hr5 hO5 hg5 hC5 hb5 hrd0 hb3 hC3 hV3 hbx v1 v0 kk0 nz z0 z1 q0 q1
      gi_wp2_with (gi_at_builtin; refine wpListIn_append2_eq rfl (.tmp 26) (.tmp 28) 49 49 rfl _ _ rfl rfl HR5.out ?_)
      have hC6 := HC5.out.put rr
      have hrd : ({ ({ rr with state := .busy } : Loop) with state := .ready, pending := none } : Loop) = rr := by rw [HRR.out]; rfl
      exact ⟨_, _, run_endRound (P := Tryz.prog) none HC5.out.L, rfl, _, by rw [← HYY.out]; simpa [hrd] using hC6⟩
    · have e1 : ((e : Int) != 0) = true := by simp; omega
      have e2 : ((e : Int) == 0) = false := by simp; omega
      have HE := hid he
      clear he
      gi_wp2
      gi_region
      all_goals gi_wp2
      all_goals
        have hC3 : WA w k { rr with state := .busy } e lv ws bv ((W2.setCell ⟨w.heap.size + 1, 0, none⟩ (.slice none 0 0)).setCell ⟨w.heap.size + 1 + 1, 0, none⟩ (.int .u8 e)).drew := ((hC2.setR0).setR1 e).drew
        have hC4 := hC3.put rd
        have hrd : ({ ({ rr with state := .busy } : Loop) with state := .done, pending := some .ret } : Loop) = rd := by rw [HRR.out, HRD.out]; rfl
        exact ⟨_, _, run_endRound (P := Tryz.prog) (some .ret) hC3.L, .inr ⟨HE.out, rfl, by simpa [hrd] using hC4⟩⟩
  refine ⟨W0.heap.size + 1, [{ target := .collected W0.heap.size, args := #[] }], W1, { target := .fn (.func 121) #[.pointer (some ⟨w.heap.size + 1 + 1 + 1 + 1, 0, none⟩), .pointer (some ⟨w.heap.size + 1 + 1 + 1 + 1 + 1, 0, none⟩)], args := #[.func (.yield (W0.heap.size + 1)) #[] #[]] }, W1, 121,
    #[.func (.yield (W0.heap.size + 1)) #[] #[], .pointer (some ⟨w.heap.size + 1 + 1 + 1 + 1, 0, none⟩), .pointer (some ⟨w.heap.size + 1 + 1 + 1 + 1 + 1, 0, none⟩)], W1, ?_, ?_, ?_, ?_, fun _ => hn1, ?_⟩
  · rw [HW1.out, HRR.out, wRec, ← hs0]; exact run_enterLoop_outer _ _ _ _ _
  · simp [resolve, go_sem]
  · intro f' hf'; trivial
  · simp [invoke, go_sem]
  · refine CallsIn.mono (R := fun e W' => (∃ v, e = .returned v) ∧ (((runCount (kwire k) l).2 = 0 ∧ ∃ bv lv, WA w k rr 0 lv (kwords k l) bv W') ∨
        ∃ pre x e, RunStops (kwire k) l pre x e ∧ (e ≠ 0 ∧ ∃ bv lv ws, WA w k rd e lv ws bv W'))) ?_ ?_
    · rw [hs0]
      refine run_values1 (4 - 1) (by omega) _ _ _ k hk h (fun pre bv W => ∃ lv, WA w k rr 0 lv (pre.map fun x => (kread k x).1) bv W) (fun pre x e W => e ≠ 0 ∧ ∃ bv lv ws, WA w k rd e lv ws bv W)
        (fun pre bv W hC => ⟨hC.choose_spec.kb.cell 0 _ rfl, hC.choose_spec.bb.cell 0 _ rfl, hC.choose_spec.bb.free 0, hC.choose_spec.B⟩) (fun pre bv W W' hC hb => ⟨_, hC.choose_spec.below hb⟩) (fun pre bv bv' W hC => ⟨_, hC.choose_spec.setB bv'⟩) ?_ W1 ⟨_, hM⟩
      intro pre bv W sa sn sc x e hpl hC hx
      obtain ⟨lv, hC⟩ := hC
      obtain ⟨fn', tm, as', bo, hy, hR⟩ := hround (pre.map fun x => (kread k x).1) e lv bv sa sn sc x W (by rw [List.length_map]; have := H40.out; omega) hx hC
      refine ⟨fn', tm, as', bo, hy, hR.mono ?_⟩
      rintro e' W' (⟨h1, h2, lv', h3⟩ | ⟨h1, h2, h3⟩)
      · exact .inl ⟨h1, h2, lv', by simpa using h3⟩
      · exact .inr (.inr ⟨h1, ⟨_, h2⟩, h1, _, _, _, h3⟩)
    · rintro e W' ⟨⟨v, rfl⟩, ⟨h0, bv, lv, hC⟩ | ⟨pre, x, e, hS, h0, bv, lv, ws, hC⟩⟩
      · have hE := run_endLoop (P := Tryz.prog) hC.L (by simp [HRR.out, wRec])
        have hC2 := hC.put { (rr : Loop) with state := .exhausted }
        obtain ⟨W3, HW3⟩ : ∃ W3, Hid (W3 = W'.putObj (w.heap.size + 1 + 1 + 1 + 1 + 1 + 1 + 1) (.loop { (rr : Loop) with state := .exhausted })) := ⟨_, rfl⟩
        rw [← HW3.out] at hC2 hE
        refine ⟨none, W3, by rw [hs0, hE, HRR.out]; rfl, ?_⟩
        simp only
        rw [hs0]
        obtain ⟨a3, c3, e3⟩ := hC2.own.form
        obtain ⟨kn, HKN⟩ : ∃ kn, Hid (kn = (kwords k l).length) := ⟨_, rfl⟩
        rw [← HKN.out] at e3
        subst e3
        have c0 := hC2.r0.cell 0 _ rfl
        have c1 := hC2.r1.cell 0 _ rfl
        have f0 := hC2.r0.free 0
        have f1 := hC2.r1.free 0
        have cn := hC2.lb.cell 0 _ rfl
        have HC2 := hid hC2
        clear hC hE hC2
        gi_wp2
        obtain ⟨e1, e2, e3, e4⟩ := two_results HC2.out.r0 HC2.out.r1 HC2.out.D (by omega) (by omega) (by omega) (by omega) HC2.out.B (.slice a3 kn c3) (.int .u8 0)
        refine ⟨by simp, .inl ⟨_, _, rfl, run_takeDeferred (P := Tryz.prog) e1, ?_⟩⟩
        refine ⟨_, by simp [results, Tryz.f67, go_sem, e2, e3]; rfl, ?_⟩
        rw [runWords, if_pos h0]
        refine ⟨.slice a3 kn c3, rfl, ?_, e4⟩
        refine WordsOwn.mono (b := w.heap.size + 1 + 1 + 1 + 1 + 1 + 1 + 1 + 1) (row_keep HC2.out.own fun b _ hb _ => ?_) (by omega)
        rw [World.putObj_heap_other (by omega)]
        exact (Below.heap_setCell _ _ _ _ (by first | (simp; done) | (simp; omega))).trans (Below.heap_setCell _ _ _ _ (by first | (simp; done) | (simp; omega)))
      · have hE := run_endLoop (P := Tryz.prog) hC.L (by simp [HRD.out, wRec])
        have hC2 := hC.put { (rd : Loop) with state := .exhausted }
        obtain ⟨W3, HW3⟩ : ∃ W3, Hid (W3 = W'.putObj (w.heap.size + 1 + 1 + 1 + 1 + 1 + 1 + 1) (.loop { (rd : Loop) with state := .exhausted })) := ⟨_, rfl⟩
        rw [← HW3.out] at hC2 hE
        refine ⟨some .ret, W3, by rw [hs0, hE, HRD.out]; rfl, ?_⟩
        simp only
        rw [hs0]
        gi_wp2
        obtain ⟨e2, e3, e4⟩ := two_results0 hC2.r0 hC2.r1 hC2.D (by omega) hC2.B
        refine ⟨by simp, .inl ⟨_, _, rfl, run_takeDeferred (P := Tryz.prog) hC2.D, ?_⟩⟩
        refine ⟨_, by simp [results, Tryz.f67, go_sem, e2, e3]; rfl, ?_⟩
        have he : e = (runCount (kwire k) l).2 := by
          rcases hS with ⟨_, _, h⟩ | ⟨h, _⟩
          · exact h
          · exact absurd h h0
        rw [runWords, if_neg (by rw [← he]; exact h0), ← he]
        exact ⟨.slice none 0 0, rfl, World.ownsRow_nil _ _ _ _, e4⟩
end Go.Proofs.YtbdeclkccchnoaaGreat
namespace Go.Proofs.YtbdeclkccchnoaaGreat
open Go.RowKit
def vbytes (l : List UInt8) (x : VW) : List UInt8 := part l x.r.at' x.r.to
def pieceW (f : Fld) (l : List UInt8) (x : VW) : List Nat := if x.run = true then (runWords f.kind (vbytes l x)).1 else if knumber f.kind = true then [(kread f.kind (vbytes l x)).1] else []
def pieceB (f : Fld) (l : List UInt8) (x : VW) : List (List UInt8) := if x.run = true ∨ knumber f.kind = true then [] else [vbytes l x]
def lastOf {α : Type} (l : List α) : List α := l.drop (l.length - 1)
theorem lastOf_snoc {α : Type} (l : List α) (x : α) : lastOf (l ++ [x]) = [x] := by
  unfold lastOf
  simp
def counts {α : Type} (f : Fld) (xs : List α) : List α := if f.rep = true then xs else lastOf xs
def fieldV {α : Type} (sub : Int → List UInt8 → List α) (f : Fld) (l : List UInt8) (xs : List VW) : Val α :=
  ⟨f.number, (counts f xs).flatMap (pieceW f l), if f.kind = 17 then [] else (counts f xs).flatMap (pieceB f l),
    if f.kind = 17 then (if f.rep = true then xs.flatMap (fun x => sub f.of (vbytes l x)) else if xs = [] then [] else sub f.of (xs.flatMap (vbytes l))) else []⟩
def many {α : Type} (v : Val α) : Nat := v.words.length + v.texts.length + v.subs.length
def viewsOf (all : List VW) (i : Int) : List VW := all.filter fun x => decide (x.k = i)
def msgOf {α : Type} (sub : Int → List UInt8 → List α) (fs : List Fld) (l : List UInt8) : Msgd α :=
  ⟨((sortedF fs).map fun i => fieldV sub (fs.getD i.toNat .zero) l (viewsOf (vall fs l).1 i)).filter (fun v => decide (0 < many v)),
    ((vall fs l).1.filter fun x => decide (x.k < 0)).map fun x => part l x.r.start x.r.to⟩
def tof (s : List Mes) : (d : Nat) → Nat → List UInt8 → M (d + 1)
  | 0, m, l => msgOf (α := M 0) (fun _ _ => []) (s.getD m .zero).fields l
  | d + 1, m, l => msgOf (α := M (d + 1)) (fun o b => [tof s d o.toNat b]) (s.getD m .zero).fields l
def tsub (s : List Mes) : (d : Nat) → Int → List UInt8 → List (M d)
  | 0 => fun _ _ => []
  | d + 1 => fun o b => [tof s d o.toNat b]
theorem tof_msg (s : List Mes) (d m : Nat) (l : List UInt8) : tof s d m l = msgOf (tsub s d) (s.getD m .zero).fields l := by cases d <;> rfl
structure ViewOk (s : List Mes) (d m : Nat) (l : List UInt8) (x : VW) : Prop where
  look : ∃ j, vlook (s.getD m .zero).fields l j = (x.r, x.k, x.run, 0)
  right : (vval (vrec s d) (decide (d = 0)) (s.getD m .zero).fields l (x.r, x.k, x.run, 0)).2 = 0
theorem views_ok (s : List Mes) (d m : Nat) (l : List UInt8) : ∀ (fuel i : Nat), l.length ≤ fuel + i → (vfrom s d m l i).2 = 0 →
    (vallGo (s.getD m .zero).fields l fuel i).2.2 = 0 ∧ ∀ x ∈ (vallGo (s.getD m .zero).fields l fuel i).1, ViewOk s d m l x
  | 0, i, _, _ => ⟨rfl, by simp [vallGo]⟩
  | n + 1, i, hn, h => by
    rw [vallGo]
    by_cases hi : l.length ≤ i
    · rw [if_pos hi]; exact ⟨rfl, by simp⟩
    rw [if_neg hi]
    rw [vfrom_at, if_neg hi] at h
    by_cases hc : (vlook (s.getD m .zero).fields l i).2.2.2 = 0
    · rw [if_neg (by omega)] at h ⊢
      by_cases hv : (vval (vrec s d) (decide (d = 0)) (s.getD m .zero).fields l (vlook (s.getD m .zero).fields l i)).2 = 0
      · rw [if_neg (by omega)] at h
        have hto := vlook_to _ _ _ hc
        obtain ⟨g1, g2⟩ := views_ok s d m l n _ (by omega) h
        have he : vlook (s.getD m .zero).fields l i = ((vlook (s.getD m .zero).fields l i).1, (vlook (s.getD m .zero).fields l i).2.1, (vlook (s.getD m .zero).fields l i).2.2.1, 0) := by rw [← hc]
        rw [he] at hv
        simp only
        rw [if_neg (by omega)]
        refine ⟨rfl, fun x hx => ?_⟩
        rcases List.mem_cons.1 hx with rfl | hx
        · exact ⟨⟨i, he⟩, hv⟩
        · exact g2 x hx
      · rw [if_pos hv] at h; exact absurd h hv
    · rw [if_pos hc] at h; exact absurd h hc
theorem vall_ok {s : List Mes} {d m : Nat} {l : List UInt8} (h : (vmsg s d m l).2 = 0) : (vall (s.getD m .zero).fields l).2.2 = 0 ∧ ∀ x ∈ (vall (s.getD m .zero).fields l).1, ViewOk s d m l x :=
  views_ok s d m l _ 0 (by omega) (by rw [← vmsg_from]; exact h)
theorem ViewOk.facts {s : List Mes} {d m : Nat} {l : List UInt8} {x : VW} (h : ViewOk s d m l x) :
    x.r.start ≤ x.r.at' ∧ x.r.at' ≤ x.r.to ∧ x.r.to ≤ l.length ∧ (x.k = -1 ∧ x.run = false ∨ ∃ k : Nat, x.k = k ∧ k < (s.getD m .zero).fields.length ∧
      (x.run = true → ((s.getD m .zero).fields.getD k .zero).rep = true ∧ knumber ((s.getD m .zero).fields.getD k .zero).kind = true) ∧ kright ((s.getD m .zero).fields.getD k .zero).kind = true) := by
  obtain ⟨j, hj⟩ := h.look
  rcases vlook_cases (s.getD m .zero).fields l j with ⟨c, hc, e, -⟩ | ⟨r, h1, h2, h3, h4, h5, e | ⟨k, run, hk, e, -, h6, h7⟩⟩
  · rw [e] at hj
    exact absurd (congrArg (fun t => t.2.2.2) hj) (by simpa using hc)
  · rw [e] at hj
    injection hj with e1 e2
    injection e2 with e2 e3
    injection e3 with e3 e4
    subst e1
    exact ⟨by omega, h3, h4, .inl ⟨e2.symm, e3.symm⟩⟩
  · rw [e] at hj
    injection hj with e1 e2
    injection e2 with e2 e3
    injection e3 with e3 e4
    subst e1
    subst e3
    refine ⟨by omega, h3, h4, .inr ⟨k, e2.symm, hk, fun hr => ⟨(h6 hr).1, (h6 hr).2.1⟩, ?_⟩⟩
    cases hr : x.run with
    | true => exact kright_num (h6 hr).2.1
    | false => exact (h7 hr).1
theorem ViewOk.sub {s : List Mes} {d m : Nat} {l : List UInt8} {x : VW} (h : ViewOk s d m l x) {k : Nat} (hk : x.k = k) (h17 : ((s.getD m .zero).fields.getD k .zero).kind = 17) :
    ∃ d', d = d' + 1 ∧ (vmsg s d' ((s.getD m .zero).fields.getD k .zero).of.toNat (vbytes l x)).2 = 0 := by
  have h1 := h.right
  obtain ⟨-, -, -, h2⟩ := h.facts
  have hr : x.run ≠ true := by
    rintro hr
    rcases h2 with ⟨h2, -⟩ | ⟨k', h2, -, h3, -⟩
    · omega
    · have : k' = k := by omega
      subst this
      have := (h3 hr).2
      rw [h17] at this
      simp [knumber] at this
  unfold vval at h1
  simp only at h1
  rw [if_neg (by omega), if_neg hr, hk, Int.toNat_natCast, if_neg (by rw [h17]; decide), if_pos h17] at h1
  cases d with
  | zero => simp at h1
  | succ d' =>
    refine ⟨d', rfl, ?_⟩
    rw [if_neg (by simp)] at h1
    exact h1
theorem ViewOk.text {s : List Mes} {d m : Nat} {l : List UInt8} {x : VW} (h : ViewOk s d m l x) {k : Nat} (hk : x.k = k) (h15 : ((s.getD m .zero).fields.getD k .zero).kind = 15) :
    ufirst (vbytes l x) = (vbytes l x).length := by
  have h1 := h.right
  obtain ⟨-, -, -, h2⟩ := h.facts
  have hr : x.run ≠ true := by
    rintro hr
    rcases h2 with ⟨h2, -⟩ | ⟨k', h2, -, h3, -⟩
    · omega
    · have : k' = k := by omega
      subst this
      have := (h3 hr).2
      rw [h15] at this
      simp [knumber] at this
  unfold vval at h1
  simp only at h1
  rw [if_neg (by omega), if_neg hr, hk, Int.toNat_natCast, if_pos h15] at h1
  by_cases h3 : ufirst (vbytes l x) = (vbytes l x).length
  · exact h3
  · rw [if_neg (show ¬ (ufirst (part l x.r.at' x.r.to) = (part l x.r.at' x.r.to).length) from h3)] at h1
    simp at h1
end Go.Proofs.YtbdeclkccchnoaaGreat
namespace Go.Proofs.YtbdeclkccchnoaaGreat
open Go.RowKit
theorem vallGo_len (fs : List Fld) (l : List UInt8) : ∀ (n i : Nat), (vallGo fs l n i).1.length + i ≤ max l.length i
  | 0, i => by simp [vallGo]; omega
  | n + 1, i => by
    rw [vallGo]
    by_cases hi : l.length ≤ i
    · rw [if_pos hi]; simp; omega
    rw [if_neg hi]
    by_cases hc : (vlook fs l i).2.2.2 = 0
    · rw [if_neg (by omega)]
      have hto := vlook_to _ _ _ hc
      have ih := vallGo_len fs l n (vlook fs l i).1.to
      simp only
      split
      · simp; omega
      · simp; omega
    · rw [if_pos hc]; simp; omega
theorem vall_len (fs : List Fld) (l : List UInt8) : (vall fs l).1.length ≤ l.length := by
  have := vallGo_len fs l l.length 0
  unfold vall
  omega
theorem lastOf_sub {α : Type} (l : List α) {x : α} (h : x ∈ lastOf l) : x ∈ l := List.mem_of_mem_drop h
theorem lastOf_cases {α : Type} (l : List α) : (l = [] ∧ lastOf l = []) ∨ ∃ p x, l = p ++ [x] ∧ lastOf l = [x] := by
  rcases List.eq_nil_or_concat l with h | ⟨p, x, h⟩
  · subst h; exact .inl ⟨rfl, rfl⟩
  · rw [List.concat_eq_append] at h
    subst h
    exact .inr ⟨p, x, rfl, lastOf_snoc p x⟩
theorem lastOf_flat {α β : Type} (g : α → List β) (l : List α) (h : (∀ x ∈ l, (g x).length = 1) ∨ (∀ x ∈ l, g x = [])) : lastOf (l.flatMap g) = (lastOf l).flatMap g := by
  rcases lastOf_cases l with ⟨rfl, h2⟩ | ⟨p, x, rfl, h2⟩
  · rfl
  · rw [h2, List.flatMap_append]
    rcases h with h | h
    · have h1 := h x (by simp)
      obtain ⟨y, hy⟩ : ∃ y, g x = [y] := List.length_eq_one_iff.1 h1
      simp only [List.flatMap_cons, List.flatMap_nil, List.append_nil, hy]
      exact lastOf_snoc _ _
    · have h1 : (p.flatMap g) = [] := by
        rw [List.flatMap_eq_nil_iff]
        intro y hy
        exact h y (by simp [hy])
      rw [h1]
      simp [h x (by simp), lastOf]
end Go.Proofs.YtbdeclkccchnoaaGreat
namespace Go.Proofs.YtbdeclkccchnoaaGreat
open Go.RowKit
theorem vgo_app (r : List UInt8) : ∀ (l : List UInt8) (n w : Nat), (vgo n w l).2.2 = 0 → vgo n w (l ++ r) = vgo n w l
  | [], n, w, h => by simp [vgo] at h
  | c :: t, n, w, h => by
    rw [List.cons_append]
    rw [vgo] at h ⊢
    conv => rhs; rw [vgo]
    by_cases h1 : n = 9 ∧ 1 < c.toNat
    · rw [if_pos h1] at h; simp at h
    rw [if_neg h1] at h ⊢
    rw [if_neg h1]
    by_cases h2 : c.toNat < 128
    · rw [if_pos h2, if_pos h2]
    rw [if_neg h2] at h ⊢
    rw [if_neg h2]
    exact vgo_app r t _ _ h
theorem vread_app {l : List UInt8} (r : List UInt8) (h : (vread l).2.2 = 0) : vread (l ++ r) = vread l := vgo_app r l 0 0 h
theorem tread_app {l : List UInt8} (r : List UInt8) (h : (tread l).2.2.2 = 0) : tread (l ++ r) = tread l := by
  have h1 : (vread l).2.2 = 0 := by
    refine Decidable.byContradiction fun hn => ?_
    unfold tread at h
    rw [if_pos hn] at h
    exact hn h
  unfold tread
  rw [vread_app r h1]
theorem rsize_app (wire : Nat) {l : List UInt8} (r : List UInt8) (h : (rsize wire l).2.2 = 0) : rsize wire (l ++ r) = rsize wire l := by
  unfold rsize at h ⊢
  by_cases h0 : wire = 0
  · rw [if_pos h0] at h ⊢
    rw [if_pos h0, vread_app r h]
  rw [if_neg h0] at h ⊢
  rw [if_neg h0]
  by_cases h1 : wire = 1
  · rw [if_pos h1, if_pos h1]
  rw [if_neg h1] at h ⊢
  rw [if_neg h1]
  by_cases h5 : wire = 5
  · rw [if_pos h5, if_pos h5]
  rw [if_neg h5] at h ⊢
  rw [if_neg h5, vread_app r h]
theorem rnext_app {l : List UInt8} (r : List UInt8) {i : Nat} (h : (rnext l i).2 = 0) : rnext (l ++ r) i = rnext l i := by
  rcases rnext_cases l i with ⟨hi, er⟩ | ⟨hi, c, et, hc, er⟩ | ⟨hi, k, x, n, et, h1, h2, h3, h4, h5, h6, hcs⟩
  · rw [er] at h; simp at h
  · rw [er] at h; simp at h; omega
  · rcases hcs with ⟨a, m, c, es, hc, -, -, er⟩ | ⟨a, m, es, -, -, -, -, er⟩ | ⟨a, m, es, g1, g2, g3, er⟩
    · rw [er] at h; simp at h; omega
    · rw [er] at h; simp at h
    · rw [er]
      unfold rnext
      rw [if_neg (by rw [List.length_append]; omega)]
      have e1 : (l ++ r).drop i = l.drop i ++ r := List.drop_append_of_le_length (by omega)
      have e2 : (l ++ r).drop (i + n) = l.drop (i + n) ++ r := List.drop_append_of_le_length (by omega)
      rw [e1, tread_app r (by rw [et]), et]
      simp only
      rw [if_neg (by simp), e2, rsize_app x r (by rw [es]), es]
      simp only
      rw [if_neg (by simp), if_neg (by rw [List.length_append]; omega)]
theorem vlook_app (fs : List Fld) {l : List UInt8} (r : List UInt8) {i : Nat} (h : (vlook fs l i).2.2.2 = 0) : vlook fs (l ++ r) i = vlook fs l i := by
  have h1 := (vlook_ok h).2.2.2.1
  unfold vlook
  rw [rnext_app r h1]
def Rec.shift (n : Nat) (x : Rec) : Rec := ⟨x.number, x.wire, n + x.start, n + x.at', n + x.to⟩
theorem rnext_shift (p l : List UInt8) (i : Nat) : rnext (p ++ l) (p.length + i) = (if (rnext l i).2 = 0 then (Rec.shift p.length (rnext l i).1, 0) else (rnext l i)) := by
  have e1 : (p ++ l).drop (p.length + i) = l.drop i := by rw [List.drop_append]; simp
  rcases rnext_cases l i with ⟨hi, er⟩ | ⟨hi, c, et, hc, er⟩ | ⟨hi, k, x, n, et, h1, h2, h3, h4, h5, h6, hcs⟩
  · rw [er, if_neg (by simp)]
    unfold rnext
    rw [if_pos (by rw [List.length_append]; omega)]
  · rw [er, if_neg (by simp; omega)]
    unfold rnext
    rw [if_neg (by rw [List.length_append]; omega), e1, et]
    simp only
    rw [if_pos (by omega)]
  · have e2 : (p ++ l).drop (p.length + i + n) = l.drop (i + n) := by rw [Nat.add_assoc, List.drop_append]; simp
    rcases hcs with ⟨a, m, c, es, hc, -, -, er⟩ | ⟨a, m, es, g1, g2, g3, g4, er⟩ | ⟨a, m, es, g1, g2, g3, er⟩
    · rw [er, if_neg (by simp; omega)]
      unfold rnext
      rw [if_neg (by rw [List.length_append]; omega), e1, et]
      simp only
      rw [if_neg (by simp), e2, es]
      simp only
      rw [if_pos (by omega)]
    · rw [er, if_neg (by simp)]
      unfold rnext
      rw [if_neg (by rw [List.length_append]; omega), e1, et]
      simp only
      rw [if_neg (by simp), e2, es]
      simp only
      rw [if_neg (by simp), if_pos (by rw [List.length_append]; omega)]
    · rw [er, if_pos rfl]
      unfold rnext
      rw [if_neg (by rw [List.length_append]; omega), e1, et]
      simp only
      rw [if_neg (by simp), e2, es]
      simp only
      rw [if_neg (by simp), if_neg (by rw [List.length_append]; omega)]
      unfold Rec.shift
      simp only [Nat.add_assoc]
theorem part_app {l : List UInt8} (r : List UInt8) {i j : Nat} (h : j ≤ l.length) (hij : i ≤ j) : part (l ++ r) i j = part l i j := by
  unfold part
  rw [List.drop_append_of_le_length (by omega), List.take_append_of_le_length (by rw [List.length_drop]; omega)]
theorem part_shift (p l : List UInt8) (i j : Nat) : part (p ++ l) (p.length + i) (p.length + j) = part l i j := by
  unfold part
  have e1 : (p ++ l).drop (p.length + i) = l.drop i := by rw [List.drop_append]; simp
  rw [e1, Nat.add_sub_add_left]
theorem vlook_shift (fs : List Fld) (p l : List UInt8) {i : Nat} (h : (vlook fs l i).2.2.2 = 0) :
    vlook fs (p ++ l) (p.length + i) = (Rec.shift p.length (vlook fs l i).1, (vlook fs l i).2.1, (vlook fs l i).2.2.1, 0) := by
  have h1 := (vlook_ok h).2.2.2.1
  have hs := rnext_shift p l i
  rw [if_pos h1] at hs
  obtain ⟨r, er⟩ : ∃ r, rnext l i = (r, 0) := ⟨(rnext l i).1, by rw [← h1]⟩
  rw [er] at hs
  obtain ⟨r1, r2, r3, r4, r5⟩ := r
  have h2 : ∀ (L : List UInt8) (j : Nat) (q : Rec), rnext L j = (q, 0) → vlook fs L j = if fieldAt fs q.number < 0 then (q, -1, false, 0) else
      if ((fs.getD (fieldAt fs q.number).toNat .zero).rep && knumber (fs.getD (fieldAt fs q.number).toNat .zero).kind && decide (q.wire = 2)) = true then (q, fieldAt fs q.number, true, 0) else
      if kright (fs.getD (fieldAt fs q.number).toNat .zero).kind = false ∨ kwire (fs.getD (fieldAt fs q.number).toNat .zero).kind ≠ q.wire then (.none, 0, false, 6) else (q, fieldAt fs q.number, false, 0) := by
    intro L j q hq
    unfold vlook
    rw [hq]
    rfl
  rw [h2 _ _ _ er] at h ⊢
  rw [h2 _ _ _ hs]
  unfold Rec.shift
  simp only at h ⊢
  by_cases g1 : fieldAt fs r1 < 0
  · rw [if_pos g1, if_pos g1]
  rw [if_neg g1] at h ⊢
  rw [if_neg g1]
  by_cases g2 : ((fs.getD (fieldAt fs r1).toNat .zero).rep && knumber (fs.getD (fieldAt fs r1).toNat .zero).kind && decide (r2 = 2)) = true
  · rw [if_pos g2, if_pos g2]
  rw [if_neg g2] at h ⊢
  rw [if_neg g2]
  by_cases g3 : kright (fs.getD (fieldAt fs r1).toNat .zero).kind = false ∨ kwire (fs.getD (fieldAt fs r1).toNat .zero).kind ≠ r2
  · rw [if_pos g3] at h; simp at h
  · rw [if_neg g3, if_neg g3]
theorem vlook_bds {fs : List Fld} {l : List UInt8} {i : Nat} (h : (vlook fs l i).2.2.2 = 0) : (vlook fs l i).1.at' ≤ (vlook fs l i).1.to ∧ (vlook fs l i).1.to ≤ l.length := by
  rcases vlook_cases fs l i with ⟨c, hc, e, -⟩ | ⟨r, h1, h2, h3, h4, -, e | ⟨k, run, -, e, -⟩⟩
  · rw [e] at h; exact absurd h hc
  · rw [e]; exact ⟨h3, h4⟩
  · rw [e]; exact ⟨h3, h4⟩
theorem vval_code {rec : Nat → List UInt8 → Nat × Nat} {deep : Bool} {fs : List Fld} {l l' : List UInt8} {v v' : Rec × Int × Bool × Nat} (hk : v'.2.1 = v.2.1) (hr : v'.2.2.1 = v.2.2.1) (hp : part l' v'.1.at' v'.1.to = part l v.1.at' v.1.to) :
    (vval rec deep fs l' v').2 = (vval rec deep fs l v).2 := by
  unfold vval
  rw [hk, hr, hp]
  simp only
  repeat' split
  all_goals rfl
theorem vfrom_behind (s : List Mes) (d m : Nat) (p l : List UInt8) : ∀ (n i : Nat), l.length ≤ n + i → (vfrom s d m l i).2 = 0 → (vfrom s d m (p ++ l) (p.length + i)).2 = 0
  | 0, i, hn, _ => by rw [vfrom_at, if_pos (by rw [List.length_append]; omega)]
  | n + 1, i, hn, h => by
    rw [vfrom_at] at h ⊢
    by_cases hi : l.length ≤ i
    · rw [if_pos (by rw [List.length_append]; omega)]
    rw [if_neg hi] at h
    rw [if_neg (by rw [List.length_append]; omega)]
    by_cases hc : (vlook (s.getD m .zero).fields l i).2.2.2 = 0
    · rw [if_neg (by omega)] at h
      rw [vlook_shift _ p l hc]
      rw [if_neg (by simp)]
      have hv := vval_code (rec := vrec s d) (deep := decide (d = 0)) (fs := (s.getD m .zero).fields) (l := l) (l' := p ++ l) (v := vlook (s.getD m .zero).fields l i) (v' := (Rec.shift p.length (vlook (s.getD m .zero).fields l i).1, (vlook (s.getD m .zero).fields l i).2.1, (vlook (s.getD m .zero).fields l i).2.2.1, 0)) rfl rfl (part_shift p l _ _)
      by_cases hx : (vval (vrec s d) (decide (d = 0)) (s.getD m .zero).fields l (vlook (s.getD m .zero).fields l i)).2 = 0
      · rw [if_neg (by omega)] at h
        rw [hv, if_neg (by omega)]
        have hto := vlook_to _ _ _ hc
        exact vfrom_behind s d m p l n _ (by omega) h
      · rw [if_pos hx] at h; exact absurd h hx
    · rw [if_pos hc] at h; exact absurd h hc
theorem vfrom_ahead (s : List Mes) (d m : Nat) (p l : List UInt8) (hl : (vfrom s d m l 0).2 = 0) : ∀ (n i : Nat), p.length ≤ n + i → i ≤ p.length → (vfrom s d m p i).2 = 0 → (vfrom s d m (p ++ l) i).2 = 0
  | 0, i, hn, hi, _ => by
    obtain rfl : i = p.length := by omega
    have := vfrom_behind s d m p l l.length 0 (by omega) hl
    exact this
  | n + 1, i, hn, hi, h => by
    by_cases hi2 : p.length ≤ i
    · obtain rfl : i = p.length := by omega
      exact vfrom_behind s d m p l l.length 0 (by omega) hl
    rw [vfrom_at] at h ⊢
    rw [if_neg hi2] at h
    rw [if_neg (by rw [List.length_append]; omega)]
    by_cases hc : (vlook (s.getD m .zero).fields p i).2.2.2 = 0
    · rw [if_neg (by omega)] at h
      rw [vlook_app _ l hc]
      rw [if_neg (by omega)]
      have hb := vlook_bds hc
      have hv := vval_code (rec := vrec s d) (deep := decide (d = 0)) (fs := (s.getD m .zero).fields) (l := p) (l' := p ++ l) (v := vlook (s.getD m .zero).fields p i) (v' := vlook (s.getD m .zero).fields p i) rfl rfl (part_app l hb.2 hb.1)
      by_cases hx : (vval (vrec s d) (decide (d = 0)) (s.getD m .zero).fields p (vlook (s.getD m .zero).fields p i)).2 = 0
      · rw [if_neg (by omega)] at h
        rw [hv, if_neg (by omega)]
        have hto := vlook_to _ _ _ hc
        exact vfrom_ahead s d m p l hl n _ (by omega) hto.2 h
      · rw [if_pos hx] at h; exact absurd h hx
    · rw [if_pos hc] at h; exact absurd h hc
theorem vmsg_app {s : List Mes} {d m : Nat} {p l : List UInt8} (hp : (vmsg s d m p).2 = 0) (hl : (vmsg s d m l).2 = 0) : (vmsg s d m (p ++ l)).2 = 0 := by
  rw [vmsg_from] at *
  exact vfrom_ahead s d m p l hl p.length 0 (by omega) (by omega) hp
theorem vmsg_nil (s : List Mes) (d m : Nat) : (vmsg s d m []).2 = 0 := by
  rw [vmsg_from, vfrom_at, if_pos (by simp)]
theorem vmsg_flat {s : List Mes} {d m : Nat} : ∀ {ls : List (List UInt8)}, (∀ l ∈ ls, (vmsg s d m l).2 = 0) → (vmsg s d m ls.flatten).2 = 0
  | [], _ => vmsg_nil s d m
  | l :: r, h => by
    rw [List.flatten_cons]
    exact vmsg_app (h l (by simp)) (vmsg_flat fun x hx => h x (by simp [hx]))
end Go.Proofs.YtbdeclkccchnoaaGreat
namespace Go.Proofs.YtbdeclkccchnoaaGreat
open Go.RowKit
theorem kcanon_idem (k : Int) (x : Nat) : kcanon k (kcanon k x) = kcanon k x := by
  unfold kcanon
  by_cases h1 : k = 1 ∨ k = 8
  · rw [if_pos h1, if_pos h1]; unfold w32; (repeat' split) <;> omega
  rw [if_neg h1, if_neg h1]
  by_cases h2 : k = 7
  · rw [if_pos h2, if_pos h2]; (repeat' split) <;> omega
  rw [if_neg h2, if_neg h2]
  by_cases h3 : k = 3 ∨ k = 5 ∨ k = 9 ∨ k = 10 ∨ k = 11
  · rw [if_pos h3, if_pos h3]; omega
  rw [if_neg h3, if_neg h3]
end Go.Proofs.YtbdeclkccchnoaaGreat
namespace Go.Proofs.YtbdeclkccchnoaaGreat
open Go.RowKit
theorem counts_sub {α : Type} (f : Fld) (l : List α) {x : α} (h : x ∈ counts f l) : x ∈ l := by
  unfold counts at h
  split at h
  · exact h
  · exact lastOf_sub l h
theorem flat_nil {α β : Type} (g : α → List β) (l : List α) (h : ∀ x ∈ l, g x = []) : l.flatMap g = [] := by
  rw [List.flatMap_eq_nil_iff]; exact h
structure FieldRecs (R : Int → List UInt8 → Prop) (f : Fld) (l : List UInt8) (xs : List VW) : Prop where
  kind : kright f.kind = true
  run : ∀ x ∈ xs, x.run = true → f.rep = true ∧ knumber f.kind = true
  text : f.kind = 15 → ∀ x ∈ xs, ufirst (vbytes l x) = (vbytes l x).length
  sub : f.kind = 17 → (∀ x ∈ xs, R f.of (vbytes l x)) ∧ (f.rep = false → xs ≠ [] → R f.of (xs.flatMap (vbytes l)))
end Go.Proofs.YtbdeclkccchnoaaGreat
