/- append onto a row of the call's own, whatever is appended (a string's bytes too), as an equation of the run. No condition. run.Words: the words of a run (kwords), or its code. At most 2^40 bytes; the kind is a number's. -/
import Derived.Test.YtfimpmennkfjcaaGreatDoorZ01
import Derived.Test.YtfimpmennkfjcaaGreatDoorZ13
import Derived.Test.YtfimpmennkfjcaaGreatDoorZ16
import Derived.Test.YtfimpmennkfjcaaGreatDoorZ21
import Derived.Deep.AppendSrc
import Derived.Maps.AppendAt
import Derived.OwnWalk
import Derived.OwnWalkIn
import Derived.RangeFuncNested
import Derived.RangeFuncCalls
namespace Go.Proofs.YtfimpmennkfjcaaGreatDoor
open Go.RowKit
theorem wpListIn_append2_eq {F : Fence} {n : Nat} {P : Program} {w : World} {ops : Array Oper} {rest : List Oper} {o : Oper} {a : Act} {Q : Exit → Act → World → Prop} (hgd : o.guard = none) (s x : Operand) (t u : TypeId)
    (ho : o.op = .call { callee := .builtin .append, args := #[s, x], argTypes := #[t, u] }) (v xv : Value) (hs : a.eval s = v) (hx : a.eval x = xv) {v' : Value} {w' : World}
    (hr : (Builtin.append_ #[t, u] o.type #[v, xv]).run P w = .ok v' w') (h : wpListIn F n P ops Q rest (a.put o.dst v') w') : wpListIn F n P ops Q (o :: rest) a w := by
  refine wpListIn_plain hgd fun K hK => ?_
  unfold Oper.wpIn
  refine ⟨?_, ?_⟩
  · simp [Oper.about, ho, resolve, Target.leads, Sem.run_pure]
  · rw [Oper.semAt_plain F _ _ (by rw [ho]; intro c hc'; cases hc')]
    simp [execOp, ho, resolve, invoke, builtin, hs, hx, hr, Result.andThen]
    exact hK _ _ h
end Go.Proofs.YtfimpmennkfjcaaGreatDoor
namespace Go.Proofs.YtfimpmennkfjcaaGreatDoor
open Go.RowKit Go.Shelf
attribute [local go_sem] Oper.semAt_some
def kwords (k : Int) (l : List UInt8) : List Nat := (rpieces (kwire k) l).map fun x => (kread k x).1
/-- the words, the code -/
def runWords (k : Int) (l : List UInt8) : List Nat × Nat := if (runCount (kwire k) l).2 = 0 then (kwords k l, 0) else ([], (runCount (kwire k) l).2)
/-- A []uint64 of the call's own. -/
def WordsOwn (w : World) (base : Nat) (v : Value) (l : List Nat) : Prop := w.ownsRow base 86 1 v l.length (l.map wordV)
theorem info_u64 : (Tryz.prog.info? 86).map (fun i => (i.zero, i.size, i.bytes)) = some (some (.int .u64 0), 1, 8) := by kernel_rfl
theorem under_words : Tryz.prog.underlying 88 = some (.slice 86) := Tryz.underlying88
theorem WordsOwn.form {w : World} {base : Nat} {v : Value} {l : List Nat} (h : WordsOwn w base v l) : ∃ a c, v = .slice a l.length c := by
  rcases h.2 with ⟨h1, h2⟩ | ⟨g, cap, cur, hv, -⟩
  · exact ⟨none, 0, by rw [h1, h2]⟩
  · exact ⟨_, _, hv⟩
theorem WordsOwn.later {w w' : World} {base : Nat} {v : Value} {l : List Nat} (h : WordsOwn w base v l) (hb : Below w.heap.size w w') : WordsOwn w' base v l :=
  row_keep h fun b _ _ he => hb.block b (Array.getElem?_eq_some_iff.1 he).1
theorem WordsOwn.mono {W : World} {b b' : Nat} {v : Value} {l : List Nat} (h : WordsOwn W b v l) (hb : b' ≤ b) : WordsOwn W b' v l := by
  refine ⟨h.1, ?_⟩
  rcases h.2 with h2 | ⟨g, cap, cur, hv, hg, h3⟩
  · exact .inl h2
  · exact .inr ⟨g, cap, cur, hv, by omega, h3⟩
theorem WordsOwn.words {w : World} {base : Nat} {v : Value} {l : List Nat} (h : WordsOwn w base v l) (hn : l.length ≤ 140737488355328) (hl : ∀ x ∈ l, x < 2 ^ 64) : WordsAt w v l := ⟨row_seg h hn, hl⟩
theorem WordsOwn.one {W : World} {base : Nat} {v : Value} {l : List Nat} (h : WordsOwn W base v l) (y : Nat) (hn : l.length ≤ 1099511627776) (hB : base ≤ W.heap.size) :
    ∃ v' w', (Builtin.append_ #[88, 88] 88 #[v, .slice (some ⟨W.heap.size, 0, none⟩) 1 1]).run Tryz.prog (W.alloc (.cells #[.int .u64 (y : Int)] 86)) = .ok v' w' ∧ WordsOwn w' base v' (l ++ [y]) ∧ W.grownBy w' v.ownBlock := by
  have hA : Below W.heap.size W (W.alloc (.cells #[.int .u64 (y : Int)] 86)) := (Below.refl _ _).alloc (Nat.le_refl _) _
  have hx : Seg (W.alloc (.cells #[.int .u64 (y : Int)] 86)) (.slice (some ⟨W.heap.size, 0, none⟩) 1 1) 1 1 [.int .u64 (y : Int)] := seg_blk (Blk.new W [.int .u64 (y : Int)] _) 1 1 rfl (by omega)
  obtain ⟨v', w', h1, h2, h3, -⟩ := seg_append (P := Tryz.prog) _ base 88 88 86 (.int .u64 0) 1 8 under_words info_u64 rfl (by decide) v _ l.length 1 _ _ (h.later hA) hx (by intro u hu; simp at hu; subst hu; rfl) (by omega) (by omega) (by simp; omega)
  refine ⟨v', w', h1, ?_, ?_⟩
  · unfold WordsOwn
    rw [List.length_append, List.map_append]
    exact h2
  · refine ⟨h3.os, h3.tape, h3.output, Nat.le_trans (by simp) h3.size, fun k hk hr => (h3.block k (by simp; omega) hr).trans (Below.heap_alloc W _ k hk)⟩
/-- The boxes of words under way: k, results, the list, k, b (from block H on), the block of deferred calls, the loop's record. -/
structure WA (w : World) (k : Int) (rec : Loop) (code : Nat) (lv : Value) (ws : List Nat) (bv : Value) (W : World) : Prop where
  k0 : Blk W (w.heap.size) [.int .i64 k] 3
  r0 : Blk W (w.heap.size + 1) [.slice none 0 0] 88
  r1 : Blk W (w.heap.size + 1 + 1) [.int .u8 code] 29
  lb : Blk W (w.heap.size + 1 + 1 + 1) [lv] 88
  kb : Blk W (w.heap.size + 1 + 1 + 1 + 1) [.int .i64 k] 3
  bb : Blk W (w.heap.size + 1 + 1 + 1 + 1 + 1) [bv] 24
  D : W.heap[w.heap.size + 1 + 1 + 1 + 1 + 1 + 1]? = some (.deferred (some []))
  L : W.heap[w.heap.size + 1 + 1 + 1 + 1 + 1 + 1 + 1]? = some (.loop rec)
  own : WordsOwn W (w.heap.size + 1 + 1 + 1 + 1 + 1 + 1 + 1 + 1) lv ws
  B : Below w.heap.size w W
theorem heap_lt {W : World} {b : Nat} {o : Obj} (h : W.heap[b]? = some o) : b < W.heap.size := (Array.getElem?_eq_some_iff.1 h).1
theorem WA.below {w : World} {k : Int} {rec : Loop} {code : Nat} {lv : Value} {ws : List Nat} {bv : Value} {W W' : World} (h : WA w k rec code lv ws bv W) (hb : Below W.heap.size W W') : WA w k rec code lv ws bv W' :=
  ⟨h.k0.below hb, h.r0.below hb, h.r1.below hb, h.lb.below hb, h.kb.below hb, h.bb.below hb, (hb.block _ (heap_lt h.D)).trans h.D, (hb.block _ (heap_lt h.L)).trans h.L, h.own.later hb, h.B.trans (hb.mono h.B.size)⟩
theorem WA.put {w : World} {k : Int} {rec : Loop} {code : Nat} {lv : Value} {ws : List Nat} {bv : Value} {W : World} (h : WA w k rec code lv ws bv W) (rec' : Loop) :
    WA w k rec' code lv ws bv (W.putObj (w.heap.size + 1 + 1 + 1 + 1 + 1 + 1 + 1) (.loop rec')) :=
  ⟨h.k0.put _ (by omega), h.r0.put _ (by omega), h.r1.put _ (by omega), h.lb.put _ (by omega), h.kb.put _ (by omega), h.bb.put _ (by omega), (World.putObj_heap_other (by omega)).trans h.D,
    World.putObj_heap_same (heap_lt h.L), row_keep h.own (fun b _ hb _ => World.putObj_heap_other (by omega)), belowK_b (Nat.le_refl _) W _ _ _ (by omega) h.L rfl rfl |> fun hb => h.B.trans hb⟩
theorem WA.drew {w : World} {k : Int} {rec : Loop} {code : Nat} {lv : Value} {ws : List Nat} {bv : Value} {W : World} (h : WA w k rec code lv ws bv W) : WA w k rec code lv ws bv W.drew :=
  h.below (Below.refl W.heap.size W).drew
theorem cell_grown (W : World) (a : Addr) (v : Value) : W.grownBy (W.setCell a v) (some a.block) :=
  ⟨rfl, rfl, rfl, by simp, fun k _ hr => Below.heap_setCell W _ _ k (fun e => hr (by rw [e]))⟩
theorem WA.store {w : World} {k : Int} {rec : Loop} {code : Nat} {lv : Value} {ws : List Nat} {bv : Value} {W W' : World} (h : WA w k rec code lv ws bv W) {r : Nat} (hr : w.heap.size ≤ r) (hr2 : r < w.heap.size + 1 + 1 + 1 + 1 + 1 + 1) (hg : W.grownBy W' (some r))
    {code' : Nat} {lv' : Value} {bv' : Value} (h0 : Blk W' (w.heap.size) [.int .i64 k] 3) (h1 : Blk W' (w.heap.size + 1) [.slice none 0 0] 88) (h2 : Blk W' (w.heap.size + 1 + 1) [.int .u8 code'] 29) (h3 : Blk W' (w.heap.size + 1 + 1 + 1) [lv'] 88) (h4 : Blk W' (w.heap.size + 1 + 1 + 1 + 1) [.int .i64 k] 3) (h5 : Blk W' (w.heap.size + 1 + 1 + 1 + 1 + 1) [bv'] 24)
    {ws' : List Nat} (ho : WordsOwn W' (w.heap.size + 1 + 1 + 1 + 1 + 1 + 1 + 1 + 1) lv' ws') : WA w k rec code' lv' ws' bv' W' :=
  ⟨h0, h1, h2, h3, h4, h5, (hg.block _ (heap_lt h.D) (fun e => by cases e; omega)).trans h.D, (hg.block _ (heap_lt h.L) (fun e => by cases e; omega)).trans h.L, ho, h.B.grown hg h.B.size (fun q e => by cases e; exact hr)⟩
theorem WA.setB {w : World} {k : Int} {rec : Loop} {code : Nat} {lv : Value} {ws : List Nat} {bv : Value} {W : World} (h : WA w k rec code lv ws bv W) (c : Value) : WA w k rec code lv ws c (W.setCell ⟨w.heap.size + 1 + 1 + 1 + 1 + 1, 0, none⟩ (c)) :=
  h.store (r := w.heap.size + 1 + 1 + 1 + 1 + 1) (by omega) (by omega) (cell_grown W _ _) (h.k0.set_other _ _ (by first | (simp; done) | (simp; omega))) (h.r0.set_other _ _ (by first | (simp; done) | (simp; omega))) (h.r1.set_other _ _ (by first | (simp; done) | (simp; omega))) (h.lb.set_other _ _ (by first | (simp; done) | (simp; omega))) (h.kb.set_other _ _ (by first | (simp; done) | (simp; omega))) (by simpa using h.bb.set 0 (c))
    (row_keep h.own fun b _ hb _ => Below.heap_setCell W _ _ b (by simp; omega))
theorem WA.push {w : World} {k : Int} {rec : Loop} {code : Nat} {lv : Value} {ws : List Nat} {bv : Value} {W w' : World} (h : WA w k rec code lv ws bv W) (hg : W.grownBy w' lv.ownBlock) {lv' : Value} {ws' : List Nat} (ho : WordsOwn w' (w.heap.size + 1 + 1 + 1 + 1 + 1 + 1 + 1 + 1) lv' ws') :
    WA w k rec code lv' ws' bv (w'.setCell ⟨w.heap.size + 1 + 1 + 1, 0, none⟩ lv') ∧ Blk w' (w.heap.size + 1 + 1 + 1) [lv] 88 := by
  have hk : ∀ b o, W.heap[b]? = some o → b < w.heap.size + 1 + 1 + 1 + 1 + 1 + 1 + 1 + 1 → w'.heap[b]? = some o := fun b o hb hlt => by
    refine (hg.block b (heap_lt hb) fun e => ?_).trans hb
    have := (World.ownsRow.lt h.own b e.symm).1
    omega
  have b0 : Blk w' _ _ _ := hk _ _ h.k0 (by omega)
  have b1 : Blk w' _ _ _ := hk _ _ h.r0 (by omega)
  have b2 : Blk w' _ _ _ := hk _ _ h.r1 (by omega)
  have b3 : Blk w' _ _ _ := hk _ _ h.lb (by omega)
  have b4 : Blk w' _ _ _ := hk _ _ h.kb (by omega)
  have b5 : Blk w' _ _ _ := hk _ _ h.bb (by omega)
  have hB : Below w.heap.size w w' := h.B.grown hg h.B.size (fun q e => by have := (World.ownsRow.lt h.own q e).1; omega)
  refine ⟨⟨b0.set_other _ _ (by first | (simp; done) | (simp; omega)), b1.set_other _ _ (by first | (simp; done) | (simp; omega)), b2.set_other _ _ (by first | (simp; done) | (simp; omega)), by simpa using b3.set 0 lv', b4.set_other _ _ (by first | (simp; done) | (simp; omega)), b5.set_other _ _ (by first | (simp; done) | (simp; omega)),
    (Below.heap_setCell w' _ _ _ (by first | (simp; done) | (simp; omega))).trans (hk _ _ h.D (by omega)), (Below.heap_setCell w' _ _ _ (by first | (simp; done) | (simp; omega))).trans (hk _ _ h.L (by omega)), row_keep ho fun b _ hb _ => Below.heap_setCell w' _ _ b (by simp; omega), hB.setCell (by simp; omega) _⟩, b3⟩
end Go.Proofs.YtfimpmennkfjcaaGreatDoor
