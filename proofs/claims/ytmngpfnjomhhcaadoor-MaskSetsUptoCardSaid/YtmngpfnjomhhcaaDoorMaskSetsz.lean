/- darninglaw13.MaskSets returns true, and each argument reads behind the call as before it, where what it reads is of bulk at most 1048576: the card of the second form. Condition: that bulk. -/
import Derived.Test.YtmngpfnjomhhcaaDoorCards
import Derived.Test.YtmngpfnjomhhcaaDoorTie
import Derived.Test.YtmngpfnjomhhcaaDoorZ12
import Derived.Test.YtmngpfnjomhhcaaDoorZ13
import Derived.ProofKit
import Derived.ChangeMaps5
import Derived.OpenShut
import Derived.Deep.DeepHandedRow
import Derived.Lib.LaidTab
namespace Go.Proofs.YtmngpfnjomhhcaaDoor
open Go.ChangeShapes Go.WideShapes Go.ChangeAt Go.RowKit Go.ChangeMaps
theorem row_knob : ownKnob Tryd.prog.godebug = none := by kernel_rfl
theorem row_laidOut : laidOutB Tryd.prog = true := by kernel_rfl
theorem row_bound {H : Type} {l : List (DataW H)} (hk : Rows.uptoSmall H l = true) : Rows.uptoBulkAll l ≤ 1048576 := of_decide_eq_true hk
/-- a block's cells, laid anew -/
def layCells (cs : Array Value) : Obj → Obj
  | .cells _ t frozen => .cells cs t frozen
  | o => o
/-- the settled world, Go's two tables laid -/
noncomputable def laidWorld (os : Os) : World :=
  { World.holding Tryd.prog os ⟨#[], #[], []⟩ with heap := ((World.holding Tryd.prog os ⟨#[], #[], []⟩).heap.modify 0 (layCells (Go.Pinned.utf8FirstZ.map fun (n : Nat) => Value.int .u8 n).toArray)).modify 1 (layCells #[.int .u8 128, .int .u8 191, .int .u8 160, .int .u8 191, .int .u8 128, .int .u8 159, .int .u8 144, .int .u8 191, .int .u8 128, .int .u8 143, .int .u8 0, .int .u8 0, .int .u8 0, .int .u8 0, .int .u8 0, .int .u8 0, .int .u8 0, .int .u8 0, .int .u8 0, .int .u8 0, .int .u8 0, .int .u8 0, .int .u8 0, .int .u8 0, .int .u8 0, .int .u8 0, .int .u8 0, .int .u8 0, .int .u8 0, .int .u8 0, .int .u8 0, .int .u8 0]) }
set_option maxRecDepth 100000 in
theorem laid_met (os : Os) : laidMet Tryd.prog Rows.maskSetsUptoRow.laid ((laidWorld os).forCall (fun _ _ => 0) ⟨#[], #[.slice none 0 0, .slice none 0 0, .slice none 0 0], []⟩).memory :=
  laidMet_of_run' 8 (by kernel_rfl) (by kernel_rfl)
theorem row_reads (os : Os) {H : Type} (enc : TypeId × Value → H) : ∃ places, DataW.whole enc Tryd.prog ((laidWorld os).forCall (fun _ _ => 0) ⟨#[], #[.slice none 0 0, .slice none 0 0, .slice none 0 0], []⟩).memory Tryd.f3.params.toList Rows.maskSetsSpec.vars false #[Value.slice none 0 0, Value.slice none 0 0, Value.slice none 0 0].toList 8 = some ([.nil, .nil, .nil], [], places) :=
  ⟨[], by kernel_rfl⟩
set_option maxRecDepth 100000 in
theorem row_lifted (os : Os) (started : os.Started) (H : Type) (enc : TypeId × Value → H) (F : Stop.Interp) :
    ReturnsInHanded {} Tryd.checked os 3 .any ((Rows.OpenSpec.upto Rows.maskSetsSpec).preRow enc Tryd.prog Tryd.f3 Rows.maskSetsUptoRow.domain false Rows.maskSetsUptoRow.laid) (((Rows.OpenSpec.upto Rows.maskSetsSpec).at F).post enc Tryd.prog Tryd.f3 false true false false) := by
  obtain ⟨places, hx⟩ := row_reads os enc
  refine returnsInHanded_of_row (C := Tryd.checked) (s := Rows.OpenSpec.upto Rows.maskSetsSpec) row_knob started (by kernel_rfl) Tryd.func3
    (witness_row_at (enc := enc) (C := Tryd.checked) false (laidWorld os) #[.slice none 0 0, .slice none 0 0, .slice none 0 0] rfl (by kernel_rfl) (by kernel_rfl) (by kernel_rfl)
      (OpenSpec.preRow_of_cond 8 hx (by kernel_rfl) (fun k hk => by cases hk; kernel_rfl) (by kernel_rfl) (laid_met os))) ?_
  intro W base args ds gs before hval0 hW _ hcond hsz0 _ _ _
  have hk : Rows.uptoSmall H (ds ++ gs) = true := hcond _ rfl
  have hsz : (DataW.weightsEach Tryd.prog (Tryd.f3.params.toList ++ Rows.maskSetsSpec.plain.varTypes Tryd.prog) (ds ++ gs)).all (· ≤ reachBytes) = true := hsz0
  clear hsz0
  have hval : ∀ (j : Nat) t v, Tryd.f3.params[j]? = some t → args[j]? = some v → Value.okWide Tryd.prog W .any base t v := hval0
  have hW' := hW
  obtain ⟨p, q, hA0, hV, rfl, _, _⟩ := hW
  have hA : DataW.TrodAll enc Tryd.prog W 0 (fun _ => true) true Tryd.f3.params.toList args.toList ds p := hA0
  rw [Tryd.params3] at hA hval hsz
  obtain ⟨v0, vs0, d0, ds0, p0, q0, hargs, rfl, rfl, h0, r0⟩ := trodAll_cons hA
  obtain ⟨v1, vs1, d1, ds1, p1, q1, rfl, rfl, rfl, h1, r1⟩ := trodAll_cons r0
  obtain ⟨v2, vs2, d2, ds2, p2, q2, rfl, rfl, rfl, h2, r2⟩ := trodAll_cons r1
  obtain ⟨rfl, rfl, rfl⟩ := trodAll_nil r2
  obtain rfl : args = #[v0, v1, v2] := by cases args; simp_all
  obtain ⟨rfl, rfl⟩ := trodVars_none hV
  clear hA0 hval0
  simp only [List.append_nil] at hW' hsz hk
  have hbk := row_bound hk
  simp only [Rows.uptoBulkAll] at hbk
  have L0 : Light Tryd.prog 22 d0 := light_arg hsz (j := 0) rfl rfl
  have L1 : Light Tryd.prog 22 d1 := light_arg hsz (j := 1) rfl rfl
  have L2 : Light Tryd.prog 23 d2 := light_arg hsz (j := 2) rfl rfl
  obtain ⟨a0, n0, c0, rfl⟩ := okWide_slice Tryd.underlying22 (hval 0 22 v0 rfl rfl)
  obtain ⟨a1, n1, c1, rfl⟩ := okWide_slice Tryd.underlying22 (hval 1 22 v1 rfl rfl)
  obtain ⟨a2, n2, c2, rfl⟩ := okWide_slice Tryd.underlying23 (hval 2 23 v2 rfl rfl)
  obtain ⟨l0, hs0, hw0⟩ := ways_of_trod ⟨_, _, _, rfl⟩ h0 L0
  obtain ⟨l1, hs1, hw1⟩ := ways_of_trod ⟨_, _, _, rfl⟩ h1 L1
  obtain ⟨l2, hs2, hw2⟩ := ints_of_trod ⟨_, _, _, rfl⟩ h2 L2
  have hlt : ∀ y ∈ p0 ++ (p1 ++ (p2 ++ [])), y.block < W.heap.size := fun y hy => hW'.lt y (by simpa using hy)
  have hrun := law13_MaskSets (w := W) hs0 hs1 hs2 (fun l hl => by have := (sum_light l0).2 l hl; omega) (light_of_bulk (by omega)) (light_of_bulk (by omega)) (by have := (sum_light l0).1; have := (sum_light l1).1; omega)
  refine hrun.mono fun e W' ⟨he, hb⟩ => ?_
  subst he
  refine ⟨_, rfl, _, _, _, [], p0 ++ (p1 ++ (p2 ++ [])), [], hW', trodAll_mk1 (shut_bool Tryd.underlying4 _), ?_, rfl, hb.frame _, fun h => by cases h⟩
  exact trodAll_cons_mk (Below.trod row_laidOut (by kernel_rfl) (of_decide_eq_true (by kernel_rfl)) h0 hb (fun y hy => hlt y (by simp [hy]))) (trodAll_cons_mk (Below.trod row_laidOut (by kernel_rfl) (of_decide_eq_true (by kernel_rfl)) h1 hb (fun y hy => hlt y (by simp [hy]))) (trodAll_cons_mk (Below.trod row_laidOut (by kernel_rfl) (of_decide_eq_true (by kernel_rfl)) h2 hb (fun y hy => hlt y (by simp [hy]))) trodAll_mk0))
theorem maskSets_upto : Rows.MaskSetsUptoSaid :=
  OpenClaim.holds_of_cond 3 Tryd.f3 rfl rfl rfl rfl rfl rfl rfl ⟨rfl, rfl, rfl, rfl, rfl⟩ rfl rfl rfl rfl rfl (by kernel_rfl) Tryd.func3 (by kernel_rfl)
    (of_decide_eq_true (by kernel_rfl)) (by unfold Func.isWrapper; first | (rw [if_pos (by decide +kernel)]; kernel_rfl) | (rw [if_neg (by decide +kernel)]; exact ⟨rfl, rfl⟩))
    (fun os started H enc _ F => by rw [OpenClaim.pre_eq_preRow]; exact row_lifted os started H enc F)
/-- No parameter wants a stand-in; the program's own looks are off. -/
theorem row_plain (f : FuncId) (fn : Func) (hf : Tryd.pinned.checked.prog.funcNamed "darning/darninglaw13.MaskSets" = some f) (hfn : Tryd.pinned.checked.prog.funcs[f]? = some fn) :
    false = Tryd.pinned.checked.prog.looks [] ∧ ∀ (j : Nat) t, fn.params[j]? = some t → Tryd.pinned.checked.prog.wantsStandIn t = false := by
  obtain rfl : f = 3 := Option.some.inj ((show Tryd.prog.funcNamed "darning/darninglaw13.MaskSets" = some 3 by kernel_rfl).symm.trans hf) |>.symm
  obtain rfl : fn = Tryd.f3 := (Option.some.inj (Tryd.func3.symm.trans hfn)).symm
  refine ⟨by kernel_rfl, fun j t ht => ?_⟩
  rw [Tryd.params3] at ht
  have hm := Array.mem_of_getElem? ht
  simp only [List.mem_toArray, List.mem_cons, List.mem_nil_iff, or_false] at hm
  rcases hm with rfl | rfl | rfl
  · exact (show Tryd.prog.wantsStandIn 22 = false by kernel_rfl)
  · exact (show Tryd.prog.wantsStandIn 22 = false by kernel_rfl)
  · exact (show Tryd.prog.wantsStandIn 23 = false by kernel_rfl)
theorem maskSets_holds : Rows.MaskSetsUptoCardSaid :=
  Claim7.holds_tied_plain_at .later [] _ _ _ _ maskSets_upto (fun _ h => by cases h) (by kernel_rfl) (fun _ h => by cases h) maskSetsUpto_row_tie rfl ⟨rfl, rfl⟩ (by kernel_rfl) rfl row_plain (by kernel_rfl)
end Go.Proofs.YtmngpfnjomhhcaaDoor
