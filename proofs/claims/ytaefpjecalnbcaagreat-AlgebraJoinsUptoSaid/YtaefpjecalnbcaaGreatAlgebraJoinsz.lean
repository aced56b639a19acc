/- darninglaw15.AlgebraJoins returns true, and each argument reads behind the call as before it, where what it reads is of bulk at most 1048576. Condition: that bulk. -/
import Derived.Test.YtaefpjecalnbcaaGreatRows
import Derived.Test.YtaefpjecalnbcaaGreatZ08
import Derived.Test.YtaefpjecalnbcaaGreatZ10
import Derived.Test.YtaefpjecalnbcaaGreatZ12
import Derived.Test.YtaefpjecalnbcaaGreatZ44
import Derived.ProofKit
import Derived.ChangeMaps5
import Derived.OpenShut
import Derived.Deep.DeepHandedRow
import Derived.Lib.LaidTab
namespace Go.Proofs.YtaefpjecalnbcaaGreat
open Go.ChangeShapes Go.WideShapes Go.ChangeAt Go.RowKit Go.ChangeMaps
theorem row_knob : ownKnob Tryz.prog.godebug = none := by kernel_rfl
theorem row_laidOut : laidOutB Tryz.prog = true := by kernel_rfl
theorem row_bound {H : Type} {l : List (DataW H)} (hk : Rows.uptoSmall H l = true) : Rows.uptoBulkAll l ≤ 1048576 := of_decide_eq_true hk
noncomputable def laidWorld (os : Os) : World := World.holding Tryz.prog os ⟨#[], #[], []⟩
theorem laid_met (os : Os) : laidMet Tryz.prog Rows.algebraJoinsUptoRow.laid ((laidWorld os).forCall (fun _ _ => 0) ⟨#[], #[.slice none 0 0, .int .i64 0, .agg #[.slice none 0 0, .slice none 0 0], .agg #[.slice none 0 0, .slice none 0 0]], []⟩).memory :=
  laidMet_of_run' 8 (by kernel_rfl) (by kernel_rfl)
theorem row_reads (os : Os) {H : Type} (enc : TypeId × Value → H) : ∃ places, DataW.whole enc Tryz.prog ((laidWorld os).forCall (fun _ _ => 0) ⟨#[], #[.slice none 0 0, .int .i64 0, .agg #[.slice none 0 0, .slice none 0 0], .agg #[.slice none 0 0, .slice none 0 0]], []⟩).memory Tryz.f4.params.toList Rows.algebraJoinsSpec.vars false #[Value.slice none 0 0, Value.int .i64 0, Value.agg #[.slice none 0 0, .slice none 0 0], Value.agg #[.slice none 0 0, .slice none 0 0]].toList 8 = some ([.nil, .lit (.int .i64 0), .agg [.nil, .nil], .agg [.nil, .nil]], [], places) :=
  ⟨[], by kernel_rfl⟩
set_option maxRecDepth 100000 in
theorem row_lifted (os : Os) (started : os.Started) (H : Type) (enc : TypeId × Value → H) (F : Stop.Interp) :
    ReturnsInHanded {} Tryz.checked os 4 .any ((Rows.OpenSpec.upto Rows.algebraJoinsSpec).preRow enc Tryz.prog Tryz.f4 Rows.algebraJoinsUptoRow.domain false Rows.algebraJoinsUptoRow.laid) (((Rows.OpenSpec.upto Rows.algebraJoinsSpec).at F).post enc Tryz.prog Tryz.f4 false true false false) := by
  obtain ⟨places, hx⟩ := row_reads os enc
  refine returnsInHanded_of_row (C := Tryz.checked) (s := Rows.OpenSpec.upto Rows.algebraJoinsSpec) row_knob started (by kernel_rfl) Tryz.func4
    (witness_row_at (enc := enc) (C := Tryz.checked) false (laidWorld os) #[.slice none 0 0, .int .i64 0, .agg #[.slice none 0 0, .slice none 0 0], .agg #[.slice none 0 0, .slice none 0 0]] rfl (by kernel_rfl) (by kernel_rfl) (by kernel_rfl)
      (OpenSpec.preRow_of_cond 8 hx (by kernel_rfl) (fun k hk => by cases hk; kernel_rfl) (by kernel_rfl) (laid_met os))) ?_
  intro W base args ds gs before hval0 hW _ hcond hsz0 _ _ _
  have hk : Rows.uptoSmall H (ds ++ gs) = true := hcond _ rfl
  have hsz : (DataW.weightsEach Tryz.prog (Tryz.f4.params.toList ++ Rows.algebraJoinsSpec.plain.varTypes Tryz.prog) (ds ++ gs)).all (· ≤ reachBytes) = true := hsz0
  clear hsz0
  have hval : ∀ (j : Nat) t v, Tryz.f4.params[j]? = some t → args[j]? = some v → Value.okWide Tryz.prog W .any base t v := hval0
  have hW' := hW
  obtain ⟨p, q, hA0, hV, rfl, _, _⟩ := hW
  have hA : DataW.TrodAll enc Tryz.prog W 0 (fun _ => true) true Tryz.f4.params.toList args.toList ds p := hA0
  rw [Tryz.params4] at hA hval hsz
  obtain ⟨v0, vs0, d0, ds0, p0, q0, hargs, rfl, rfl, h0, r0⟩ := trodAll_cons hA
  obtain ⟨v1, vs1, d1, ds1, p1, q1, rfl, rfl, rfl, h1, r1⟩ := trodAll_cons r0
  obtain ⟨v2, vs2, d2, ds2, p2, q2, rfl, rfl, rfl, h2, r2⟩ := trodAll_cons r1
  obtain ⟨v3, vs3, d3, ds3, p3, q3, rfl, rfl, rfl, h3, r3⟩ := trodAll_cons r2
  obtain ⟨rfl, rfl, rfl⟩ := trodAll_nil r3
  obtain rfl : args = #[v0, v1, v2, v3] := by cases args; simp_all
  obtain ⟨rfl, rfl⟩ := trodVars_none hV
  clear hA0 hval0
  simp only [List.append_nil] at hW' hsz hk
  have hbk := row_bound hk
  simp only [Rows.uptoBulkAll] at hbk
  have L0 : Light Tryz.prog 23 d0 := light_arg hsz (j := 0) rfl rfl
  have L2 : Light Tryz.prog 27 d2 := light_arg hsz (j := 2) rfl rfl
  have L3 : Light Tryz.prog 27 d3 := light_arg hsz (j := 3) rfl rfl
  obtain ⟨a0, n0, c0, rfl⟩ := okWide_slice Tryz.underlying23 (hval 0 23 v0 rfl rfl)
  obtain ⟨x1, rfl, rfl, rfl, hx1⟩ := open_int Tryz.underlying3 (hval 1 3 v1 rfl rfl) h1
  obtain ⟨cs2, rfl, -⟩ := okWide_struct Tryz.underlying27 (hval 2 27 v2 rfl rfl)
  obtain ⟨cs3, rfl, -⟩ := okWide_struct Tryz.underlying27 (hval 3 27 v3 rfl rfl)
  obtain ⟨s0, hs0⟩ := schema_of_trod ⟨_, _, _, rfl⟩ h0 L0
  have hg2 := h2
  obtain ⟨fuel2, hh2⟩ := hg2
  obtain ⟨-, l2, hm2, hw2⟩ := msg_read (Rows.uptoBulk d2 + Rows.uptoBulk d3) fuel2 _ _ _ hh2 L2 (by omega)
  have hs2 : MsgAt (Rows.uptoBulk d2 + Rows.uptoBulk d3) W (.agg cs2) l2 := by simpa [Value.cells] using hm2
  have hg3 := h3
  obtain ⟨fuel3, hh3⟩ := hg3
  obtain ⟨-, l3, hm3, hw3⟩ := msg_read (Rows.uptoBulk d2 + Rows.uptoBulk d3) fuel3 _ _ _ hh3 L3 (by omega)
  have hs3 : MsgAt (Rows.uptoBulk d2 + Rows.uptoBulk d3) W (.agg cs3) l3 := by simpa [Value.cells] using hm3
  have hlt : ∀ y ∈ p0 ++ ([] ++ (p2 ++ (p3 ++ []))), y.block < W.heap.size := fun y hy => hW'.lt y (by simpa using hy)
  have hrun := law15_AlgebraJoins' hs0 x1 hs2 hs3 (by omega) (by omega)
  refine hrun.mono fun e W' ⟨he, hb⟩ => ?_
  subst he
  refine ⟨_, rfl, _, _, _, [], p0 ++ ([] ++ (p2 ++ (p3 ++ []))), [], hW', trodAll_mk1 (shut_bool Tryz.underlying4 _), ?_, rfl, hb.frame _, fun h => by cases h⟩
  exact trodAll_cons_mk (Below.trod row_laidOut (by kernel_rfl) (of_decide_eq_true (by kernel_rfl)) h0 hb (fun y hy => hlt y (by simp [hy]))) (trodAll_cons_mk (shut_int Tryz.underlying3 hx1) (trodAll_cons_mk (Below.trod row_laidOut (by kernel_rfl) (of_decide_eq_true (by kernel_rfl)) h2 hb (fun y hy => hlt y (by simp [hy]))) (trodAll_cons_mk (Below.trod row_laidOut (by kernel_rfl) (of_decide_eq_true (by kernel_rfl)) h3 hb (fun y hy => hlt y (by simp [hy]))) trodAll_mk0)))
theorem algebraJoins_upto : Rows.AlgebraJoinsUptoSaid :=
  OpenClaim.holds_of_cond 4 Tryz.f4 rfl rfl rfl rfl rfl rfl rfl ⟨rfl, rfl, rfl, rfl, rfl⟩ rfl rfl rfl rfl rfl (by kernel_rfl) Tryz.func4 (by kernel_rfl)
    (of_decide_eq_true (by kernel_rfl)) (by unfold Func.isWrapper; first | (rw [if_pos (by decide +kernel)]; kernel_rfl) | (rw [if_neg (by decide +kernel)]; exact ⟨rfl, rfl⟩))
    (fun os started H enc _ F => by rw [OpenClaim.pre_eq_preRow]; exact row_lifted os started H enc F)
end Go.Proofs.YtaefpjecalnbcaaGreat
