/- darninglaw16.CanonJoins returns true, and each argument reads behind the call as before it, where what it reads is of bulk at most 1048576. Condition: that bulk. -/
import Derived.Test.YtbdeclkccchnoaaGreatRows
import Derived.Test.YtbdeclkccchnoaaGreatZ20
import Derived.Test.YtbdeclkccchnoaaGreatZ36
import Derived.Test.YtbdeclkccchnoaaGreatZ37
import Derived.OpenShut
import Derived.Deep.CondSized
namespace Go.Proofs.YtbdeclkccchnoaaGreat
open Go.ChangeShapes Go.WideShapes Go.ChangeAt Go.RowKit
theorem canon_knob : ownKnob Tryz.prog.godebug = none := by kernel_rfl
theorem canon_laid : laidOutB Tryz.prog = true := by kernel_rfl
theorem upto_bound {H : Type} {l : List (DataW H)} (hk : Rows.uptoSmall H l = true) : Rows.uptoBulkAll l ≤ 1048576 := of_decide_eq_true hk
set_option maxRecDepth 100000 in
theorem canonJoins_lifted (os : Os) (started : os.Started) (H : Type) (enc : TypeId × Value → H) (F : Stop.Interp) :
    ReturnsInHanded {} Tryz.checked os 3 .any ((Rows.OpenSpec.upto Rows.canonJoinsSpec).pre6 enc Tryz.prog Tryz.f3 Rows.canonJoinsUptoRow.domain false) (((Rows.OpenSpec.upto Rows.canonJoinsSpec).at F).post enc Tryz.prog Tryz.f3 false true false false) := by
  refine returnsInHanded_of_cond_sized (C := Tryz.checked) (s := Rows.OpenSpec.upto Rows.canonJoinsSpec) (k := Rows.uptoSmall) rfl canon_knob started (by kernel_rfl) Tryz.func3
    (OpenSpec.witness (enc := enc) (C := Tryz.checked) (s := Rows.OpenSpec.upto Rows.canonJoinsSpec) (k := Rows.uptoSmall) rfl false ⟨#[], #[.slice none 0 0, .int .i64 0, .agg #[.slice none 0 0, .slice none 0 0], .agg #[.slice none 0 0, .slice none 0 0]], []⟩ 8 (by kernel_rfl) (by kernel_rfl) (by kernel_rfl)
      (x := ([.nil, .lit (.int .i64 0), .agg [.nil, .nil], .agg [.nil, .nil]], [], [])) (by kernel_rfl) rfl (by kernel_rfl)) ?_
  intro W base args ds gs before hval0 hW _ hk hsz0 _
  have hsz : (DataW.weightsEach Tryz.prog (Tryz.f3.params.toList ++ Rows.canonJoinsSpec.plain.varTypes Tryz.prog) (ds ++ gs)).all (· ≤ reachBytes) = true := hsz0
  clear hsz0
  have hval : ∀ (j : Nat) t v, Tryz.f3.params[j]? = some t → args[j]? = some v → Value.okWide Tryz.prog W .any base t v := hval0
  have hW' := hW
  obtain ⟨p, q, hA0, hV, rfl, _, _⟩ := hW
  have hA : DataW.TrodAll enc Tryz.prog W 0 (fun _ => true) true Tryz.f3.params.toList args.toList ds p := hA0
  rw [Tryz.params3] at hA hval hsz
  obtain ⟨v0, vs0, d0, ds0, p0, q0, hargs, rfl, rfl, h0, r0⟩ := trodAll_cons hA
  obtain ⟨v1, vs1, d1, ds1, p1, q1, rfl, rfl, rfl, h1, r1⟩ := trodAll_cons r0
  obtain ⟨v2, vs2, d2, ds2, p2, q2, rfl, rfl, rfl, h2, r2⟩ := trodAll_cons r1
  obtain ⟨v3, vs3, d3, ds3, p3, q3, rfl, rfl, rfl, h3, r3⟩ := trodAll_cons r2
  obtain ⟨rfl, rfl, rfl⟩ := trodAll_nil r3
  obtain rfl : args = #[v0, v1, v2, v3] := by cases args; simp_all
  obtain ⟨rfl, rfl⟩ := trodVars_none hV
  clear hA0 hval0
  simp only [List.append_nil] at hW' hsz hk
  have hbk := upto_bound hk
  simp only [Rows.uptoBulkAll] at hbk
  have L0 : Light Tryz.prog 23 d0 := light_arg hsz (j := 0) rfl rfl
  have L2 : Light Tryz.prog 27 d2 := light_arg hsz (j := 2) rfl rfl
  have L3 : Light Tryz.prog 27 d3 := light_arg hsz (j := 3) rfl rfl
  obtain ⟨a0, n0, c0, rfl⟩ := okWide_slice Tryz.underlying23 (hval 0 23 v0 rfl rfl)
  obtain ⟨root, rfl, rfl, rfl, w1⟩ := open_int Tryz.underlying3 (hval 1 3 v1 rfl rfl) h1
  obtain ⟨cs, rfl, -⟩ := okWide_struct Tryz.underlying27 (hval 2 27 v2 rfl rfl)
  obtain ⟨cs3, rfl, -⟩ := okWide_struct Tryz.underlying27 (hval 3 27 v3 rfl rfl)
  obtain ⟨s, hs⟩ := schema_of_trod ⟨_, _, _, rfl⟩ h0 L0
  obtain ⟨fuel, h2'⟩ := h2
  obtain ⟨-, x, hx, hxw⟩ := msg_read (Rows.uptoBulk d2 + Rows.uptoBulk d3) fuel _ _ _ h2' L2 (by omega)
  have hx' : MsgAt (Rows.uptoBulk d2 + Rows.uptoBulk d3) W (.agg cs) x := by simpa [Value.cells] using hx
  obtain ⟨fuel3, h3'⟩ := h3
  obtain ⟨-, y, hy, hyw⟩ := msg_read (Rows.uptoBulk d2 + Rows.uptoBulk d3) fuel3 _ _ _ h3' L3 (by omega)
  have hy' : MsgAt (Rows.uptoBulk d2 + Rows.uptoBulk d3) W (.agg cs3) y := by simpa [Value.cells] using hy
  have hlt : ∀ y ∈ p0 ++ (p2 ++ p3), y.block < W.heap.size := fun y hy => hW'.lt y (by
    rcases List.mem_append.1 hy with h | h
    · simp [h]
    · rcases List.mem_append.1 h with h | h <;> simp [h])
  refine (law16_CanonJoins' (fun hr d' => tree_of hs hr d') hs root hx' hy' (by omega) (by omega)).mono fun e W' ⟨he, hb⟩ => ?_
  subst he
  refine ⟨_, rfl, _, _, _, [], p0 ++ ([] ++ (p2 ++ (p3 ++ []))), [], hW', trodAll_mk1 (shut_bool Tryz.underlying4 _), ?_, rfl, hb.frame _, fun h => by cases h⟩
  exact trodAll_cons_mk (Below.trod canon_laid (by kernel_rfl) (of_decide_eq_true (by kernel_rfl)) h0 hb (fun y hy => hlt y (by simp [hy])))
    (trodAll_cons_mk (shut_int Tryz.underlying3 w1)
      (trodAll_cons_mk (Below.trod canon_laid (by kernel_rfl) (of_decide_eq_true (by kernel_rfl)) ⟨fuel, h2'⟩ hb (fun y hy => hlt y (by simp [hy])))
        (trodAll_cons_mk (Below.trod canon_laid (by kernel_rfl) (of_decide_eq_true (by kernel_rfl)) ⟨fuel3, h3'⟩ hb (fun y hy => hlt y (by simp [hy]))) trodAll_mk0)))
theorem canonJoins_holds : Rows.CanonJoinsUptoSaid :=
  OpenClaim.holds_of_cond 3 Tryz.f3 rfl rfl rfl rfl rfl rfl rfl ⟨rfl, rfl, rfl, rfl, rfl⟩ rfl rfl rfl rfl rfl (by kernel_rfl) Tryz.func3 (by kernel_rfl)
    (of_decide_eq_true (by kernel_rfl)) (by unfold Func.isWrapper; rw [if_neg (of_decide_eq_false (by kernel_rfl))]; exact ⟨rfl, rfl⟩)
    (fun os started H enc _ F => canonJoins_lifted os started H enc F)
end Go.Proofs.YtbdeclkccchnoaaGreat
