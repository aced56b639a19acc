/- darninglaw28.StatsAdds returns true for every input, and each argument reads behind the call as before it. No condition. -/
import Derived.Test.YtphkmpnahnakaaaRows
import Derived.Test.YtphkmpnahnakaaaZ26
import Derived.Test.YtphkmpnahnakaaaZ27
import Derived.OpenShut
namespace Go.Proofs.Ytphkmpnahnakaaa
open Go.ChangeShapes Go.WideShapes Go.ChangeAt Go.RowKit
theorem own_knob28 : ownKnob Try.prog.godebug = none := by kernel_rfl
theorem laid_out28 : laidOutB Try.prog = true := by kernel_rfl
set_option maxRecDepth 100000 in
theorem statsAdds_lifted (os : Os) (started : os.Started) (H : Type) (enc : TypeId × Value → H) :
    ReturnsInHanded {} Try.checked os 3 .any (Rows.statsAddsSpec.pre6 enc Try.prog Try.f3 Rows.statsAddsRow.domain false) (Rows.statsAddsSpec.post enc Try.prog Try.f3 false true false false) := by
  refine returnsInHanded_of_change_sized (C := Try.checked) own_knob28 started (by kernel_rfl) Try.func3
    (ChangeSpec.witness6 (enc := enc) (C := Try.checked) false ⟨#[], #[.slice none 0 0, .int .i64 0, .slice none 0 0, .slice none 0 0, .int .i64 0], []⟩ 8 (by kernel_rfl) (by kernel_rfl) (by kernel_rfl) (by kernel_rfl)) ?_
  intro W base args ds gs before hval0 hW _ hsz0 _
  have hsz : (DataW.weightsEach Try.prog (Try.f3.params.toList ++ Rows.statsAddsSpec.plain.varTypes Try.prog) (ds ++ gs)).all (· ≤ reachBytes) = true := hsz0
  clear hsz0
  have hval : ∀ (j : Nat) t v, Try.f3.params[j]? = some t → args[j]? = some v → Value.okWide Try.prog W .any base t v := hval0
  have hW' := hW
  obtain ⟨p, q, hA0, hV, rfl, _, _⟩ := hW
  have hA : DataW.TrodAll enc Try.prog W 0 (fun _ => true) true Try.f3.params.toList args.toList ds p := hA0
  rw [Try.params3] at hA hval hsz
  obtain ⟨v0, vs0, d0, ds0, p0, q0, hargs, rfl, rfl, h0, r0⟩ := trodAll_cons hA
  obtain ⟨v1, vs1, d1, ds1, p1, q1, rfl, rfl, rfl, h1, r1⟩ := trodAll_cons r0
  obtain ⟨v2, vs2, d2, ds2, p2, q2, rfl, rfl, rfl, h2, r2⟩ := trodAll_cons r1
  obtain ⟨v3, vs3, d3, ds3, p3, q3, rfl, rfl, rfl, h3, r3⟩ := trodAll_cons r2
  obtain ⟨v4, vs4, d4, ds4, p4, q4, rfl, rfl, rfl, h4, r4⟩ := trodAll_cons r3
  obtain ⟨rfl, rfl, rfl⟩ := trodAll_nil r4
  obtain rfl : args = #[v0, v1, v2, v3, v4] := by cases args; simp_all
  obtain ⟨rfl, rfl⟩ := trodVars_none hV
  clear hA0 hval0
  simp only [List.append_nil] at hW' hsz
  have L0 : Light Try.prog 23 d0 := light_arg hsz (j := 0) rfl rfl
  have L2 : Light Try.prog 24 d2 := light_arg hsz (j := 2) rfl rfl
  have L3 : Light Try.prog 24 d3 := light_arg hsz (j := 3) rfl rfl
  obtain ⟨a0, n0, c0, rfl⟩ := okWide_slice Try.underlying23 (hval 0 23 v0 rfl rfl)
  obtain ⟨root, rfl, rfl, rfl, w1⟩ := open_int Try.underlying3 (hval 1 3 v1 rfl rfl) h1
  obtain ⟨a2, n2, c2, rfl⟩ := okWide_slice Try.underlying24 (hval 2 24 v2 rfl rfl)
  obtain ⟨a3, n3, c3, rfl⟩ := okWide_slice Try.underlying24 (hval 3 24 v3 rfl rfl)
  obtain ⟨dep, rfl, rfl, rfl, w4⟩ := open_int Try.underlying3 (hval 4 3 v4 rfl rfl) h4
  obtain ⟨s, hs⟩ := schema_of_trod ⟨_, _, _, rfl⟩ h0 L0
  obtain ⟨l, hl⟩ := bytes_of_trod ⟨_, _, _, rfl⟩ h2 L2
  obtain ⟨l2, hl2⟩ := bytes_of_trod ⟨_, _, _, rfl⟩ h3 L3
  have hlt : ∀ x ∈ p0 ++ (p2 ++ p3), x.block < W.heap.size := fun x hx => hW'.lt x (by
    rcases List.mem_append.1 hx with h | h
    · simp [h]
    · rcases List.mem_append.1 h with h | h <;> simp [h])
  refine (law28_StatsAdds hs hl hl2 root dep).mono fun e W' ⟨he, hb⟩ => ?_
  subst he
  refine ⟨_, rfl, _, _, _, [], p0 ++ ([] ++ (p2 ++ (p3 ++ ([] ++ [])))), [], hW', trodAll_mk1 (shut_bool Try.underlying4 _), ?_, rfl, hb.frame _, fun h => by cases h⟩
  exact trodAll_cons_mk (Below.trod laid_out28 (by kernel_rfl) (of_decide_eq_true (by kernel_rfl)) h0 hb (fun x hx => hlt x (by simp [hx])))
    (trodAll_cons_mk (shut_int Try.underlying3 w1)
      (trodAll_cons_mk (Below.trod laid_out28 (by kernel_rfl) (of_decide_eq_true (by kernel_rfl)) h2 hb (fun x hx => hlt x (by simp [hx])))
        (trodAll_cons_mk (Below.trod laid_out28 (by kernel_rfl) (of_decide_eq_true (by kernel_rfl)) h3 hb (fun x hx => hlt x (by simp [hx])))
          (trodAll_cons_mk (shut_int Try.underlying3 w4) trodAll_mk0))))
theorem statsAdds_holds : Rows.StatsAddsSaid :=
  OpenClaim.holds_of_wide 3 Try.f3 rfl rfl rfl rfl rfl rfl rfl ⟨rfl, rfl, rfl, rfl, rfl⟩ rfl rfl rfl rfl rfl (by kernel_rfl) Try.func3 (by kernel_rfl)
    (of_decide_eq_true (by kernel_rfl)) (by unfold Func.isWrapper; rw [if_neg (of_decide_eq_false (by kernel_rfl))]; exact ⟨rfl, rfl⟩)
    (fun os started H enc _ => statsAdds_lifted os started H enc)
end Go.Proofs.Ytphkmpnahnakaaa
