/- darninglaw16.CanonValues returns true, and each argument reads behind the call as before it, where what it reads is of bulk at most 1048576. Condition: that bulk. -/
import Derived.Test.YtgephhmkaonahaaCanonEncodesz
namespace Go.Proofs.Ytgephhmkaonahaa
open Go.ChangeShapes Go.WideShapes Go.ChangeAt Go.RowKit

set_option maxRecDepth 100000 in
theorem canonValues_lifted (os : Os) (started : os.Started) (H : Type) (enc : TypeId × Value → H) (F : Stop.Interp) :
    ReturnsInHanded {} Try.checked os 5 .any ((Rows.OpenSpec.upto Rows.canonValuesSpec).pre6 enc Try.prog Try.f5 Rows.canonValuesUptoRow.domain false) (((Rows.OpenSpec.upto Rows.canonValuesSpec).at F).post enc Try.prog Try.f5 false true false false) := by
  refine returnsInHanded_of_cond_sized (C := Try.checked) (s := Rows.OpenSpec.upto Rows.canonValuesSpec) (k := Rows.uptoSmall) rfl canon_knob started (by kernel_rfl) Try.func5
    (OpenSpec.witness (enc := enc) (C := Try.checked) (s := Rows.OpenSpec.upto Rows.canonValuesSpec) (k := Rows.uptoSmall) rfl false ⟨#[], #[.slice none 0 0, .agg #[.string ⟨#[]⟩, .int .i64 0, .int .i64 0, .bool false, .bool false, .int .i64 0], .agg #[.int .i64 0, .slice none 0 0, .slice none 0 0, .slice none 0 0]], []⟩ 8 (by kernel_rfl) (by kernel_rfl) (by kernel_rfl)
      (x := ([.nil, .agg [.lit (.string []), .lit (.int .i64 0), .lit (.int .i64 0), .lit (.bool false), .lit (.bool false), .lit (.int .i64 0)], .agg [.lit (.int .i64 0), .nil, .nil, .nil]], [], [])) (by kernel_rfl) rfl (by kernel_rfl)) ?_
  intro W base args ds gs before hval0 hW _ hk hsz0 _
  have hsz : (DataW.weightsEach Try.prog (Try.f5.params.toList ++ Rows.canonValuesSpec.plain.varTypes Try.prog) (ds ++ gs)).all (· ≤ reachBytes) = true := hsz0
  clear hsz0
  have hval : ∀ (j : Nat) t v, Try.f5.params[j]? = some t → args[j]? = some v → Value.okWide Try.prog W .any base t v := hval0
  have hW' := hW
  obtain ⟨p, q, hA0, hV, rfl, _, _⟩ := hW
  have hA : DataW.TrodAll enc Try.prog W 0 (fun _ => true) true Try.f5.params.toList args.toList ds p := hA0
  rw [Try.params5] at hA hval hsz
  obtain ⟨v0, vs0, d0, ds0, p0, q0, hargs, rfl, rfl, h0, r0⟩ := trodAll_cons hA
  obtain ⟨v1, vs1, d1, ds1, p1, q1, rfl, rfl, rfl, h1, r1⟩ := trodAll_cons r0
  obtain ⟨v2, vs2, d2, ds2, p2, q2, rfl, rfl, rfl, h2, r2⟩ := trodAll_cons r1
  obtain ⟨rfl, rfl, rfl⟩ := trodAll_nil r2
  obtain rfl : args = #[v0, v1, v2] := by cases args; simp_all
  obtain ⟨rfl, rfl⟩ := trodVars_none hV
  clear hA0 hval0
  simp only [List.append_nil] at hW' hsz hk
  have hbk := upto_bound hk
  simp only [Rows.uptoBulkAll] at hbk
  have L0 : Light Try.prog 25 d0 := light_arg hsz (j := 0) rfl rfl
  have L1 : Light Try.prog 58 d1 := light_arg hsz (j := 1) rfl rfl
  have L2 : Light Try.prog 62 d2 := light_arg hsz (j := 2) rfl rfl
  obtain ⟨a0, n0, c0, rfl⟩ := okWide_slice Try.underlying25 (hval 0 25 v0 rfl rfl)
  obtain ⟨fcs, rfl, -⟩ := okWide_struct Try.underlying58 (hval 1 58 v1 rfl rfl)
  obtain ⟨cs, rfl, -⟩ := okWide_struct Try.underlying62 (hval 2 62 v2 rfl rfl)
  obtain ⟨s, hs⟩ := schema_of_trod ⟨_, _, _, rfl⟩ h0 L0
  obtain ⟨fuel1, h1'⟩ := h1
  obtain ⟨f, hfo, hfc⟩ := fld_of_trod h1' L1
  have hfv : Value.agg fcs = f.val := by
    have : fcs.toList = f.cells := by simpa [Value.cells] using hfc
    rw [show fcs = f.cells.toArray by rw [← this]]
    rfl
  obtain ⟨fuel, h2'⟩ := h2
  obtain ⟨-, x, hx, hxw⟩ := val_read (msg_read (Rows.uptoBulk d2)) fuel _ _ _ h2' L2 (by omega)
  have hx' : ValAt (MsgAt (Rows.uptoBulk d2)) W (.agg cs) x := by simpa [Value.cells] using hx
  have hlt : ∀ y ∈ p0 ++ (p1 ++ p2), y.block < W.heap.size := fun y hy => hW'.lt y (by
    rcases List.mem_append.1 hy with h | h
    · simp [h]
    · rcases List.mem_append.1 h with h | h <;> simp [h])
  have hlaw := law16_CanonValues hs f hfo.number hx' (by omega)
  rw [← hfv] at hlaw
  refine hlaw.mono fun e W' ⟨he, hb⟩ => ?_
  subst he
  refine ⟨_, rfl, _, _, _, [], p0 ++ (p1 ++ (p2 ++ [])), [], hW', trodAll_mk1 (shut_bool Try.underlying4 _), ?_, rfl, hb.frame _, fun h => by cases h⟩
  exact trodAll_cons_mk (Below.trod canon_laid (by kernel_rfl) (of_decide_eq_true (by kernel_rfl)) h0 hb (fun y hy => hlt y (by simp [hy])))
    (trodAll_cons_mk (Below.trod canon_laid (by kernel_rfl) (of_decide_eq_true (by kernel_rfl)) ⟨fuel1, h1'⟩ hb (fun y hy => hlt y (by simp [hy])))
      (trodAll_cons_mk (Below.trod canon_laid (by kernel_rfl) (of_decide_eq_true (by kernel_rfl)) ⟨fuel, h2'⟩ hb (fun y hy => hlt y (by simp [hy]))) trodAll_mk0))

theorem canonValues_holds : Rows.CanonValuesUptoSaid :=
  OpenClaim.holds_of_cond 5 Try.f5 rfl rfl rfl rfl rfl rfl rfl ⟨rfl, rfl, rfl, rfl, rfl⟩ rfl rfl rfl rfl rfl (by kernel_rfl) Try.func5 (by kernel_rfl)
    (of_decide_eq_true (by kernel_rfl)) (by unfold Func.isWrapper; rw [if_neg (of_decide_eq_false (by kernel_rfl))]; exact ⟨rfl, rfl⟩)
    (fun os started H enc _ F => canonValues_lifted os started H enc F)

end Go.Proofs.Ytgephhmkaonahaa
