/- darninglaw28.StatsOf returns true for every input, and each argument reads behind the call as before it. No condition. -/
import Derived.Test.YtphkmpnahnakaaaGreatRows
import Derived.Test.YtphkmpnahnakaaaGreatZ44
import Derived.Test.YtphkmpnahnakaaaGreatZ45
import Derived.OpenShut
namespace Go.Proofs.YtphkmpnahnakaaaGreat
open Go.ChangeShapes Go.WideShapes Go.ChangeAt Go.RowKit
theorem own_knob28o:ownKnob Tryz.prog.godebug = none:=by kernel_rfl
theorem laid_out28o:laidOutB Tryz.prog = true:=by kernel_rfl
set_option maxRecDepth 100000 in
theorem statsOf_lifted (os:Os) (started:os.Started) (H:Type) (enc:TypeId × Value → H) :
  ReturnsInHanded {} Tryz.checked os 3 .any (Rows.statsOfSpec.pre6 enc Tryz.prog Tryz.f3 Rows.statsOfRow.domain false) (Rows.statsOfSpec.post enc Tryz.prog Tryz.f3 false true false false):=by
 refine returnsInHanded_of_change_sized (C:=Tryz.checked) own_knob28o started (by kernel_rfl) Tryz.func3
  (ChangeSpec.witness6 (enc:=enc) (C:=Tryz.checked) false ⟨#[],#[.slice none 0 0,.int .i64 0,.slice none 0 0,.int .i64 0],[]⟩ 8 (by kernel_rfl) (by kernel_rfl) (by kernel_rfl) (by kernel_rfl)) ?_
 intro W base args ds gs before hval0 hW _ hsz0 _
 have hsz:(DataW.weightsEach Tryz.prog (Tryz.f3.params.toList ++ Rows.statsOfSpec.plain.varTypes Tryz.prog) (ds ++ gs)).all (· ≤ reachBytes) = true:=hsz0
 clear hsz0
 have hval:∀ (j:Nat) t v,Tryz.f3.params[j]? = some t → args[j]? = some v → Value.okWide Tryz.prog W .any base t v:=hval0
 have hW':=hW
 obtain ⟨p,q,hA0,hV,rfl,_,_⟩:=hW
 have hA:DataW.TrodAll enc Tryz.prog W 0 (fun _ => true) true Tryz.f3.params.toList args.toList ds p:=hA0
 rw [Tryz.params3] at hA hval hsz
 obtain ⟨v0,vs0,d0,ds0,p0,q0,hargs,rfl,rfl,h0,r0⟩:=trodAll_cons hA
 obtain ⟨v1,vs1,d1,ds1,p1,q1,rfl,rfl,rfl,h1,r1⟩:=trodAll_cons r0
 obtain ⟨v2,vs2,d2,ds2,p2,q2,rfl,rfl,rfl,h2,r2⟩:=trodAll_cons r1
 obtain ⟨v3,vs3,d3,ds3,p3,q3,rfl,rfl,rfl,h3,r3⟩:=trodAll_cons r2
 obtain ⟨rfl,rfl,rfl⟩:=trodAll_nil r3
 obtain rfl:args = #[v0,v1,v2,v3]:=by cases args;simp_all
 obtain ⟨rfl,rfl⟩:=trodVars_none hV
 clear hA0 hval0
 simp only [List.append_nil] at hW' hsz
 have L0:Light Tryz.prog 23 d0:=light_arg hsz (j:=0) rfl rfl
 have L2:Light Tryz.prog 24 d2:=light_arg hsz (j:=2) rfl rfl
 obtain ⟨a0,n0,c0,rfl⟩:=okWide_slice Tryz.underlying23 (hval 0 23 v0 rfl rfl)
 obtain ⟨root,rfl,rfl,rfl,w1⟩:=open_int Tryz.underlying3 (hval 1 3 v1 rfl rfl) h1
 obtain ⟨a2,n2,c2,rfl⟩:=okWide_slice Tryz.underlying24 (hval 2 24 v2 rfl rfl)
 obtain ⟨dep,rfl,rfl,rfl,w3⟩:=open_int Tryz.underlying3 (hval 3 3 v3 rfl rfl) h3
 obtain ⟨s,hs⟩:=schema_of_trod ⟨_,_,_,rfl⟩ h0 L0
 obtain ⟨l,hl⟩:=bytes_of_trod ⟨_,_,_,rfl⟩ h2 L2
 have hlt:∀ x ∈ p0 ++ p2,x.block < W.heap.size:=fun x hx => hW'.lt x (by
  rcases List.mem_append.1 hx with h | h <;> simp [h])
 refine (law28_StatsOf hs hl root dep).mono fun e W' ⟨he,hb⟩ => ?_
 subst he
 refine ⟨_,rfl,_,_,_,[],p0 ++ ([] ++ (p2 ++ ([] ++ []))),[],hW',trodAll_mk1 (shut_bool Tryz.underlying4 _),?_,rfl,hb.frame _,fun h => by cases h⟩
 exact trodAll_cons_mk (Below.trod laid_out28o (by kernel_rfl) (of_decide_eq_true (by kernel_rfl)) h0 hb (fun x hx => hlt x (by simp [hx])))
  (trodAll_cons_mk (shut_int Tryz.underlying3 w1)
   (trodAll_cons_mk (Below.trod laid_out28o (by kernel_rfl) (of_decide_eq_true (by kernel_rfl)) h2 hb (fun x hx => hlt x (by simp [hx])))
    (trodAll_cons_mk (shut_int Tryz.underlying3 w3) trodAll_mk0)))
theorem statsOf_holds:Rows.StatsOfSaid:=
 OpenClaim.holds_of_wide 3 Tryz.f3 rfl rfl rfl rfl rfl rfl rfl ⟨rfl,rfl,rfl,rfl,rfl⟩ rfl rfl rfl rfl rfl (by kernel_rfl) Tryz.func3 (by kernel_rfl)
  (of_decide_eq_true (by kernel_rfl)) (by unfold Func.isWrapper;rw [if_neg (of_decide_eq_false (by kernel_rfl))];exact ⟨rfl,rfl⟩)
  (fun os started H enc _ => statsOf_lifted os started H enc)
end Go.Proofs.YtphkmpnahnakaaaGreat
