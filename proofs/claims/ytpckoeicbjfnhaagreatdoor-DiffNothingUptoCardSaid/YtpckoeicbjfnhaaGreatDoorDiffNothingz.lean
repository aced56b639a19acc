/- darninglaw24.DiffNothing returns true, and each argument reads behind the call as before it, where what it reads is of bulk at most 1048576: the card of the second form. Condition: that bulk. -/
import Derived.Test.YtpckoeicbjfnhaaGreatDoorCards
import Derived.Test.YtpckoeicbjfnhaaGreatDoorTie
import Derived.Test.YtpckoeicbjfnhaaGreatDoorY47
import Derived.Test.YtpckoeicbjfnhaaGreatDoorY48
import Derived.ProofKit
import Derived.ChangeMaps5
import Derived.OpenShut
import Derived.Deep.DeepHandedRow
import Derived.Lib.LaidTab
namespace Go.Proofs.YtpckoeicbjfnhaaGreatDoor
set_option maxRecDepth 100000
set_option maxHeartbeats 16000000
section
open Go.ChangeShapes Go.WideShapes Go.ChangeAt Go.RowKit Go.ChangeMaps
theorem zs1:ownKnob Tryz.prog.godebug=none:=by kernel_rfl
theorem zgk:laidOutB Tryz.prog=true:=by kernel_rfl
theorem zr7 {H:Type}{l:List (DataW H)}(hk:Rows.uptoSmall H l=true):Rows.uptoBulkAll l≤1048576:=of_decide_eq_true hk
def zo4 (cs:Array Value):Obj→Obj
 | .cells _ t frozen=> .cells cs t frozen
 | o=>o
noncomputable def zjs (os:Os):World:=
 { World.holding Tryz.prog os ⟨#[],#[],[]⟩ with heap:=((World.holding Tryz.prog os ⟨#[],#[],[]⟩).heap.modify 1 (zo4 (Go.Pinned.utf8FirstZ.map fun (n:Nat)=>Value.int .u8 n).toArray)).modify 2 (zo4 #[.int .u8 128,.int .u8 191,.int .u8 160,.int .u8 191,.int .u8 128,.int .u8 159,.int .u8 144,.int .u8 191,.int .u8 128,.int .u8 143,.int .u8 0,.int .u8 0,.int .u8 0,.int .u8 0,.int .u8 0,.int .u8 0,.int .u8 0,.int .u8 0,.int .u8 0,.int .u8 0,.int .u8 0,.int .u8 0,.int .u8 0,.int .u8 0,.int .u8 0,.int .u8 0,.int .u8 0,.int .u8 0,.int .u8 0,.int .u8 0,.int .u8 0,.int .u8 0]) }
theorem zs2 (os:Os):laidMet Tryz.prog Rows.diffNothingUptoRow.laid ((zjs os).forCall (fun _ _=>0) ⟨#[],#[.slice none 0 0,.int .i64 0,.slice none 0 0,.slice none 0 0,.int .i64 0],[]⟩).memory:=
 laidMet_of_run' 8 (by kernel_rfl) (by kernel_rfl)
theorem zr8 (os:Os){H:Type}(enc:TypeId × Value→H):∃ places,DataW.whole enc Tryz.prog ((zjs os).forCall (fun _ _=>0) ⟨#[],#[.slice none 0 0,.int .i64 0,.slice none 0 0,.slice none 0 0,.int .i64 0],[]⟩).memory Tryz.f6.params.toList Rows.diffNothingSpec.vars false #[Value.slice none 0 0,Value.int .i64 0,Value.slice none 0 0,Value.slice none 0 0,Value.int .i64 0].toList 8=some ([.nil,.lit (.int .i64 0),.nil,.nil,.lit (.int .i64 0)],[],places):=
 ⟨[],by kernel_rfl⟩
theorem zqs (os:Os)(started:os.Started)(H:Type)(enc:TypeId × Value→H)(F:Stop.Interp) :
  ReturnsInHanded {} Tryz.checked os 6 .any ((Rows.OpenSpec.upto Rows.diffNothingSpec).preRow enc Tryz.prog Tryz.f6 Rows.diffNothingUptoRow.domain false Rows.diffNothingUptoRow.laid) (((Rows.OpenSpec.upto Rows.diffNothingSpec).at F).post enc Tryz.prog Tryz.f6 false true false false):=by
 obtain⟨places,hx⟩:=zr8 os enc
 refine returnsInHanded_of_row (C:=Tryz.checked) (s:=Rows.OpenSpec.upto Rows.diffNothingSpec) zs1 started (by kernel_rfl) Tryz.func6
  (witness_row_at (enc:=enc) (C:=Tryz.checked) false (zjs os) #[.slice none 0 0,.int .i64 0,.slice none 0 0,.slice none 0 0,.int .i64 0] rfl (by kernel_rfl) (by kernel_rfl) (by kernel_rfl)
   (OpenSpec.preRow_of_cond 8 hx (by kernel_rfl) (fun k hk=>by cases hk;kernel_rfl) (by kernel_rfl) (zs2 os))) ?_
 intro W base args ds gs before hval0 hW _ hcond hsz0 _ _ _
 have hk:Rows.uptoSmall H (ds++gs)=true:=hcond _ rfl
 have hsz:(DataW.weightsEach Tryz.prog (Tryz.f6.params.toList++Rows.diffNothingSpec.plain.varTypes Tryz.prog) (ds++gs)).all (· ≤ reachBytes)=true:=hsz0
 clear hsz0
 have hval:∀ (j:Nat) t v,Tryz.f6.params[j]?=some t→args[j]?=some v→Value.okWide Tryz.prog W .any base t v:=hval0
 have hW':=hW
 obtain⟨p,q,hA0,hV,rfl,_,_⟩:=hW
 have hA:DataW.TrodAll enc Tryz.prog W 0 (fun _=>true) true Tryz.f6.params.toList args.toList ds p:=hA0
 rw[Tryz.params6] at hA hval hsz
 obtain⟨v0,vs0,d0,ds0,p0,q0,hargs,rfl,rfl,h0,r0⟩:=trodAll_cons hA
 obtain⟨v1,vs1,d1,ds1,p1,q1,rfl,rfl,rfl,h1,r1⟩:=trodAll_cons r0
 obtain⟨v2,vs2,d2,ds2,p2,q2,rfl,rfl,rfl,h2,r2⟩:=trodAll_cons r1
 obtain⟨v3,vs3,d3,ds3,p3,q3,rfl,rfl,rfl,h3,r3⟩:=trodAll_cons r2
 obtain⟨v4,vs4,d4,ds4,p4,q4,rfl,rfl,rfl,h4,r4⟩:=trodAll_cons r3
 obtain⟨rfl,rfl,rfl⟩:=trodAll_nil r4
 obtain rfl:args= #[v0,v1,v2,v3,v4]:=by cases args;simp_all
 obtain⟨rfl,rfl⟩:=trodVars_none hV
 clear hA0 hval0
 simp only[List.append_nil] at hW' hsz hk
 have hbk:=zr7 hk
 simp only[Rows.uptoBulkAll] at hbk
 have L0:zgi Tryz.prog 23 d0:=zjp hsz (j:=0) rfl rfl
 have L2:zgi Tryz.prog 47 d2:=zjp hsz (j:=2) rfl rfl
 have L3:zgi Tryz.prog 47 d3:=zjp hsz (j:=3) rfl rfl
 obtain⟨a0,n0,c0,rfl⟩:=okWide_slice Tryz.underlying23 (hval 0 23 v0 rfl rfl)
 obtain⟨x1,rfl,rfl,rfl,hx1⟩:=open_int Tryz.underlying3 (hval 1 3 v1 rfl rfl) h1
 obtain⟨a2,n2,c2,rfl⟩:=okWide_slice Tryz.underlying47 (hval 2 47 v2 rfl rfl)
 obtain⟨a3,n3,c3,rfl⟩:=okWide_slice Tryz.underlying47 (hval 3 47 v3 rfl rfl)
 obtain⟨x4,rfl,rfl,rfl,hx4⟩:=open_int Tryz.underlying3 (hval 4 3 v4 rfl rfl) h4
 obtain⟨s0,hs0⟩:=zjM ⟨_,_,_,rfl⟩ h0 L0
 obtain⟨l2,hs2⟩:=zgR ⟨_,_,_,rfl⟩ h2 L2
 obtain⟨l3,hs3⟩:=zgR ⟨_,_,_,rfl⟩ h3 L3
 have hlt:∀ y∈p0++([]++(p2++(p3++([]++[])))),y.block<W.heap.size:=fun y hy=>hW'.lt y (by simpa using hy)
 have hrun:=zhr hs0 hs2 hs3 x1 x4
 refine hrun.mono fun e W' ⟨he,hb⟩=>?_
 subst he
 refine⟨_,rfl,_,_,_,[],p0++([]++(p2++(p3++([]++[])))),[],hW',trodAll_mk1 (shut_bool Tryz.underlying4 _),?_,rfl,hb.frame _,fun h=>by cases h⟩
 exact trodAll_cons_mk (Below.trod zgk (by kernel_rfl) (of_decide_eq_true (by kernel_rfl)) h0 hb (fun y hy=>hlt y (by simp[hy]))) (trodAll_cons_mk (shut_int Tryz.underlying3 hx1) (trodAll_cons_mk (Below.trod zgk (by kernel_rfl) (of_decide_eq_true (by kernel_rfl)) h2 hb (fun y hy=>hlt y (by simp[hy]))) (trodAll_cons_mk (Below.trod zgk (by kernel_rfl) (of_decide_eq_true (by kernel_rfl)) h3 hb (fun y hy=>hlt y (by simp[hy]))) (trodAll_cons_mk (shut_int Tryz.underlying3 hx4) trodAll_mk0))))
theorem zhV:Rows.DiffNothingUptoSaid:=
 OpenClaim.holds_of_cond 6 Tryz.f6 rfl rfl rfl rfl rfl rfl rfl ⟨rfl,rfl,rfl,rfl,rfl⟩ rfl rfl rfl rfl rfl (by kernel_rfl) Tryz.func6 (by kernel_rfl)
  (of_decide_eq_true (by kernel_rfl)) (by unfold Func.isWrapper;first|(rw[if_pos (by decide +kernel)];kernel_rfl)|(rw[if_neg (by decide +kernel)];exact⟨rfl,rfl⟩))
  (fun os started H enc _ F=>by rw[OpenClaim.pre_eq_preRow];exact zqs os started H enc F)
theorem zr9 (f : FuncId) (fn : Func) (hf : Tryz.pinned.checked.prog.funcNamed "darning/darninglaw24.DiffNothing" = some f) (hfn : Tryz.pinned.checked.prog.funcs[f]? = some fn) :
  false=Tryz.pinned.checked.prog.looks []∧∀ (j:Nat) t,fn.params[j]?=some t→Tryz.pinned.checked.prog.wantsStandIn t=false:=by
 obtain rfl : f = 6 := Option.some.inj ((show Tryz.prog.funcNamed "darning/darninglaw24.DiffNothing" = some 6 by kernel_rfl).symm.trans hf) |>.symm
 obtain rfl:fn=Tryz.f6:=(Option.some.inj (Tryz.func6.symm.trans hfn)).symm
 refine⟨by kernel_rfl,fun j t ht=>?_⟩
 rw[Tryz.params6] at ht
 have hm:=Array.mem_of_getElem? ht
 simp only[List.mem_toArray,List.mem_cons,List.mem_nil_iff,or_false] at hm
 rcases hm with rfl|rfl|rfl|rfl|rfl
 ·
  exact (show Tryz.prog.wantsStandIn 23=false by kernel_rfl)
 ·
  exact (show Tryz.prog.wantsStandIn 3=false by kernel_rfl)
 ·
  exact (show Tryz.prog.wantsStandIn 47=false by kernel_rfl)
 ·
  exact (show Tryz.prog.wantsStandIn 47=false by kernel_rfl)
 ·
  exact (show Tryz.prog.wantsStandIn 3=false by kernel_rfl)
theorem diffNothing_holds:Rows.DiffNothingUptoCardSaid:=
 Claim7.holds_tied_plain_at .later [] _ _ _ _ zhV (fun _ h=>by cases h) (by kernel_rfl) (fun _ h=>by cases h) diffNothingUpto_row_tie rfl ⟨rfl,rfl⟩ (by kernel_rfl) rfl zr9 (by kernel_rfl)
end
end Go.Proofs.YtpckoeicbjfnhaaGreatDoor
