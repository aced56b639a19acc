/- darninglaw15.AlgebraSets returns true, and each argument reads behind the call as it did before, where what it reads is of bulk at most 1048576. The row lists two of the language tables: no walk reads them; the witness holds them. The card: the row and its given tie. -/
import Derived.Test.YtdpnmdkbdibkpaaGreatDoorCards
import Derived.Test.YtdpnmdkbdibkpaaGreatDoorTie
import Derived.Test.YtdpnmdkbdibkpaaGreatDoorZ08
import Derived.Test.YtdpnmdkbdibkpaaGreatDoorZ10
import Derived.Test.YtdpnmdkbdibkpaaGreatDoorZ12
import Derived.Test.YtdpnmdkbdibkpaaGreatDoorZ44
import Derived.ProofKit
import Derived.ChangeMaps5
import Derived.OpenShut
import Derived.Deep.DeepHandedRow
import Derived.Lib.LaidTab
namespace Go.Proofs.YtdpnmdkbdibkpaaGreatDoor
set_option maxRecDepth 100000
set_option maxHeartbeats 16000000
section
open Go.ChangeShapes Go.WideShapes Go.ChangeAt Go.RowKit Go.ChangeMaps
theorem zps:ownKnob Tryz.prog.godebug=none:=by kernel_rfl
theorem zdZ:laidOutB Tryz.prog=true:=by kernel_rfl
theorem zoC {H:Type}{l:List (DataW H)}(hk:Rows.uptoSmall H l=true):Rows.uptoBulkAll l≤1048576:=of_decide_eq_true hk
def zlS (cs:Array Value):Obj→Obj
 | .cells _ t frozen=> .cells cs t frozen
 | o=>o
noncomputable def zhA (os:Os):World:=
 { World.holding Tryz.prog os ⟨#[],#[],[]⟩ with heap:=((World.holding Tryz.prog os ⟨#[],#[],[]⟩).heap.modify 1 (zlS (Go.Pinned.utf8FirstZ.map fun (n:Nat)=>Value.int .u8 n).toArray)).modify 2 (zlS #[.int .u8 128,.int .u8 191,.int .u8 160,.int .u8 191,.int .u8 128,.int .u8 159,.int .u8 144,.int .u8 191,.int .u8 128,.int .u8 143,.int .u8 0,.int .u8 0,.int .u8 0,.int .u8 0,.int .u8 0,.int .u8 0,.int .u8 0,.int .u8 0,.int .u8 0,.int .u8 0,.int .u8 0,.int .u8 0,.int .u8 0,.int .u8 0,.int .u8 0,.int .u8 0,.int .u8 0,.int .u8 0,.int .u8 0,.int .u8 0,.int .u8 0,.int .u8 0]) }
theorem zpt (os:Os):laidMet Tryz.prog Rows.algebraSetsUptoRow.laid ((zhA os).forCall (fun _ _=>0) ⟨#[],#[.slice none 0 0,.int .i64 0,.agg #[.slice none 0 0,.slice none 0 0],.slice none 0 0,.agg #[.int .i64 0,.slice none 0 0,.slice none 0 0,.slice none 0 0]],[]⟩).memory:=
 laidMet_of_run' 8 (by kernel_rfl) (by kernel_rfl)
theorem zoD (os:Os){H:Type}(enc:TypeId × Value→H):∃ places,DataW.whole enc Tryz.prog ((zhA os).forCall (fun _ _=>0) ⟨#[],#[.slice none 0 0,.int .i64 0,.agg #[.slice none 0 0,.slice none 0 0],.slice none 0 0,.agg #[.int .i64 0,.slice none 0 0,.slice none 0 0,.slice none 0 0]],[]⟩).memory Tryz.f3.params.toList Rows.algebraSetsSpec.vars false #[Value.slice none 0 0,Value.int .i64 0,Value.agg #[.slice none 0 0,.slice none 0 0],Value.slice none 0 0,Value.agg #[.int .i64 0,.slice none 0 0,.slice none 0 0,.slice none 0 0]].toList 8=some ([.nil,.lit (.int .i64 0),.agg [.nil,.nil],.nil,.agg [.lit (.int .i64 0),.nil,.nil,.nil]],[],places):=
 ⟨[],by kernel_rfl⟩
theorem zm0 (os:Os)(started:os.Started)(H:Type)(enc:TypeId × Value→H)(F:Stop.Interp) :
  ReturnsInHanded {} Tryz.checked os 3 .any ((Rows.OpenSpec.upto Rows.algebraSetsSpec).preRow enc Tryz.prog Tryz.f3 Rows.algebraSetsUptoRow.domain false Rows.algebraSetsUptoRow.laid) (((Rows.OpenSpec.upto Rows.algebraSetsSpec).at F).post enc Tryz.prog Tryz.f3 false true false false):=by
 obtain⟨places,hx⟩:=zoD os enc
 refine returnsInHanded_of_row (C:=Tryz.checked) (s:=Rows.OpenSpec.upto Rows.algebraSetsSpec) zps started (by kernel_rfl) Tryz.func3
  (witness_row_at (enc:=enc) (C:=Tryz.checked) false (zhA os) #[.slice none 0 0,.int .i64 0,.agg #[.slice none 0 0,.slice none 0 0],.slice none 0 0,.agg #[.int .i64 0,.slice none 0 0,.slice none 0 0,.slice none 0 0]] rfl (by kernel_rfl) (by kernel_rfl) (by kernel_rfl)
   (OpenSpec.preRow_of_cond 8 hx (by kernel_rfl) (fun k hk=>by cases hk;kernel_rfl) (by kernel_rfl) (zpt os))) ?_
 intro W base args ds gs before hval0 hW _ hcond hsz0 _ _ _
 have hk:Rows.uptoSmall H (ds++gs)=true:=hcond _ rfl
 have hsz:(DataW.weightsEach Tryz.prog (Tryz.f3.params.toList++Rows.algebraSetsSpec.plain.varTypes Tryz.prog) (ds++gs)).all (· ≤ reachBytes)=true:=hsz0
 clear hsz0
 have hval:∀ (j:Nat) t v,Tryz.f3.params[j]?=some t→args[j]?=some v→Value.okWide Tryz.prog W .any base t v:=hval0
 have hW':=hW
 obtain⟨p,q,hA0,hV,rfl,_,_⟩:=hW
 have hA:DataW.TrodAll enc Tryz.prog W 0 (fun _=>true) true Tryz.f3.params.toList args.toList ds p:=hA0
 rw[Tryz.params3] at hA hval hsz
 obtain⟨v0,vs0,d0,ds0,p0,q0,hargs,rfl,rfl,h0,r0⟩:=trodAll_cons hA
 obtain⟨v1,vs1,d1,ds1,p1,q1,rfl,rfl,rfl,h1,r1⟩:=trodAll_cons r0
 obtain⟨v2,vs2,d2,ds2,p2,q2,rfl,rfl,rfl,h2,r2⟩:=trodAll_cons r1
 obtain⟨v3,vs3,d3,ds3,p3,q3,rfl,rfl,rfl,h3,r3⟩:=trodAll_cons r2
 obtain⟨v4,vs4,d4,ds4,p4,q4,rfl,rfl,rfl,h4,r4⟩:=trodAll_cons r3
 obtain⟨rfl,rfl,rfl⟩:=trodAll_nil r4
 obtain rfl:args= #[v0,v1,v2,v3,v4]:=by cases args;simp_all
 obtain⟨rfl,rfl⟩:=trodVars_none hV
 clear hA0 hval0
 simp only[List.append_nil] at hW' hsz hk
 have hbk:=zoC hk
 simp only[Rows.uptoBulkAll] at hbk
 have L0:zcC Tryz.prog 23 d0:=ze3 hsz (j:=0) rfl rfl
 have L2:zcC Tryz.prog 27 d2:=ze3 hsz (j:=2) rfl rfl
 have L3:zcC Tryz.prog 28 d3:=ze3 hsz (j:=3) rfl rfl
 have L4:zcC Tryz.prog 32 d4:=ze3 hsz (j:=4) rfl rfl
 obtain⟨a0,n0,c0,rfl⟩:=okWide_slice Tryz.underlying23 (hval 0 23 v0 rfl rfl)
 obtain⟨x1,rfl,rfl,rfl,hx1⟩:=open_int Tryz.underlying3 (hval 1 3 v1 rfl rfl) h1
 obtain⟨cs2,rfl,-⟩:=okWide_struct Tryz.underlying27 (hval 2 27 v2 rfl rfl)
 obtain⟨a3,n3,c3,rfl⟩:=okWide_slice Tryz.underlying28 (hval 3 28 v3 rfl rfl)
 obtain⟨cs4,rfl,-⟩:=okWide_struct Tryz.underlying32 (hval 4 32 v4 rfl rfl)
 obtain⟨s0,hs0⟩:=zhE ⟨_,_,_,rfl⟩ h0 L0
 obtain⟨l3,hs3,hw3⟩:=zjH ⟨_,_,_,rfl⟩ h3 L3
 have hg2:=h2
 obtain⟨fuel2,hh2⟩:=hg2
 obtain⟨-,l2,hm2,hw2⟩:=ziC (Rows.uptoBulk d2+Rows.uptoBulk d4+l3.length) fuel2 _ _ _ hh2 L2 (by omega)
 have hs2:zac (Rows.uptoBulk d2+Rows.uptoBulk d4+l3.length) W (.agg cs2) l2:=by simpa [Value.cells] using hm2
 have hg4:=h4
 obtain⟨fuel4,hh4⟩:=hg4
 obtain⟨-,l4,hm4,hw4⟩:=zlo (ziC (Rows.uptoBulk d2+Rows.uptoBulk d4)) fuel4 _ _ _ hh4 L4 (by omega)
 have hs4:zat (zac (Rows.uptoBulk d2+Rows.uptoBulk d4)) W (.agg cs4) l4:=by simpa [Value.cells] using hm4
 have hlt:∀ y∈p0++([]++(p2++(p3++(p4++[])))),y.block<W.heap.size:=fun y hy=>hW'.lt y (by simpa using hy)
 have hrun:=zfo hs0 x1 hs2 hs3 hs4 (by omega) (by omega)
 refine hrun.mono fun e W' ⟨he,hb⟩=>?_
 subst he
 refine⟨_,rfl,_,_,_,[],p0++([]++(p2++(p3++(p4++[])))),[],hW',trodAll_mk1 (shut_bool Tryz.underlying4 _),?_,rfl,hb.frame _,fun h=>by cases h⟩
 exact trodAll_cons_mk (Below.trod zdZ (by kernel_rfl) (of_decide_eq_true (by kernel_rfl)) h0 hb (fun y hy=>hlt y (by simp[hy]))) (trodAll_cons_mk (shut_int Tryz.underlying3 hx1) (trodAll_cons_mk (Below.trod zdZ (by kernel_rfl) (of_decide_eq_true (by kernel_rfl)) h2 hb (fun y hy=>hlt y (by simp[hy]))) (trodAll_cons_mk (Below.trod zdZ (by kernel_rfl) (of_decide_eq_true (by kernel_rfl)) h3 hb (fun y hy=>hlt y (by simp[hy]))) (trodAll_cons_mk (Below.trod zdZ (by kernel_rfl) (of_decide_eq_true (by kernel_rfl)) h4 hb (fun y hy=>hlt y (by simp[hy]))) trodAll_mk0))))
theorem zgh:Rows.AlgebraSetsUptoSaid:=
 OpenClaim.holds_of_cond 3 Tryz.f3 rfl rfl rfl rfl rfl rfl rfl ⟨rfl,rfl,rfl,rfl,rfl⟩ rfl rfl rfl rfl rfl (by kernel_rfl) Tryz.func3 (by kernel_rfl)
  (of_decide_eq_true (by kernel_rfl)) (by unfold Func.isWrapper;first|(rw[if_pos (by decide +kernel)];kernel_rfl)|(rw[if_neg (by decide +kernel)];exact⟨rfl,rfl⟩))
  (fun os started H enc _ F=>by rw[OpenClaim.pre_eq_preRow];exact zm0 os started H enc F)
theorem zoE (f : FuncId) (fn : Func) (hf : Tryz.pinned.checked.prog.funcNamed "darning/darninglaw15.AlgebraSets" = some f) (hfn : Tryz.pinned.checked.prog.funcs[f]? = some fn) :
  false=Tryz.pinned.checked.prog.looks []∧∀ (j:Nat) t,fn.params[j]?=some t→Tryz.pinned.checked.prog.wantsStandIn t=false:=by
 obtain rfl : f = 3 := Option.some.inj ((show Tryz.prog.funcNamed "darning/darninglaw15.AlgebraSets" = some 3 by kernel_rfl).symm.trans hf) |>.symm
 obtain rfl:fn=Tryz.f3:=(Option.some.inj (Tryz.func3.symm.trans hfn)).symm
 refine⟨by kernel_rfl,fun j t ht=>?_⟩
 rw[Tryz.params3] at ht
 have hm:=Array.mem_of_getElem? ht
 simp only[List.mem_toArray,List.mem_cons,List.mem_nil_iff,or_false] at hm
 rcases hm with rfl|rfl|rfl|rfl|rfl
 ·
  exact (show Tryz.prog.wantsStandIn 23=false by kernel_rfl)
 ·
  exact (show Tryz.prog.wantsStandIn 3=false by kernel_rfl)
 ·
  exact (show Tryz.prog.wantsStandIn 27=false by kernel_rfl)
 ·
  exact (show Tryz.prog.wantsStandIn 28=false by kernel_rfl)
 ·
  exact (show Tryz.prog.wantsStandIn 32=false by kernel_rfl)
theorem algebraSets_holds:Rows.AlgebraSetsUptoCardSaid:=
 Claim7.holds_tied_plain_at .later [] _ _ _ _ zgh (fun _ h=>by cases h) (by kernel_rfl) (fun _ h=>by cases h) algebraSetsUpto_row_tie rfl ⟨rfl,rfl⟩ (by kernel_rfl) rfl zoE (by kernel_rfl)
end
end Go.Proofs.YtdpnmdkbdibkpaaGreatDoor
