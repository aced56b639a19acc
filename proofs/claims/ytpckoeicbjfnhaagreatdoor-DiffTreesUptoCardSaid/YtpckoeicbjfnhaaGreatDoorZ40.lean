/- darningref24.Ways: the ways in which two right meanings differ (diffW). The meanings weigh at most 2^40. -/
import Derived.Test.YtpckoeicbjfnhaaGreatDoorZ20
import Derived.Test.YtpckoeicbjfnhaaGreatDoorZ23
import Derived.Test.YtpckoeicbjfnhaaGreatDoorZ32
import Derived.Test.YtpckoeicbjfnhaaGreatDoorZ38
import Derived.Test.YtpckoeicbjfnhaaGreatDoorZ39
import Derived.Deep.CutBlock
import Derived.Deep.CutRange
import Derived.Deep.RegionHeld3
namespace Go.Proofs.YtpckoeicbjfnhaaGreatDoor
set_option maxRecDepth 100000
set_option maxHeartbeats 16000000
section
open Go.RowKit
def zmv (s:List Mes)(a b:Nat):Prop:=∀ (w:World) (sv v u:Value) (r:Int) (x:M a) (y:M b),zal w sv s→zan a w v x→zan b w u y→zak s a r x=true→zak s b r y=true→mwt a x+mwt b y≤1099511627776 →
 Calls Tryz.prog 14 #[sv,.int .i64 r,v,u] w fun e w'=>∃ v',e= .returned v'∧zcb w w' v' (za4 s a b r x y)∧Below w.heap.size w w'
theorem zoq {α β:Type}(g:α→List β){l:List α}{k:Nat}{x:α}(h:l[k]?=some x):(l.take (k+1)).flatMap g=(l.take k).flatMap g++g x:=by
 rw[List.take_add_one,h,List.flatMap_append];simp
theorem zib {s:List Mes}(hs:zar s=true)(a b:Nat)(ih:zmv s a b):zmv s (a+1) (b+1):=by
 intro w sv v u root x y hS hX hY hx hy hcnt
 have hroot:=zgr hx
 obtain⟨m,rfl⟩:∃ m:Nat,root=m:=⟨root.toNat,by omega⟩
 have hm:m<s.length:=by omega
 obtain⟨vv,uv,rfl,hV,hU⟩:=hX
 obtain⟨vv2,uv2,rfl,hV2,hU2⟩:=hY
 obtain⟨X,HX⟩:∃ l,Hid (l=M.vals x):=⟨_,rfl⟩
 obtain⟨Y,HY⟩:∃ l,Hid (l=M.vals y):=⟨_,rfl⟩
 rw[←HX.out] at hV
 rw[←HY.out] at hV2
 obtain⟨hxl,xa,xc,rfl,-,-⟩:=hV.open
 obtain⟨-,ua,uc,rfl,-,-⟩:=hU.open
 obtain⟨hyl,ya,yc,rfl,-,-⟩:=hV2.open
 obtain⟨-,ua2,uc2,rfl,-,-⟩:=hU2.open
 obtain⟨xn,HXN⟩:∃ n,Hid (n=X.length):=⟨_,rfl⟩
 obtain⟨yn,HYN⟩:∃ n,Hid (n=Y.length):=⟨_,rfl⟩
 generalize (M.unk x).length=un at *
 generalize (M.unk y).length=um at *
 rw[←HXN.out] at hV hxl ⊢
 rw[←HYN.out] at hV2 hyl ⊢
 have HVX:=hid hV
 have HVY:=hid hV2
 have HXYL:=hid (And.intro hxl hyl)
 obtain⟨B,HB⟩:∃ B,Hid (B=w.heap.size):=⟨_,rfl⟩
 obtain⟨W0,HW0⟩:∃ W,Hid (W=((w.alloc (.cells #[.slice xa xn xc,.slice ua un uc] 39)).alloc (.cells #[.slice ya yn yc,.slice ua2 um uc2] 39))):=⟨_,rfl⟩
 have hb0:Below w.heap.size w W0:=by rw[HW0.out];(with_reducible repeat first|exact Below.refl _ _|refine pzA ?_ _|refine pzB ?_ _|refine zab ?_ _|refine Below.drew ?_)
 have hk0:Blk W0 B [.slice xa xn xc,.slice ua un uc] 39:=by rw[HW0.out,HB.out];exact (Blk.new w [.slice xa xn xc,.slice ua un uc] _).alloc _
 have hk1:Blk W0 (B+1) [.slice ya yn yc,.slice ua2 um uc2] 39:=by rw[HW0.out,HB.out];exact Blk.new' _ [.slice ya yn yc,.slice ua2 um uc2] _ _ (by simp)
 have HBK:=hid (And.intro hk0 hk1)
 have HB0:=hid hb0
 obtain⟨fs,HFS⟩:∃ fs,Hid (fs=(s.getD m .zero).fields):=⟨_,rfl⟩
 have HS:=hid hS
 obtain⟨-,sa,sc,rfl,hat⟩:=hS.open
 obtain⟨sn,HSN⟩:∃ n,Hid (n=s.length):=⟨_,rfl⟩
 obtain⟨sb,so,fv,hsa,-,c0,c1,hF⟩:=hat m hm
 subst hsa
 rw[←HFS.out] at hF
 have hfl0:fs.length≤549755813888:=by
  have:=zdC hs m hm
  rw[HFS.out];omega
 rw[←HSN.out] at HS hm ⊢
 obtain⟨nm,HNM⟩:∃ nm,Hid (nm=(s.getD m .zero).name):=⟨_,rfl⟩
 rw[←HNM.out] at c0
 have HSRT:=hid (zkZ nm (hF.below hb0) hfl0)
 obtain⟨hfl,fa,fc,rfl,hfat⟩:=hF.open
 obtain⟨fn,HFN⟩:∃ n,Hid (n=fs.length):=⟨_,rfl⟩
 rw[←HFN.out] at c1 HSRT
 have HC01:=hid (And.intro c0 c1)
 have HFAT:=hid hfat
 have HIH:=hid ih
 have HRX:=hid hx
 have HRY:=hid hy
 have HSR:=hid hs
 have HMW:=hid hcnt
 have HCNT:Hid ((za4 s (a+1) (b+1) (m:Int) x y).length≤1099511627776):=Nat.le_trans (zde hs (a+1) (b+1) (m:Int) x y) hcnt
 have HROOT:=hid hroot
 obtain⟨Q,HQ⟩:∃ Q:Ending→World→Prop,Hid (Q=fun e w'=>∃ v',e= .returned v'∧zcb w w' v' (za4 s (a+1) (b+1) (m:Int) x y)∧Below w.heap.size w w'):=⟨_,rfl⟩
 rw[←HQ.out]
 obtain⟨K,HK⟩:∃ K:List Int,Hid (K=zaL fs):=⟨_,rfl⟩
 have HKL:Hid (fn=K.length):=by rw[Hid,HK.out,HFN.out,zb8]
 obtain⟨g,HG⟩:∃ g:Int→List (List Int),Hid (g=fun i=>zeC (za4 s a b) (zit a b) (zbl a b) (fs.getD i.toNat .zero) (zcE X (fs.getD i.toNat .zero).number) (zcE Y (fs.getD i.toNat .zero).number)):=⟨_,rfl⟩
 have HDW:Hid (za4 s (a+1) (b+1) (m:Int) x y=K.flatMap g):=by
  rw[Hid,za4,HK.out,HG.out,HX.out,HY.out,Int.toNat_natCast,←HFS.out]
 have HCN:Hid (∀ k,((K.take k).flatMap g).length≤1099511627776):=fun k=>by
  have h1:=zgJ g K k
  have h2:=HCNT.out
  rw[HDW.out] at h2
  omega
 rw[←HK.out] at HSRT
 have d0:=zaa hb0 _ _ c0
 have d1:=zaa hb0 _ _ c1
 have hixs:=zae Tryz.underlying23 zcj rfl m hm (a:=some ⟨sb,so,none⟩) (cap:=sc)
 clear hS hat hF hfl hfat ih hx hy hs hcnt hroot hU hU2 hV hV2 hb0 hk0 hk1 c0 c1 hfl0 HCNT
 go_enter Tryz.func14,Tryz.ntmps14
 go_upto_region 2 with fail
 rw[←HW0.out,←HB.out]
 go_wp2_with (go_at_call 37;refine HSRT.out.mono ?_;rintro e w1 ⟨v1,rfl,hI1,hb1⟩;obtain⟨va,vc,rfl⟩:=hI1.form;rw[←HKL.out])
 have HB01:=hid hb1
 have HB1:=hid (HB0.out.trans (hb1.mono HB0.out.size))
 have hfn200:fn≤200:=by have:=zdC HSR.out m (by rw[←HSN.out];exact hm);rw[←HFS.out,←HFN.out] at this;exact this
 have HKI:Hid (zaI w1 (.slice va fn vc) K):=by
  rw[HKL.out]
  refine hI1.ints (by rw[←HKL.out];omega) fun z hz=>?_
  rw[HK.out] at hz
  have:=zaM hz
  have:=HFN.out
  unfold zbi
  omega
 clear hI1 hb1 d0 d1 HSRT
 go_wp2_with fail
 go_loopw [9,11] (fun v9 v11 wr=>∃ (k on:Nat) (oa:Option Addr) (oc:Nat),v11= .int .i64 (k:Int)∧v9= .slice oa on oc∧k≤fn∧on≤1099511627776∧Hid (zag zfs 50 1 0 w1.heap.size wr (.slice oa on oc) ((K.take k).flatMap g)∧((K.take k).flatMap g).length=on∧Below w1.heap.size w1 wr)) (fun _ v11 _=>fn - (intOf v11).toNat)
 case atStart=>exact⟨0,0,none,0,rfl,rfl,by omega,by omega,zag.nil _ _ _ _ _ _,rfl,Below.refl _ _⟩
 case round =>
  obtain⟨k,on,oa,oc,rfl,rfl,hk,hon,HI⟩:=hrel
  obtain⟨wo,HWO⟩:∃ wo:World,Hid (wo=wr):=⟨_,rfl⟩
  by_cases hlt:k<fn
  ·
   obtain⟨ord,hz⟩:∃ z,K[k]?=some z:=⟨_,List.getElem?_eq_getElem (by rw[←HKL.out];exact hlt)⟩
   have HTK:Hid ((K.take (k+1)).flatMap g=(K.take k).flatMap g++g ord):=zoq g hz
   obtain⟨q,rfl,hqn⟩:∃ q:Nat,ord=(q:Int)∧q<fs.length:=by
    have h:=List.mem_of_getElem? hz
    rw[HK.out] at h
    have:=zaM h
    exact⟨ord.toNat,by omega,by omega⟩
   have hbr1:Below w1.heap.size w1 wr:=HI.out.2.2
   have hb0r:Below w.heap.size w wr:=HB1.out.trans (hbr1.mono HB1.out.size)
   obtain⟨kb,ko,hva,hkc⟩:∃ kb ko,va=some ⟨kb,ko,none⟩∧w1.cell? ⟨kb,ko+k,none⟩=some (.int .i64 (q:Int)):=by
    obtain⟨-,a',c',e,-,hkat⟩:=HKI.out.open
    obtain⟨-,b',o',h1,h2⟩:=hkat k _ hz
    injection e with e1 e2 e3
    exact⟨b',o',by rw[e1];exact h1,h2⟩
   replace hkc:=zaa hbr1 _ _ hkc
   have hixk:=zad Tryz.underlying50 zcH hva k hlt (cap:=vc)
   obtain⟨f,HF⟩:∃ f,Hid (f=fs.getD q .zero):=⟨_,rfl⟩
   obtain⟨z,HFZ⟩:∃ z,Hid (f.number=z):=⟨_,rfl⟩
   have HGZ:Hid (g (q:Int)=zeC (za4 s a b) (zit a b) (zbl a b) f (zcE X z) (zcE Y z)):=by
    rw[Hid,HG.out]
    simp only
    rw[Int.toNat_natCast,←HF.out,HFZ.out]
   have hzb:1≤z∧z≤536870911:=by
    have:=of_decide_eq_true (zd4 HSR.out m (by rw[←HSN.out];exact hm) q (by rw[←HFS.out];exact hqn)).2
    rw[←HFS.out,←HF.out,HFZ.out] at this
    exact⟨this.1,this.2.1⟩
   have HFITX:Hid (∀ v,zcE X z=some v→zbW (zak s a) f v=true):=fun v hg=>by
    have h:=zhd (zj6 HSR.out) HROOT.out HRX.out (i:=(q:Int)) (v:=v) ⟨by omega,by rw[Int.toNat_natCast,←HFS.out];omega⟩
    rw[Int.toNat_natCast,Int.toNat_natCast,←HFS.out,←HF.out,←HX.out,HFZ.out] at h
    exact h hg
   have HFITY:Hid (∀ v,zcE Y z=some v→zbW (zak s b) f v=true):=fun v hg=>by
    have h:=zhd (zj6 HSR.out) HROOT.out HRY.out (i:=(q:Int)) (v:=v) ⟨by omega,by rw[Int.toNat_natCast,←HFS.out];omega⟩
    rw[Int.toNat_natCast,Int.toNat_natCast,←HFS.out,←HF.out,←HY.out,HFZ.out] at h
    exact h hg
   obtain⟨fb,fo,hfa,hfok,g0,g1,g2,g3,g4,g5⟩:=HFAT.out q hqn
   rw[←HF.out] at hfok g0 g1 g2 g3 g4 g5
   have hqfn:q<fn:=by rw[HFN.out];exact hqn
   have hixf:=zae Tryz.underlying74 zbm hfa q hqfn (cap:=fc)
   have hq:wr.drew.cell? ⟨sb,so+m*2+1,none⟩=some (.slice fa fn fc)∧wr.drew.cell? ⟨kb,ko+k,none⟩=some (.int .i64 (q:Int))∧wr.drew.cell? ⟨fb,fo+q*6,none⟩=some (.string f.name)∧wr.drew.cell? ⟨fb,fo+q*6+1,none⟩=some (.int .i64 f.number)∧wr.drew.cell? ⟨fb,fo+q*6+2,none⟩=some (.int .i64 f.kind)∧wr.drew.cell? ⟨fb,fo+q*6+3,none⟩=some (.bool f.rep)∧wr.drew.cell? ⟨fb,fo+q*6+4,none⟩=some (.bool f.packed)∧wr.drew.cell? ⟨fb,fo+q*6+5,none⟩=some (.int .i64 f.of):=⟨zaa hb0r _ _ HC01.out.2,hkc,zaa hb0r _ _ g0,zaa hb0r _ _ g1,zaa hb0r _ _ g2,zaa hb0r _ _ g3,zaa hb0r _ _ g4,zaa hb0r _ _ g5⟩
   have HQ0:=hid hq
   obtain⟨FB,HFB⟩:∃ b,Hid (b=wr.heap.size):=⟨_,rfl⟩
   obtain⟨W5,HW5⟩:∃ W,Hid (W=(wr.alloc (.cells #[.string ⟨#[]⟩,.int .i64 0,.int .i64 0,.bool false,.bool false,.int .i64 0] 73)).drew):=⟨_,rfl⟩
   have hb5:Below wr.heap.size wr W5:=by rw[HW5.out];(with_reducible repeat first|exact Below.refl _ _|refine pzA ?_ _|refine pzB ?_ _|refine zab ?_ _|refine Below.drew ?_)
   have hk5:Blk W5 FB [.string ⟨#[]⟩,.int .i64 0,.int .i64 0,.bool false,.bool false,.int .i64 0] 73:=by rw[HW5.out,HFB.out];exact Blk.new wr [.string ⟨#[]⟩,.int .i64 0,.int .i64 0,.bool false,.bool false,.int .i64 0] _
   obtain⟨W6,HW6⟩:∃ W,Hid (W=((((((W5.setCell ⟨FB,0,none⟩ (.string f.name)).setCell ⟨FB,1,none⟩ (.int .i64 f.number)).setCell ⟨FB,2,none⟩ (.int .i64 f.kind)).setCell ⟨FB,3,none⟩ (.bool f.rep)).setCell ⟨FB,4,none⟩ (.bool f.packed)).setCell ⟨FB,5,none⟩ (.int .i64 f.of))):=⟨_,rfl⟩
   have hFB:wr.heap.size≤FB:=by rw[HFB.out];exact Nat.le_refl _
   have hb6:Below wr.heap.size wr W6:=by rw[HW6.out];exact (((((hb5.setCell hFB _).setCell hFB _).setCell hFB _).setCell hFB _).setCell hFB _).setCell hFB _
   have hk6:Blk W6 FB f.cells 73:=by rw[HW6.out];exact (((((hk5.set 0 (.string f.name)).set 1 (.int .i64 f.number)).set 2 (.int .i64 f.kind)).set 3 (.bool f.rep)).set 4 (.bool f.packed)).set 5 (.int .i64 f.of)
   have d0:=hk5.cell 0 _ rfl
   have d1:=hk5.cell 1 _ rfl
   have d2:=hk5.cell 2 _ rfl
   have d3:=hk5.cell 3 _ rfl
   have d4:=hk5.cell 4 _ rfl
   have d5:=hk5.cell 5 _ rfl
   have e0:=hk5.free 0
   have e1:=hk5.free 1
   have e2:=hk5.free 2
   have e3:=hk5.free 3
   have e4:=hk5.free 4
   have e5:=hk5.free 5
   have dl:=hk5.lt
   have HB5:=hid hb5
   have HB46:=hid hb6
   have HB6:=hid (hb0r.trans (hb6.mono hb0r.size))
   have HB36:=hid (hbr1.trans (hb6.mono hbr1.size))
   have HB16:=hid (HB01.out.trans (HB36.out.mono HB01.out.size))
   have HFB0:=hid hFB
   have HK6:=hid hk6
   have HQ5:Hid (W5.cell? ⟨sb,so+m*2+1,none⟩=some (.slice fa fn fc)∧W5.cell? ⟨kb,ko+k,none⟩=some (.int .i64 (q:Int))∧W5.cell? ⟨fb,fo+q*6,none⟩=some (.string f.name)∧W5.cell? ⟨fb,fo+q*6+1,none⟩=some (.int .i64 f.number)∧W5.cell? ⟨fb,fo+q*6+2,none⟩=some (.int .i64 f.kind)∧W5.cell? ⟨fb,fo+q*6+3,none⟩=some (.bool f.rep)∧W5.cell? ⟨fb,fo+q*6+4,none⟩=some (.bool f.packed)∧W5.cell? ⟨fb,fo+q*6+5,none⟩=some (.int .i64 f.of)):=⟨zaa hb5 _ _ hq.1,zaa hb5 _ _ hq.2.1,zaa hb5 _ _ hq.2.2.1,zaa hb5 _ _ hq.2.2.2.1,zaa hb5 _ _ hq.2.2.2.2.1,zaa hb5 _ _ hq.2.2.2.2.2.1,zaa hb5 _ _ hq.2.2.2.2.2.2.1,zaa hb5 _ _ hq.2.2.2.2.2.2.2⟩
   have HQ6:Hid (W6.cell? ⟨sb,so+m*2+1,none⟩=some (.slice fa fn fc)∧W6.cell? ⟨kb,ko+k,none⟩=some (.int .i64 (q:Int))∧W6.cell? ⟨fb,fo+q*6,none⟩=some (.string f.name)∧W6.cell? ⟨fb,fo+q*6+1,none⟩=some (.int .i64 f.number)∧W6.cell? ⟨fb,fo+q*6+2,none⟩=some (.int .i64 f.kind)∧W6.cell? ⟨fb,fo+q*6+3,none⟩=some (.bool f.rep)∧W6.cell? ⟨fb,fo+q*6+4,none⟩=some (.bool f.packed)∧W6.cell? ⟨fb,fo+q*6+5,none⟩=some (.int .i64 f.of)):=⟨zaa hb6 _ _ hq.1,zaa hb6 _ _ hq.2.1,zaa hb6 _ _ hq.2.2.1,zaa hb6 _ _ hq.2.2.2.1,zaa hb6 _ _ hq.2.2.2.2.1,zaa hb6 _ _ hq.2.2.2.2.2.1,zaa hb6 _ _ hq.2.2.2.2.2.2.1,zaa hb6 _ _ hq.2.2.2.2.2.2.2⟩
   clear hz hbr1 hb0r hva hkc g0 g1 g2 g3 g4 g5 hfok hb5 hk5 hb6 hk6 hFB
   go_upto_region 6 with fail
   refine zbk (fun w'=>w'.cell? ⟨sb,so+m*2+1,none⟩=some (.slice fa fn fc)∧w'.cell? ⟨kb,ko+k,none⟩=some (.int .i64 (q:Int))∧w'.cell? ⟨fb,fo+q*6,none⟩=some (.string f.name)∧w'.cell? ⟨fb,fo+q*6+1,none⟩=some (.int .i64 f.number)∧w'.cell? ⟨fb,fo+q*6+2,none⟩=some (.int .i64 f.kind)∧w'.cell? ⟨fb,fo+q*6+3,none⟩=some (.bool f.rep)∧w'.cell? ⟨fb,fo+q*6+4,none⟩=some (.bool f.packed)∧w'.cell? ⟨fb,fo+q*6+5,none⟩=some (.int .i64 f.of)) (fun _=>True) 11 [(0,0),(1,0),(2,0),(3,0),(4,0),(5,0),(6,0),(7,0),(8,0),(9,0),(10,0),(11,2),(12,2)] (by kernel_rfl) rfl rfl (by kernel_rfl) (fun _ _ dst _ _ h=>by cases dst <;> exact h) hq trivial (fun OPS2 _=>?_)
   clear hq
   simp only[List.map_cons,List.map_nil,List.filterMap_cons,List.filterMap_nil,List.getElem?_cons_succ,List.getElem?_cons_zero]
   refine zap (v:=?v0) ?hy0 ?hr0
   case hy0=>(intro w hw;go_simp;all_goals rfl)
   simp only[Act.put,pzC,pzD,pzE]
   refine zap (v:=?v1) ?hy1 ?hr1
   case hy1=>(intro w hw;go_simp;all_goals rfl)
   simp only[Act.put,pzC,pzD,pzE]
   refine zap (v:=?v2) ?hy2 ?hr2
   case hy2=>(intro w hw;go_simp;all_goals rfl)
   simp only[Act.put,pzC,pzD,pzE]
   refine zap (v:=?v3) ?hy3 ?hr3
   case hy3=>(intro w hw;go_simp;all_goals rfl)
   simp only[Act.put,pzC,pzD,pzE]
   refine zap (v:=?v4) ?hy4 ?hr4
   case hy4=>(intro w hw;go_simp;all_goals rfl)
   simp only[Act.put,pzC,pzD,pzE]
   refine zap (v:=?v5) ?hy5 ?hr5
   case hy5=>(intro w hw;go_simp;all_goals rfl)
   simp only[Act.put,pzC,pzD,pzE]
   refine zap (v:=?v6) ?hy6 ?hr6
   case hy6=>(intro w hw;go_simp;all_goals rfl)
   simp only[Act.put,pzC,pzD,pzE]
   refine zap (v:=?v7) ?hy7 ?hr7
   case hy7=>(intro w hw;go_simp;all_goals rfl)
   simp only[Act.put,pzC,pzD,pzE]
   refine zap (v:=?v8) ?hy8 ?hr8
   case hy8=>(intro w hw;go_simp;all_goals rfl)
   simp only[Act.put,pzC,pzD,pzE]
   refine zap (v:=?v9) ?hy9 ?hr9
   case hy9=>(intro w hw;go_simp;all_goals rfl)
   simp only[Act.put,pzC,pzD,pzE]
   refine zap (v:=?v10) ?hy10 ?hr10
   case hy10=>(intro w hw;go_simp;all_goals rfl)
   simp only[Act.put,pzC,pzD,pzE]
   clear hixk hixf hqfn hfa
   refine zdO (fun K12 HK12=>?_)
   go_wp2_with fail
   rw[←HW5.out,←HFB.out]
   refine HK12.out _ _ HQ5.out ?_
   clear HK12 K12
   intro _
   refine zdO (fun K12 HK12=>?_)
   go_wp2_with fail
   rw[←HW6.out]
   refine HK12.out _ _ HQ6.out ?_
   clear HK12 K12 d0 d1 d2 d3 d4 d5 e0 e1 e2 e3 e4 e5 dl
   intro _
   refine zcI ?_
   clear HQ5 HQ6 HQ0 HW5 HW6 HB5 HFB
   have hkx:=HBK.out.1.below HB16.out
   have hky:=HBK.out.2.below HB16.out
   have hkf:=HK6.out
   have hq:W6.drew.cell? ⟨B,0,none⟩=some (.slice xa xn xc)∧W6.drew.cell? ⟨B,1,none⟩=some (.slice ua un uc)∧W6.drew.cell? ⟨B+1,0,none⟩=some (.slice ya yn yc)∧W6.drew.cell? ⟨B+1,1,none⟩=some (.slice ua2 um uc2)∧W6.drew.cell? ⟨FB,1,none⟩=some (.int .i64 z):=⟨hkx.cell 0 _ rfl,hkx.cell 1 _ rfl,hky.cell 0 _ rfl,hky.cell 1 _ rfl,by have:=hkf.cell 1 _ rfl;rw[HFZ.out] at this;exact this⟩
   have HQ0:=hid hq
   have HGX:=hid fun (W:World) (hW:Below w.heap.size w W)=>zlq (a2:=ua) (n2:=un) (c2:=uc) (HVX.out.keep (zaa hW) fun _ _ h=>zan.below h hW) z
   have HGY:=hid fun (W:World) (hW:Below w.heap.size w W)=>zlq (a2:=ua2) (n2:=um) (c2:=uc2) (HVY.out.keep (zaa hW) fun _ _ h=>zan.below h hW) z
   clear hkx hky hkf
   go_upto_region 7 with fail
   refine zbk (fun w'=>w'.cell? ⟨B,0,none⟩=some (.slice xa xn xc)∧w'.cell? ⟨B,1,none⟩=some (.slice ua un uc)∧w'.cell? ⟨B+1,0,none⟩=some (.slice ya yn yc)∧w'.cell? ⟨B+1,1,none⟩=some (.slice ua2 um uc2)∧w'.cell? ⟨FB,1,none⟩=some (.int .i64 z)) (fun _=>True) 3 [(0,0),(1,0),(2,0),(4,0),(5,0),(6,0),(3,2),(7,2),(8,0),(9,0)] (by kernel_rfl) rfl rfl (by kernel_rfl) (fun _ _ dst _ _ h=>by cases dst <;> exact h) hq trivial (fun OPS3 _=>?_)
   clear hq
   simp only[List.map_cons,List.map_nil,List.filterMap_cons,List.filterMap_nil,List.getElem?_cons_succ,List.getElem?_cons_zero]
   refine zap (v:=?v20) ?hy20 ?hr20
   case hy20=>(intro w hw;go_simp;all_goals rfl)
   simp only[Act.put,pzC,pzD,pzE]
   refine zap (v:=?v21) ?hy21 ?hr21
   case hy21=>(intro w hw;go_simp;all_goals rfl)
   simp only[Act.put,pzC,pzD,pzE]
   refine zap (v:=?v22) ?hy22 ?hr22
   case hy22=>(intro w hw;go_simp;all_goals rfl)
   simp only[Act.put,pzC,pzD,pzE]
   refine zap (v:=?v23) ?hy23 ?hr23
   case hy23=>(intro w hw;go_simp;all_goals rfl)
   simp only[Act.put,pzC,pzD,pzE]
   refine zap (v:=?v24) ?hy24 ?hr24
   case hy24=>(intro w hw;go_simp;all_goals rfl)
   simp only[Act.put,pzC,pzD,pzE]
   refine zap (v:=?v25) ?hy25 ?hr25
   case hy25=>(intro w hw;go_simp;all_goals rfl)
   simp only[Act.put,pzC,pzD,pzE]
   refine zdO (fun K12 HK12=>?_)
   go_wp2_with fail
   refine (HGX.out _ HB6.out.drew).mono ?_
   rintro e w7 ⟨i1,rfl,hi1,hb7⟩
   have q7:w7.cell? ⟨B,0,none⟩=some (.slice xa xn xc)∧w7.cell? ⟨B,1,none⟩=some (.slice ua un uc)∧w7.cell? ⟨B+1,0,none⟩=some (.slice ya yn yc)∧w7.cell? ⟨B+1,1,none⟩=some (.slice ua2 um uc2)∧w7.cell? ⟨FB,1,none⟩=some (.int .i64 z):=⟨zaa hb7 _ _ HQ0.out.1,zaa hb7 _ _ HQ0.out.2.1,zaa hb7 _ _ HQ0.out.2.2.1,zaa hb7 _ _ HQ0.out.2.2.2.1,zaa hb7 _ _ HQ0.out.2.2.2.2⟩
   have HB67:=hid ((show Below W6.heap.size W6 W6.drew from (Below.refl _ _).drew).trans hb7)
   clear hb7
   go_wp2_with fail
   refine HK12.out _ _ q7 ?_
   clear HK12 K12
   intro _
   refine zdO (fun K12 HK12=>?_)
   go_wp2_with fail
   refine (HGY.out _ (HB6.out.trans (HB67.out.mono HB6.out.size))).mono ?_
   rintro e W7 ⟨j1,rfl,hj1,hb8⟩
   have q8:W7.cell? ⟨B,0,none⟩=some (.slice xa xn xc)∧W7.cell? ⟨B,1,none⟩=some (.slice ua un uc)∧W7.cell? ⟨B+1,0,none⟩=some (.slice ya yn yc)∧W7.cell? ⟨B+1,1,none⟩=some (.slice ua2 um uc2)∧W7.cell? ⟨FB,1,none⟩=some (.int .i64 z):=⟨zaa hb8 _ _ q7.1,zaa hb8 _ _ q7.2.1,zaa hb8 _ _ q7.2.2.1,zaa hb8 _ _ q7.2.2.2.1,zaa hb8 _ _ q7.2.2.2.2⟩
   have HB7:=hid (HB67.out.trans (hb8.mono HB67.out.size))
   clear hb8
   go_wp2_with fail
   refine HK12.out _ _ q8 ?_
   clear HK12 K12 q7 q8
   intro _
   refine zap (v:=?v40) ?hy40 ?hr40
   case hy40=>(intro w hw;go_simp;all_goals rfl)
   simp only[Act.put,pzC,pzD,pzE]
   refine zap (v:=?v41) ?hy41 ?hr41
   case hy41=>(intro w hw;go_simp;all_goals rfl)
   simp only[Act.put,pzC,pzD,pzE]
   refine zcI ?_
   clear HGX HGY HQ0 HB67
   have REQ:∀ W8,Below W6.heap.size W6 W8→g (q:Int)=[]→Hid (zag zfs 50 1 0 w1.heap.size W8 (.slice oa on oc) ((K.take (k+1)).flatMap g)∧((K.take (k+1)).flatMap g).length=on∧Below w1.heap.size w1 W8):=fun W8 hW8 he=>by
    have e:(K.take (k+1)).flatMap g=(K.take k).flatMap g:=by rw[HTK.out,he,List.append_nil]
    rw[e]
    exact⟨HI.out.1.below (HB46.out.trans (hW8.mono HB46.out.size)),HI.out.2.1,HB36.out.trans (hW8.mono HB36.out.size)⟩
   have HREQ:=hid REQ
   clear REQ
   rcases hi1 with ⟨rfl,hgx⟩|⟨i,v,rfl,hiv,hvn,hgx⟩
   ·
    rcases hj1 with ⟨rfl,hgy⟩|⟨j,u,rfl,hju,hun,hgy⟩
    ·
     have HREL9:=hid (HREQ.out W7 HB7.out (by rw[HGZ.out,hgx,hgy];rfl)).out
     clear HREQ HGZ HTK hgx hgy HB7
     go_wp2_with fail
     go_roundw
     case rel=>exact⟨k+1,on,oa,oc,by go_num,rfl,hlt,hon,HREL9.out⟩
     case measure=>simp[intOf];omega
    ·
     have HGD:Hid (g (q:Int)=[[z]]):=by rw[Hid,HGZ.out,hgx,hgy,←HFZ.out];rfl
     have hjn:j≤140737488355328:=by
      have h:=(List.getElem?_eq_some_iff.1 hju).1
      have:=HYN.out;have:=HXYL.out.2;omega
     obtain⟨W8,hW8⟩:∃ W,W=W7:=⟨_,rfl⟩
     subst hW8
     have HB8:=HB7
     clear HREQ HGZ hgx hgy hju hun HB7
     have hbw8:Below wr.heap.size wr W8:=HB46.out.trans (HB8.out.mono HB46.out.size)
     obtain⟨a8,c8,w9,hr9,hO9,hb9⟩:=zdD (HI.out.1.below hbw8) HI.out.2.1 (Nat.le_trans HI.out.2.2.size hbw8.size) hon (show zbi z by unfold zbi;omega)
     have HREL9:Hid (zag zfs 50 1 0 w1.heap.size w9 (.slice a8 (on+1) c8) ((K.take (k+1)).flatMap g)∧((K.take (k+1)).flatMap g).length=on+1∧Below w1.heap.size w1 w9):=by
      refine⟨?_,?_,(HB36.out.trans (HB8.out.mono HB36.out.size)).trans hb9⟩
      ·
       rw[HTK.out,HGD.out];exact hO9
      ·
       rw[HTK.out,HGD.out,List.length_append,HI.out.2.1];rfl
     have hon1:on+1≤1099511627776:=by have:=HCN.out (k+1);rw[HREL9.out.2.1] at this;exact this
     have hk18:=HK6.out.below HB8.out
     have m1:=hk18.cell 1 _ rfl
     have ml:=hk18.lt
     rw[HFZ.out] at m1
     clear hbw8 hO9 hb9 HB8 HGD HTK hk18
     go_upto_region 18 with fail
     go_wp2_with (at_builtin;refine zac rfl _ _ _ rfl _ _ rfl rfl hr9 ?_)
     go_roundw
     case rel=>exact⟨k+1,on+1,a8,c8,by go_num,rfl,hlt,hon1,HREL9.out⟩
     case measure=>simp[intOf];omega
   ·
    rcases hj1 with ⟨rfl,hgy⟩|⟨j,u,rfl,hju,hun,hgy⟩
    ·
     have HGD:Hid (g (q:Int)=[[z]]):=by rw[Hid,HGZ.out,hgx,hgy,←HFZ.out];rfl
     have hin:i≤140737488355328:=by
      have h:=(List.getElem?_eq_some_iff.1 hiv).1
      have:=HXN.out;have:=HXYL.out.1;omega
     obtain⟨W8,hW8⟩:∃ W,W=W7:=⟨_,rfl⟩
     subst hW8
     have HB8:=HB7
     clear HREQ HGZ hgx hgy hiv hvn HB7
     have hbw8:Below wr.heap.size wr W8:=HB46.out.trans (HB8.out.mono HB46.out.size)
     obtain⟨a8,c8,w9,hr9,hO9,hb9⟩:=zdD (HI.out.1.below hbw8) HI.out.2.1 (Nat.le_trans HI.out.2.2.size hbw8.size) hon (show zbi z by unfold zbi;omega)
     have HREL9:Hid (zag zfs 50 1 0 w1.heap.size w9 (.slice a8 (on+1) c8) ((K.take (k+1)).flatMap g)∧((K.take (k+1)).flatMap g).length=on+1∧Below w1.heap.size w1 w9):=by
      refine⟨?_,?_,(HB36.out.trans (HB8.out.mono HB36.out.size)).trans hb9⟩
      ·
       rw[HTK.out,HGD.out];exact hO9
      ·
       rw[HTK.out,HGD.out,List.length_append,HI.out.2.1];rfl
     have hon1:on+1≤1099511627776:=by have:=HCN.out (k+1);rw[HREL9.out.2.1] at this;exact this
     have hk18:=HK6.out.below HB8.out
     have m1:=hk18.cell 1 _ rfl
     have ml:=hk18.lt
     rw[HFZ.out] at m1
     clear hbw8 hO9 hb9 HB8 HGD HTK hk18
     go_upto_region 18 with fail
     go_wp2_with (at_builtin;refine zac rfl _ _ _ rfl _ _ rfl rfl hr9 ?_)
     go_roundw
     case rel=>exact⟨k+1,on+1,a8,c8,by go_num,rfl,hlt,hon1,HREL9.out⟩
     case measure=>simp[intOf];omega
    ·
     have hixn:i<xn:=by rw[HXN.out];exact (List.getElem?_eq_some_iff.1 hiv).1
     have hjyn:j<yn:=by rw[HYN.out];exact (List.getElem?_eq_some_iff.1 hju).1
     obtain⟨-,xa',xc',e,-,hxat⟩:=HVX.out.open
     obtain⟨bx,ox,-,-,-,hxa,-⟩:=hxat i v hiv
     obtain⟨rfl,rfl⟩:xa=xa'∧xc=xc':=by injection e with e1 e2 e3;exact⟨e1,e3⟩
     clear e
     obtain⟨-,ya',yc',e,-,hyat⟩:=HVY.out.open
     obtain⟨by',oy,-,-,-,hya,-⟩:=hyat j u hju
     obtain⟨rfl,rfl⟩:ya=ya'∧yc=yc':=by injection e with e1 e2 e3;exact⟨e1,e3⟩
     clear e hxat hyat
     obtain⟨wa,wn,wc,ta,tn,tc,ca,cn,cc,hvx⟩:=zf3 HVX.out (fun _=>hxa) hiv
     obtain⟨wa2,wn2,wc2,ta2,tn2,tc2,ca2,cn2,cc2,hvy⟩:=zf3 HVY.out (fun _=>hya) hju
     obtain⟨c,HC⟩:∃ c,Hid (c=zca (zbl a b) v u):=⟨_,rfl⟩
     have HGX:=hid hgx
     have HGY:=hid hgy
     have HV1:=hid hvx
     have HU1:=hid hvy
     have hb7w:Below w.heap.size w W7:=HB6.out.trans (HB7.out.mono HB6.out.size)
     have HB7w:=hid hb7w
     have HSV:=hid fun (W:World) (hW:Below w.heap.size w W)=>zdS (zh9 a b) (VMsg.below hvx.val hW) (VMsg.below hvy.val hW)
     rw[←HC.out] at HSV
     have hixx:=zae Tryz.underlying37 zdR hxa i hixn (cap:=xc)
     have hixy:=zae Tryz.underlying37 zdR hya j hjyn (cap:=yc)
     have h1:=hvx.below hb7w
     have h2:=hvy.below hb7w
     have hkx:=HBK.out.1.below (HB16.out.trans (HB7.out.mono HB16.out.size))
     have hky:=HBK.out.2.below (HB16.out.trans (HB7.out.mono HB16.out.size))
     have q0:W7.drew.cell? ⟨B,0,none⟩=some (.slice xa xn xc)∧W7.drew.cell? ⟨B+1,0,none⟩=some (.slice ya yn yc)∧W7.drew.cell? ⟨bx,ox+i*4,none⟩=some (.int .i64 v.num)∧W7.drew.cell? ⟨bx,ox+i*4+1,none⟩=some (.slice wa wn wc)∧W7.drew.cell? ⟨bx,ox+i*4+2,none⟩=some (.slice ta tn tc)∧W7.drew.cell? ⟨bx,ox+i*4+3,none⟩=some (.slice ca cn cc)∧W7.drew.cell? ⟨by',oy+j*4,none⟩=some (.int .i64 u.num)∧W7.drew.cell? ⟨by',oy+j*4+1,none⟩=some (.slice wa2 wn2 wc2)∧W7.drew.cell? ⟨by',oy+j*4+2,none⟩=some (.slice ta2 tn2 tc2)∧W7.drew.cell? ⟨by',oy+j*4+3,none⟩=some (.slice ca2 cn2 cc2):=⟨hkx.cell 0 _ rfl,hky.cell 0 _ rfl,h1.c0,h1.c1,h1.c2,h1.c3,h2.c0,h2.c1,h2.c2,h2.c3⟩
     have hxn47:=HXYL.out.1
     have hyn47:=HXYL.out.2
     clear hvx hvy h1 h2 hkx hky hgx hgy hiv hju hvn hun hxa hya hb7w
     go_upto_region 10 with fail
     go_cut [15,16] from 61 to 70 (fun s15 s16 wx=>∃ P1 P2:Nat,s15= .pointer (some ⟨P1,0,none⟩)∧s16= .pointer (some ⟨P2,0,none⟩)∧Hid (Below W7.heap.size W7 wx∧Blk wx P1 [.int .i64 v.num,.slice wa wn wc,.slice ta tn tc,.slice ca cn cc] 64∧Blk wx P2 [.int .i64 u.num,.slice wa2 wn2 wc2,.slice ta2 tn2 tc2,.slice ca2 cn2 cc2] 64))
     case first =>
      clear HTK HGZ HFZ HFITX HFITY HB16 HB36 HB46 HK6 HC HGX HGY HI HKI HFAT HC01 HIH HVX HVY HRX HRY HSR HROOT HQ HX HY HXN HYN HB HFS HSN HS HNM HFN HMW HB1 HKL HG HDW HCN HF HREQ HSV HBK HB0 HB01 HXYL HB6 HB7 HB7w HV1 HU1 HK
      go_region_held3 (fun w'=>w'.cell? ⟨B,0,none⟩=some (.slice xa xn xc)∧w'.cell? ⟨B+1,0,none⟩=some (.slice ya yn yc)∧w'.cell? ⟨bx,ox+i*4,none⟩=some (.int .i64 v.num)∧w'.cell? ⟨bx,ox+i*4+1,none⟩=some (.slice wa wn wc)∧w'.cell? ⟨bx,ox+i*4+2,none⟩=some (.slice ta tn tc)∧w'.cell? ⟨bx,ox+i*4+3,none⟩=some (.slice ca cn cc)∧w'.cell? ⟨by',oy+j*4,none⟩=some (.int .i64 u.num)∧w'.cell? ⟨by',oy+j*4+1,none⟩=some (.slice wa2 wn2 wc2)∧w'.cell? ⟨by',oy+j*4+2,none⟩=some (.slice ta2 tn2 tc2)∧w'.cell? ⟨by',oy+j*4+3,none⟩=some (.slice ca2 cn2 cc2)) (first|(with_reducible exact q0)|(refine (fun (hb:Below W7.heap.size W7 _)=>⟨zaa hb _ _ q0.1,zaa hb _ _ q0.2.1,zaa hb _ _ q0.2.2.1,zaa hb _ _ q0.2.2.2.1,zaa hb _ _ q0.2.2.2.2.1,zaa hb _ _ q0.2.2.2.2.2.1,zaa hb _ _ q0.2.2.2.2.2.2.1,zaa hb _ _ q0.2.2.2.2.2.2.2.1,zaa hb _ _ q0.2.2.2.2.2.2.2.2.1,zaa hb _ _ q0.2.2.2.2.2.2.2.2.2⟩) ?_;(with_reducible repeat first|exact Below.refl _ _|refine pzA ?_ _|refine pzB ?_ _|refine zab ?_ _|refine Below.drew ?_))) (fail)
      all_goals
       go_wp2_with fail
       go_meet
       case rel=>first
        | exact⟨W7.heap.size,W7.heap.size+1,rfl,rfl,⟨by (with_reducible repeat first|exact Below.refl _ _|refine pzA ?_ _|refine pzB ?_ _|refine zab ?_ _|refine Below.drew ?_),Blk.alloc (Blk.new W7 [.int .i64 v.num,.slice wa wn wc,.slice ta tn tc,.slice ca cn cc] 64) _,Blk.new' _ [.int .i64 u.num,.slice wa2 wn2 wc2,.slice ta2 tn2 tc2,.slice ca2 cn2 cc2] 64 _ (by simp)⟩⟩
        | exact⟨W7.heap.size+1,W7.heap.size,rfl,rfl,⟨by (with_reducible repeat first|exact Below.refl _ _|refine pzA ?_ _|refine pzB ?_ _|refine zab ?_ _|refine Below.drew ?_),Blk.new' _ [.int .i64 v.num,.slice wa wn wc,.slice ta tn tc,.slice ca cn cc] 64 _ (by simp),Blk.alloc (Blk.new W7 [.int .i64 u.num,.slice wa2 wn2 wc2,.slice ta2 tn2 tc2,.slice ca2 cn2 cc2] 64) _⟩⟩
     case rest =>
      obtain⟨P1,P2,rfl,rfl,HCUT⟩:=hcut
      have HBC:=hid (HB7.out.trans (HCUT.out.1.mono HB7.out.size))
      have HBCw:=hid (HB7w.out.trans (HCUT.out.1.mono HB7w.out.size))
      have HPB:=hid HCUT.out.2
      have r0:=HPB.out.1.cell 0 _ rfl
      have r1:=HPB.out.1.cell 1 _ rfl
      have r2:=HPB.out.1.cell 2 _ rfl
      have r3:=HPB.out.1.cell 3 _ rfl
      have rl:=HPB.out.1.lt
      have s0:=HPB.out.2.cell 0 _ rfl
      have s1:=HPB.out.2.cell 1 _ rfl
      have s2:=HPB.out.2.cell 2 _ rfl
      have s3:=HPB.out.2.cell 3 _ rfl
      have sl:=HPB.out.2.lt
      have HSV1:=hid (HSV.out wc HBCw.out)
      clear q0 HB7 HB7w HCUT HSV hixx hixy hixn hjyn hxn47 hyn47
      cases c with
      | true =>
       have he:g (q:Int)=[]:=by rw[HGZ.out,HGX.out,HGY.out,zbx,if_pos HC.out.symm]
       have HE:=hid he
       clear he HGZ HC
       go_wp2_with (go_at_call 39;refine HSV1.out.mono ?_;rintro e w9 ⟨rfl,hb9⟩;have HREL9:=hid (HREQ.out w9 (HBC.out.trans (hb9.mono HBC.out.size)) HE.out).out;clear hb9)
       go_roundw
       case rel=>exact⟨k+1,on,oa,oc,by go_num,rfl,hlt,hon,HREL9.out⟩
       case measure=>simp[intOf];omega
      | false =>
       go_upto_region 12 with (go_at_call 39;refine HSV1.out.mono ?_;rintro e w9 ⟨rfl,hb9⟩;have HB9:=hid (HBC.out.trans (hb9.mono HBC.out.size));have HB9w:=hid (HBCw.out.trans (hb9.mono HBCw.out.size));have HP9:=hid (And.intro (HPB.out.1.below hb9) (HPB.out.2.below hb9)))
       have hk9:=HK6.out.below HB9.out
       have k2:=hk9.cell 2 _ rfl
       have k3:=hk9.cell 3 _ rfl
       have kl:=hk9.lt
       clear hk9 hb9 r0 r1 r2 r3 rl s0 s1 s2 s3 sl HSV1 HPB HBC HBCw HREQ
       by_cases h17:f.kind=17
       ·
        cases hrep:f.rep with
        | true =>
         have HGD:Hid (g (q:Int)=[[z]]):=by
          rw[Hid,HGZ.out,HGX.out,HGY.out,zed HC.out.symm (fun h=>by rw[hrep] at h;cases h.2),HFZ.out]
         rw[h17] at k2
         rw[hrep] at k3
         clear hrep h17
         go_quiet (fail)
         obtain⟨W8,HW8⟩:∃ W,Hid (W=w9.drewN nq):=⟨_,rfl⟩
         rw[←HW8.out]
         have HB8:Hid (Below W6.heap.size W6 W8):=by rw[HW8.out];exact zab HB9.out _
         clear HW8 HB9
         have hbw8:Below wr.heap.size wr W8:=HB46.out.trans (HB8.out.mono HB46.out.size)
         obtain⟨a8,c8,w9,hr9,hO9,hb9⟩:=zdD (HI.out.1.below hbw8) HI.out.2.1 (Nat.le_trans HI.out.2.2.size hbw8.size) hon (show zbi z by unfold zbi;omega)
         have HREL9:Hid (zag zfs 50 1 0 w1.heap.size w9 (.slice a8 (on+1) c8) ((K.take (k+1)).flatMap g)∧((K.take (k+1)).flatMap g).length=on+1∧Below w1.heap.size w1 w9):=by
          refine⟨?_,?_,(HB36.out.trans (HB8.out.mono HB36.out.size)).trans hb9⟩
          ·
           rw[HTK.out,HGD.out];exact hO9
          ·
           rw[HTK.out,HGD.out,List.length_append,HI.out.2.1];rfl
         have hon1:on+1≤1099511627776:=by have:=HCN.out (k+1);rw[HREL9.out.2.1] at this;exact this
         have hk18:=HK6.out.below HB8.out
         have m1:=hk18.cell 1 _ rfl
         have ml:=hk18.lt
         rw[HFZ.out] at m1
         clear hbw8 hO9 hb9 HB8 HGD HTK hk18
         go_upto_region 18 with fail
         go_wp2_with (at_builtin;refine zac rfl _ _ _ rfl _ _ rfl rfl hr9 ?_)
         go_roundw
         case rel=>exact⟨k+1,on+1,a8,c8,by go_num,rfl,hlt,hon1,HREL9.out⟩
         case measure=>simp[intOf];omega
        | false =>
         obtain⟨-,-,p,hps,hrp⟩:=zhb (HFITX.out v HGX.out) h17 hrep
         obtain⟨-,-,p2,hps2,hrp2⟩:=zhb (HFITY.out u HGY.out) h17 hrep
         obtain⟨hcn,sb1,so1,m1,n1,q1,ua1,un1,uc1,hca,s0,s1,hMp⟩:=zj9 HV1.out hps
         obtain⟨hcn2,sb2,so2,m2,n2,q2,ua3,un3,uc3,hca2,s2,s3,hMq⟩:=zj9 HU1.out hps2
         have hkw:=zaa HB9w.out
         obtain⟨d,HD⟩:∃ d,Hid (d=zit a b p p2):=⟨_,rfl⟩
         have HGD2:Hid (g (q:Int)=if d=true then (za4 s a b f.of p p2).map (z :: ·) else [[z]]):=by
          rw[Hid,HGZ.out,HGX.out,HGY.out,zjk HC.out.symm hps hps2 h17 hrep,HFZ.out,←HD.out]
         have HEQ:=hid (zf7 (hMp.below (HB9w.out.drew)) (hMq.below (HB9w.out.drew)))
         rw[←HD.out] at HEQ
         have HPW:Hid (mwt a p≤mwt (a+1) x∧mwt b p2≤mwt (b+1) y):=by
          have h1:=zeZ (mwt a) hps
          have h2:=zeZ (mwt b) hps2
          have h3:=zgs (x:=x) (by have:=(zcr HGX.out).1;rw[HX.out] at this;exact this)
          have h4:=zgs (x:=y) (by have:=(zcr HGY.out).1;rw[HY.out] at this;exact this)
          exact⟨by omega,by omega⟩
         have HMP:=hid hMp
         have HMQ:=hid hMq
         have HRP:=hid hrp
         have HRQ:=hid hrp2
         have HSC:=hid (And.intro s0 (And.intro s1 (And.intro s2 s3)))
         have hixa:∀ W:World,(Instr.indexAt 42 (.slice ca cn cc) (.int .i64 0)).run Tryz.prog W= .ok (.pointer (some ⟨sb1,so1,none⟩)) W:=fun W=>by have h:=zae Tryz.underlying42 ze2 hca 0 hcn (cap:=cc) W;rw[Nat.zero_mul,Nat.add_zero] at h;exact h
         have hixb:∀ W:World,(Instr.indexAt 42 (.slice ca2 cn2 cc2) (.int .i64 0)).run Tryz.prog W= .ok (.pointer (some ⟨sb2,so2,none⟩)) W:=fun W=>by have h:=zae Tryz.underlying42 ze2 hca2 0 hcn2 (cap:=cc2) W;rw[Nat.zero_mul,Nat.add_zero] at h;exact h
         rw[h17] at k2
         rw[hrep] at k3
         have q0:w9.drew.cell? ⟨FB,2,none⟩=some (.int .i64 17)∧w9.drew.cell? ⟨FB,3,none⟩=some (.bool false)∧w9.drew.cell? ⟨P1,3,none⟩=some (.slice ca cn cc)∧w9.drew.cell? ⟨P2,3,none⟩=some (.slice ca2 cn2 cc2)∧w9.drew.cell? ⟨sb1,so1,none⟩=some (.slice m1 n1 q1)∧w9.drew.cell? ⟨sb1,so1+1,none⟩=some (.slice ua1 un1 uc1)∧w9.drew.cell? ⟨sb2,so2,none⟩=some (.slice m2 n2 q2)∧w9.drew.cell? ⟨sb2,so2+1,none⟩=some (.slice ua3 un3 uc3):=⟨k2,k3,HP9.out.1.cell 3 _ rfl,HP9.out.2.cell 3 _ rfl,hkw _ _ s0,hkw _ _ s1,hkw _ _ s2,hkw _ _ s3⟩
         have HQ0:=hid q0
         clear hps hps2 hMp hMq s0 s1 s2 s3 hkw hrp hrp2 hrep h17 HGY HGX HC HD HGZ k2 k3 kl hca hca2
         refine zeJ (fun w'=>w'.cell? ⟨FB,2,none⟩=some (.int .i64 17)∧w'.cell? ⟨FB,3,none⟩=some (.bool false)∧w'.cell? ⟨P1,3,none⟩=some (.slice ca cn cc)∧w'.cell? ⟨P2,3,none⟩=some (.slice ca2 cn2 cc2)∧w'.cell? ⟨sb1,so1,none⟩=some (.slice m1 n1 q1)∧w'.cell? ⟨sb1,so1+1,none⟩=some (.slice ua1 un1 uc1)∧w'.cell? ⟨sb2,so2,none⟩=some (.slice m2 n2 q2)∧w'.cell? ⟨sb2,so2+1,none⟩=some (.slice ua3 un3 uc3)) (fun _=>True) 17 [(0,0,0),(1,0,0),(2,0,0),(3,0,0),(4,4,77),(5,4,77),(6,4,77),(7,0,0),(8,0,0),(9,4,82),(10,4,82),(11,4,82),(12,4,82),(13,4,82),(14,4,82),(15,4,82),(16,4,82),(17,6,82),(18,0,0)] (by kernel_rfl) rfl rfl (by kernel_rfl) (fun _ _ dst _ _ h=>by cases dst <;> exact h) q0 trivial (fun OPS4 _=>?_)
         clear q0
         simp only[List.map_cons,List.map_nil,List.filterMap_cons,List.filterMap_nil,List.getElem?_cons_succ,List.getElem?_cons_zero]
         refine zfx (v:=?v60) ?hy60 ?hr60
         case hy60=>(intro w hw;go_simp;all_goals rfl)
         simp only[Act.put,pzC,pzD,pzE]
         refine zfx (v:=?v61) ?hy61 ?hr61
         case hy61=>(intro w hw;go_simp;all_goals rfl)
         simp only[Act.put,pzC,pzD,pzE]
         refine zfx (v:=?v62) ?hy62 ?hr62
         case hy62=>(intro w hw;go_simp;all_goals rfl)
         simp only[Act.put,pzC,pzD,pzE]
         refine zfx (v:=?v63) ?hy63 ?hr63
         case hy63=>(intro w hw;go_simp;all_goals rfl)
         simp only[Act.put,pzC,pzD,pzE]
         refine zdF (v:=?v64) ?ht64 ?hy64 ?hr64
         case ht64=>rfl
         case hy64=>(intro w hw;go_simp;all_goals rfl)
         simp only[Act.put,pzC,pzD,pzE]
         refine zdF (v:=?v65) ?ht65 ?hy65 ?hr65
         case ht65=>rfl
         case hy65=>(intro w hw;go_simp;all_goals rfl)
         simp only[Act.put,pzC,pzD,pzE]
         refine zdF (v:=?v66) ?ht66 ?hy66 ?hr66
         case ht66=>rfl
         case hy66=>(intro w hw;go_simp;all_goals rfl)
         simp only[Act.put,pzC,pzD,pzE]
         refine zfx (v:=?v67) ?hy67 ?hr67
         case hy67=>(intro w hw;go_simp;all_goals rfl)
         simp only[Act.put,pzC,pzD,pzE]
         refine zfx (v:=?v68) ?hy68 ?hr68
         case hy68=>(intro w hw;go_simp;all_goals rfl)
         simp only[Act.put,pzC,pzD,pzE]
         refine zdF (v:=?v69) ?ht69 ?hy69 ?hr69
         case ht69=>rfl
         case hy69=>(intro w hw;go_simp;all_goals rfl)
         simp only[Act.put,pzC,pzD,pzE]
         refine zdF (v:=?v70) ?ht70 ?hy70 ?hr70
         case ht70=>rfl
         case hy70=>(intro w hw;go_simp;all_goals rfl)
         simp only[Act.put,pzC,pzD,pzE]
         refine zdF (v:=?v71) ?ht71 ?hy71 ?hr71
         case ht71=>rfl
         case hy71=>(intro w hw;go_simp;all_goals rfl)
         simp only[Act.put,pzC,pzD,pzE]
         refine zdF (v:=?v72) ?ht72 ?hy72 ?hr72
         case ht72=>rfl
         case hy72=>(intro w hw;go_simp;all_goals rfl)
         simp only[Act.put,pzC,pzD,pzE]
         refine zdF (v:=?v73) ?ht73 ?hy73 ?hr73
         case ht73=>rfl
         case hy73=>(intro w hw;go_simp;all_goals rfl)
         simp only[Act.put,pzC,pzD,pzE]
         refine zdF (v:=?v74) ?ht74 ?hy74 ?hr74
         case ht74=>rfl
         case hy74=>(intro w hw;go_simp;all_goals rfl)
         simp only[Act.put,pzC,pzD,pzE]
         refine zdF (v:=?v75) ?ht75 ?hy75 ?hr75
         case ht75=>rfl
         case hy75=>(intro w hw;go_simp;all_goals rfl)
         simp only[Act.put,pzC,pzD,pzE]
         refine zdF (v:=?v76) ?ht76 ?hy76 ?hr76
         case ht76=>rfl
         case hy76=>(intro w hw;go_simp;all_goals rfl)
         simp only[Act.put,pzC,pzD,pzE]
         refine zrn (by rfl) (fun K12 HK12=>?_)
         go_wp2_with fail
         refine HEQ.out.mono ?_
         rintro e W8 ⟨rfl,hb8⟩
         have q1':W8.cell? ⟨FB,2,none⟩=some (.int .i64 17)∧W8.cell? ⟨FB,3,none⟩=some (.bool false)∧W8.cell? ⟨P1,3,none⟩=some (.slice ca cn cc)∧W8.cell? ⟨P2,3,none⟩=some (.slice ca2 cn2 cc2)∧W8.cell? ⟨sb1,so1,none⟩=some (.slice m1 n1 q1)∧W8.cell? ⟨sb1,so1+1,none⟩=some (.slice ua1 un1 uc1)∧W8.cell? ⟨sb2,so2,none⟩=some (.slice m2 n2 q2)∧W8.cell? ⟨sb2,so2+1,none⟩=some (.slice ua3 un3 uc3):=⟨zaa hb8 _ _ HQ0.out.1,zaa hb8 _ _ HQ0.out.2.1,zaa hb8 _ _ HQ0.out.2.2.1,zaa hb8 _ _ HQ0.out.2.2.2.1,zaa hb8 _ _ HQ0.out.2.2.2.2.1,zaa hb8 _ _ HQ0.out.2.2.2.2.2.1,zaa hb8 _ _ HQ0.out.2.2.2.2.2.2.1,zaa hb8 _ _ HQ0.out.2.2.2.2.2.2.2⟩
         have HB8:=hid (HB9.out.trans (((show Below w9.heap.size w9 w9.drew from (Below.refl _ _).drew).trans hb8).mono HB9.out.size))
         have HB8w:=hid (HB9w.out.trans (((show Below w9.heap.size w9 w9.drew from (Below.refl _ _).drew).trans hb8).mono HB9w.out.size))
         have HP8:=hid (And.intro (HP9.out.1.below ((show Below w9.heap.size w9 w9.drew from (Below.refl _ _).drew).trans hb8)) (HP9.out.2.below ((show Below w9.heap.size w9 w9.drew from (Below.refl _ _).drew).trans hb8)))
         clear hb8 HEQ
         go_wp2_with fail
         refine HK12.out _ _ q1' ?_
         clear HK12 K12 q1'
         intro _
         refine zfx (v:=?v80) ?hy80 ?hr80
         case hy80=>(intro w hw;go_simp;all_goals rfl)
         simp only[Act.put,pzC,pzD,pzE]
         refine zkf ?_
         clear HB9 HB9w HP9 HQ0
         cases d with
         | false =>
          have HGD:Hid (g (q:Int)=[[z]]):=HGD2.out
          clear HGD2 hixa hixb
          have hbw8:Below wr.heap.size wr W8:=HB46.out.trans (HB8.out.mono HB46.out.size)
          obtain⟨a8,c8,w9,hr9,hO9,hb9⟩:=zdD (HI.out.1.below hbw8) HI.out.2.1 (Nat.le_trans HI.out.2.2.size hbw8.size) hon (show zbi z by unfold zbi;omega)
          have HREL9:Hid (zag zfs 50 1 0 w1.heap.size w9 (.slice a8 (on+1) c8) ((K.take (k+1)).flatMap g)∧((K.take (k+1)).flatMap g).length=on+1∧Below w1.heap.size w1 w9):=by
           refine⟨?_,?_,(HB36.out.trans (HB8.out.mono HB36.out.size)).trans hb9⟩
           ·
            rw[HTK.out,HGD.out];exact hO9
           ·
            rw[HTK.out,HGD.out,List.length_append,HI.out.2.1];rfl
          have hon1:on+1≤1099511627776:=by have:=HCN.out (k+1);rw[HREL9.out.2.1] at this;exact this
          have hk18:=HK6.out.below HB8.out
          have m1:=hk18.cell 1 _ rfl
          have ml:=hk18.lt
          rw[HFZ.out] at m1
          clear hbw8 hO9 hb9 HB8 HGD HTK hk18
          go_upto_region 18 with fail
          go_wp2_with (at_builtin;refine zac rfl _ _ _ rfl _ _ rfl rfl hr9 ?_)
          go_roundw
          case rel=>exact⟨k+1,on+1,a8,c8,by go_num,rfl,hlt,hon1,HREL9.out⟩
          case measure=>simp[intOf];omega
         | true =>
          obtain⟨L,HL⟩:∃ L,Hid (L=za4 s a b f.of p p2):=⟨_,rfl⟩
          have HGL:Hid (g (q:Int)=L.map (z :: ·)):=by rw[HL.out];exact HGD2.out
          have hLn:L.length≤1099511627776:=by
           have h1:=HCN.out (k+1)
           rw[HTK.out,HGL.out,List.length_append,List.length_map] at h1
           omega
          have hkw:=zaa HB8w.out
          have hbd8:Below w.heap.size w W8.drew:=HB8w.out.drew
          have hpw:mwt a p+mwt b p2≤1099511627776:=by
           have h1:=HPW.out.1
           have h2:=HPW.out.2
           have h3:=HMW.out
           omega
          have HREC:=hid (HIH.out W8.drew _ _ _ f.of p p2 (HS.out.below hbd8) (HMP.out.below hbd8) (HMQ.out.below hbd8) HRP.out HRQ.out hpw)
          have HLL:Hid (∀ t∈L,t.length≤1099511627776):=fun t ht=>by
           rw[HL.out] at ht
           have:=zf4 a b f.of p p2 t ht
           omega
          rw[←HL.out] at HREC
          have hk8:=HK6.out.below HB8.out
          have q0:W8.drew.cell? ⟨FB,5,none⟩=some (.int .i64 f.of)∧W8.drew.cell? ⟨P1,3,none⟩=some (.slice ca cn cc)∧W8.drew.cell? ⟨P2,3,none⟩=some (.slice ca2 cn2 cc2)∧W8.drew.cell? ⟨sb1,so1,none⟩=some (.slice m1 n1 q1)∧W8.drew.cell? ⟨sb1,so1+1,none⟩=some (.slice ua1 un1 uc1)∧W8.drew.cell? ⟨sb2,so2,none⟩=some (.slice m2 n2 q2)∧W8.drew.cell? ⟨sb2,so2+1,none⟩=some (.slice ua3 un3 uc3):=⟨hk8.cell 5 _ rfl,HP8.out.1.cell 3 _ rfl,HP8.out.2.cell 3 _ rfl,hkw _ _ HSC.out.1,hkw _ _ HSC.out.2.1,hkw _ _ HSC.out.2.2.1,hkw _ _ HSC.out.2.2.2⟩
          have HQ0:=hid q0
          have hbrw8:Below wr.heap.size wr W8:=HB46.out.trans (HB8.out.mono HB46.out.size)
          have HI8:Hid (zag zfs 50 1 0 w1.heap.size W8.drew (.slice oa on oc) ((K.take k).flatMap g)∧Below w1.heap.size w1 W8.drew∧∀ b,(Value.slice oa on oc).ownBlock=some b→b<W8.heap.size):=
           ⟨HI.out.1.below hbrw8.drew,(HB36.out.trans (HB8.out.mono HB36.out.size)).drew,fun b e=>Nat.lt_of_lt_of_le (HI.out.1.own b e).2 hbrw8.size⟩
          have HKF8:Hid (Blk W8 FB f.cells 73):=hk8
          have HFBG:Hid (∀ b,(Value.slice oa on oc).ownBlock=some b→b<FB):=fun b e=>by
           have h1:=(HI.out.1.own b e).2
           have h2:=HFB0.out
           omega
          clear hkw hbd8 hk8 HGD2 hbrw8
          go_upto_region 13 with fail
          refine zbk (fun w'=>w'.cell? ⟨FB,5,none⟩=some (.int .i64 f.of)∧w'.cell? ⟨P1,3,none⟩=some (.slice ca cn cc)∧w'.cell? ⟨P2,3,none⟩=some (.slice ca2 cn2 cc2)∧w'.cell? ⟨sb1,so1,none⟩=some (.slice m1 n1 q1)∧w'.cell? ⟨sb1,so1+1,none⟩=some (.slice ua1 un1 uc1)∧w'.cell? ⟨sb2,so2,none⟩=some (.slice m2 n2 q2)∧w'.cell? ⟨sb2,so2+1,none⟩=some (.slice ua3 un3 uc3)) (fun _=>True) 11 [(0,0),(1,0),(2,0),(3,0),(4,0),(5,0),(6,0),(7,0),(8,0),(9,0),(10,0),(11,2),(12,0)] (by kernel_rfl) rfl rfl (by kernel_rfl) (fun _ _ dst _ _ h=>by cases dst <;> exact h) q0 trivial (fun OPS5 _=>?_)
          clear q0
          simp only[List.map_cons,List.map_nil,List.filterMap_cons,List.filterMap_nil,List.getElem?_cons_succ,List.getElem?_cons_zero]
          refine zap (v:=?v90) ?hy90 ?hr90
          case hy90=>(intro w hw;go_simp;all_goals rfl)
          simp only[Act.put,pzC,pzD,pzE]
          refine zap (v:=?v91) ?hy91 ?hr91
          case hy91=>(intro w hw;go_simp;all_goals rfl)
          simp only[Act.put,pzC,pzD,pzE]
          refine zap (v:=?v92) ?hy92 ?hr92
          case hy92=>(intro w hw;go_simp;all_goals rfl)
          simp only[Act.put,pzC,pzD,pzE]
          refine zap (v:=?v93) ?hy93 ?hr93
          case hy93=>(intro w hw;go_simp;all_goals rfl)
          simp only[Act.put,pzC,pzD,pzE]
          refine zap (v:=?v94) ?hy94 ?hr94
          case hy94=>(intro w hw;go_simp;all_goals rfl)
          simp only[Act.put,pzC,pzD,pzE]
          refine zap (v:=?v95) ?hy95 ?hr95
          case hy95=>(intro w hw;go_simp;all_goals rfl)
          simp only[Act.put,pzC,pzD,pzE]
          refine zap (v:=?v96) ?hy96 ?hr96
          case hy96=>(intro w hw;go_simp;all_goals rfl)
          simp only[Act.put,pzC,pzD,pzE]
          refine zap (v:=?v97) ?hy97 ?hr97
          case hy97=>(intro w hw;go_simp;all_goals rfl)
          simp only[Act.put,pzC,pzD,pzE]
          refine zap (v:=?v98) ?hy98 ?hr98
          case hy98=>(intro w hw;go_simp;all_goals rfl)
          simp only[Act.put,pzC,pzD,pzE]
          refine zap (v:=?v99) ?hy99 ?hr99
          case hy99=>(intro w hw;go_simp;all_goals rfl)
          simp only[Act.put,pzC,pzD,pzE]
          refine zap (v:=?v100) ?hy100 ?hr100
          case hy100=>(intro w hw;go_simp;all_goals rfl)
          simp only[Act.put,pzC,pzD,pzE]
          refine zdO (fun K12 HK12=>?_)
          go_wp2_with fail
          refine HREC.out.mono ?_
          rintro e w10 ⟨v10,rfl,hN10,hb10⟩
          have q0:w10.cell? ⟨FB,5,none⟩=some (.int .i64 f.of)∧w10.cell? ⟨P1,3,none⟩=some (.slice ca cn cc)∧w10.cell? ⟨P2,3,none⟩=some (.slice ca2 cn2 cc2)∧w10.cell? ⟨sb1,so1,none⟩=some (.slice m1 n1 q1)∧w10.cell? ⟨sb1,so1+1,none⟩=some (.slice ua1 un1 uc1)∧w10.cell? ⟨sb2,so2,none⟩=some (.slice m2 n2 q2)∧w10.cell? ⟨sb2,so2+1,none⟩=some (.slice ua3 un3 uc3):=⟨zaa hb10 _ _ HQ0.out.1,zaa hb10 _ _ HQ0.out.2.1,zaa hb10 _ _ HQ0.out.2.2.1,zaa hb10 _ _ HQ0.out.2.2.2.1,zaa hb10 _ _ HQ0.out.2.2.2.2.1,zaa hb10 _ _ HQ0.out.2.2.2.2.2.1,zaa hb10 _ _ HQ0.out.2.2.2.2.2.2⟩
          obtain⟨la,lc,rfl⟩:∃ la lc,v10= .slice la L.length lc:=by
           obtain⟨-,la,lc,h,-⟩:=hN10.here.open
           exact⟨la,lc,h⟩
          obtain⟨ln,HLN⟩:∃ n,Hid (n=L.length):=⟨_,rfl⟩
          rw[←HLN.out] at hN10 hLn ⊢
          have HJ0:Hid (zmj w1.heap.size FB w10.heap.size w10 w10 (.slice oa on oc) ((K.take k).flatMap g)∧Below w1.heap.size w1 w10):=
           ⟨⟨HI8.out.1.below hb10,Nat.le_refl _,fun b e=> .inl (HFBG.out b e),fun _ _ _=>rfl⟩,HI8.out.2.1.trans (hb10.mono HI8.out.2.1.size)⟩
          have HK10:Hid (Blk w10 FB f.cells 73):=(show Blk W8.drew FB f.cells 73 from HKF8.out).below hb10
          have HN10:=hid hN10
          have HZ10:Hid (W8.heap.size≤w10.heap.size):=hb10.size
          have HFB8:Hid (FB<W8.heap.size):=HKF8.out.lt
          clear hN10 hb10 HREC HI8 HQ0 HKF8 HFBG
          go_wp2_with fail
          refine HK12.out _ _ q0 ?_
          clear HK12 K12 q0 hixa hixb
          intro _
          refine zap (v:=?v110) ?hy110 ?hr110
          case hy110=>(intro w hw;go_simp;all_goals rfl)
          simp only[Act.put,pzC,pzD,pzE]
          refine zcI ?_
          clear HFITX HFITY HV1 HU1 HMP HMQ HRP HRQ HSC HB6 HB16 HB36 HB46 HK6 HB8 HB8w HP8 HXYL HKI HFAT HC01 HIH HVX HVY HBK
          go_wp2_with fail
          go_loopw [9,18] (fun v9 v18 wx=>∃ (l on2:Nat) (oa2:Option Addr) (oc2:Nat),v18= .int .i64 (l:Int)∧v9= .slice oa2 on2 oc2∧l≤ln∧on2≤1099511627776∧Hid (zmj w1.heap.size FB w10.heap.size w10 wx (.slice oa2 on2 oc2) ((K.take k).flatMap g++(L.take l).map (z :: ·))∧((K.take k).flatMap g++(L.take l).map (z :: ·)).length=on2∧Below w1.heap.size w1 wx)) (fun _ v18 _=>ln - (intOf v18).toNat)
          case atStart=>exact⟨0,on,oa,oc,rfl,rfl,by omega,hon,by simpa using HJ0.out.1,by simpa using HI.out.2.1,HJ0.out.2⟩
          case round =>
           obtain⟨l,on2,oa2,oc2,rfl,rfl,hl,hon2,HJ⟩:=hrel
           clear HJ0
           by_cases hll:l<ln
           ·
            obtain⟨t,ht⟩:∃ t,L[l]?=some t:=⟨_,List.getElem?_eq_getElem (by rw[←HLN.out];exact hll)⟩
            have hsame:∀ b,FB≤b→b<w10.heap.size→wr.heap[b]?=w10.heap[b]?:=HJ.out.1.same
            obtain⟨lb,lo,ta3,tc3,hv,gcell,hlb1,hlb2,hIt⟩:=HN10.out.elem ht
            have hFW:=HFB8.out
            have hZW:=HZ10.out
            replace hlb1:W8.heap.size≤lb:=hlb1
            have hla:la=some ⟨lb,lo,none⟩:=by injection hv
            have hixl:=zad Tryz.underlying31 zcs hla l hll (cap:=lc)
            obtain⟨tn3,HTN⟩:∃ n,Hid (n=t.length):=⟨_,rfl⟩
            have hItw:zaI wr.drew (.slice ta3 t.length tc3) t:=hIt wr.drew fun b h1 h2=>hsame b (by have h1:W8.heap.size≤b:=h1;omega) h2
            obtain⟨a6,n6,c6,w6,hr1,hb6,a7,c7,w7',hr2,hJ7,hb7⟩:=(HJ.out.1.drew).more2 HJ.out.2.1 HJ.out.2.2.size hon2 (show zbi z by unfold zbi;omega) hItw (HLL.out t (List.mem_of_getElem? ht))
            rw[←HTN.out] at gcell hr1
            replace hr1:(Builtin.append_ #[50,50] 50 #[.slice (some ⟨wr.heap.size,0,none⟩) 1 1,.slice ta3 tn3 tc3]).run Tryz.prog (wr.alloc (.cells #[.int .i64 z] 3)).drew= .ok (.slice a6 n6 c6) w6:=hr1
            have hz1:∀ W:World,Blk W FB f.cells 73→W.cell? ⟨FB,1,none⟩=some (.int .i64 z):=fun W hW=>by have:=hW.cell 1 _ rfl;rw[HFZ.out] at this;exact this
            have hKr:Blk wr FB f.cells 73:=(hsame FB (Nat.le_refl _) (by omega)).trans HK10.out
            have q0:wr.drew.cell? ⟨FB,1,none⟩=some (.int .i64 z)∧wr.drew.cell? ⟨lb,lo+l,none⟩=some (.slice ta3 tn3 tc3):=⟨hz1 wr hKr,(World.cell?_of_block (hsame lb (by omega) hlb2)).trans gcell⟩
            have q7:w7'.cell? ⟨FB,1,none⟩=some (.int .i64 z)∧w7'.cell? ⟨lb,lo+l,none⟩=some (.slice ta3 tn3 tc3):=⟨hz1 w7' ((hJ7.same FB (Nat.le_refl _) (by omega)).trans HK10.out),(World.cell?_of_block (hJ7.same lb (by omega) hlb2)).trans gcell⟩
            have HQ0:=hid q0
            have HQ7:=hid q7
            have HB6':=hid hb6
            have hA1:Below wr.heap.size wr (wr.alloc (.cells #[.int .i64 z] 3)).drew:=by (with_reducible repeat first|exact Below.refl _ _|refine pzA ?_ _|refine pzB ?_ _|refine zab ?_ _|refine Below.drew ?_)
            have HA1:=hid hA1
            have hA2:Below wr.heap.size wr (w6.alloc (.cells #[.slice a6 n6 c6] 50)):=Below.alloc ((show Below wr.heap.size wr wr.drew from (Below.refl _ _).drew).trans hb6) hb6.size _
            have HA2:=hid hA2
            have HT1:Hid ((K.take k).flatMap g++(L.take (l+1)).map (z :: ·)=((K.take k).flatMap g++(L.take l).map (z :: ·))++[z::t]):=by
             rw[Hid,List.take_add_one,ht,List.map_append,List.append_assoc];rfl
            have HREL7:Hid (zmj w1.heap.size FB w10.heap.size w10 w7' (.slice a7 (on2+1) c7) ((K.take k).flatMap g++(L.take (l+1)).map (z :: ·))∧((K.take k).flatMap g++(L.take (l+1)).map (z :: ·)).length=on2+1∧Below w1.heap.size w1 w7'):=by
             rw[HT1.out]
             exact⟨hJ7,by rw[List.length_append,HJ.out.2.1];rfl,HJ.out.2.2.drew.trans hb7⟩
            have hon3:on2+1≤1099511627776:=by
             have h1:=HCN.out (k+1)
             rw[HTK.out,HGL.out,List.length_append,List.length_map] at h1
             have h2:=HREL7.out.2.1
             rw[List.length_append,List.length_map,List.length_take] at h2
             have h3:=HLN.out
             omega
            clear hItw hJ7 hb7 hb6 hA1 hA2 HJ ht hla HT1 HTK HGL hz1 hKr hsame gcell hIt hv q7
            go_upto_region 17 with fail
            refine zbk (fun w'=>w'.cell? ⟨FB,1,none⟩=some (.int .i64 z)∧w'.cell? ⟨lb,lo+l,none⟩=some (.slice ta3 tn3 tc3)) (fun _=>True) 3 [(0,0),(1,0),(2,0),(4,0),(5,0),(6,0),(7,0),(3,2),(8,2),(9,2),(10,2),(11,0)] (by kernel_rfl) rfl rfl (by kernel_rfl) (fun _ _ dst _ _ h=>by cases dst <;> exact h) q0 trivial (fun OPS6 _=>?_)
            clear q0
            simp only[List.map_cons,List.map_nil,List.filterMap_cons,List.filterMap_nil,List.getElem?_cons_succ,List.getElem?_cons_zero]
            refine zap (v:=?v120) ?hy120 ?hr120
            case hy120=>(intro w hw;go_simp;all_goals rfl)
            simp only[Act.put,pzC,pzD,pzE]
            refine zap (v:=?v121) ?hy121 ?hr121
            case hy121=>(intro w hw;go_simp;all_goals rfl)
            simp only[Act.put,pzC,pzD,pzE]
            refine zap (v:=?v122) ?hy122 ?hr122
            case hy122=>(intro w hw;go_simp;all_goals rfl)
            simp only[Act.put,pzC,pzD,pzE]
            refine zap (v:=?v123) ?hy123 ?hr123
            case hy123=>(intro w hw;go_simp;all_goals rfl)
            simp only[Act.put,pzC,pzD,pzE]
            refine zap (v:=?v124) ?hy124 ?hr124
            case hy124=>(intro w hw;go_simp;all_goals rfl)
            simp only[Act.put,pzC,pzD,pzE]
            refine zap (v:=?v125) ?hy125 ?hr125
            case hy125=>(intro w hw;go_simp;all_goals rfl)
            simp only[Act.put,pzC,pzD,pzE]
            refine zap (v:=?v126) ?hy126 ?hr126
            case hy126=>(intro w hw;go_simp;all_goals rfl)
            simp only[Act.put,pzC,pzD,pzE]
            refine zdO (fun K12 HK12=>?_)
            go_wp2_with fail
            refine HK12.out _ _ (⟨zaa HA1.out _ _ HQ0.out.1,zaa HA1.out _ _ HQ0.out.2⟩) ?_
            clear HK12 K12
            intro _
            refine zdO (fun K12 HK12=>?_)
            go_wp2_with (at_builtin;refine zac rfl _ _ _ rfl _ _ rfl rfl hr1 ?_)
            refine HK12.out _ _ (⟨zaa HB6'.out _ _ HQ0.out.1,zaa HB6'.out _ _ HQ0.out.2⟩) ?_
            clear HK12 K12 hr1
            intro _
            refine zdO (fun K12 HK12=>?_)
            go_wp2_with fail
            refine HK12.out _ _ (⟨zaa HA2.out _ _ HQ0.out.1,zaa HA2.out _ _ HQ0.out.2⟩) ?_
            clear HK12 K12
            intro _
            refine zdO (fun K12 HK12=>?_)
            go_wp2_with (at_builtin;refine zac rfl _ _ _ rfl _ _ rfl rfl hr2 ?_)
            refine HK12.out _ _ HQ7.out ?_
            clear HK12 K12 hr2
            intro _
            refine zap (v:=?v140) ?hy140 ?hr140
            case hy140=>(intro w hw;go_simp;all_goals rfl)
            simp only[Act.put,pzC,pzD,pzE]
            refine zcI ?_
            clear HQ0 HQ7 HB6' HA1 HA2
            go_wp2_with fail
            go_roundw
            case rel=>exact⟨l+1,on2+1,a7,c7,by go_num,rfl,hll,hon3,HREL7.out⟩
            case measure=>simp[intOf];omega
           ·
            obtain rfl:l=ln:=by omega
            have HREL9:Hid (zag zfs 50 1 0 w1.heap.size wr (.slice oa2 on2 oc2) ((K.take (k+1)).flatMap g)∧((K.take (k+1)).flatMap g).length=on2∧Below w1.heap.size w1 wr):=by
             have e:(K.take (k+1)).flatMap g=(K.take k).flatMap g++(L.take l).map (z :: ·):=by
              rw[HTK.out,HGL.out,HLN.out,List.take_length]
             rw[e]
             exact⟨HJ.out.1.rows,HJ.out.2.1,HJ.out.2.2⟩
            clear HJ HTK HGL
            go_wp2_with fail
            go_roundw
            case rel=>exact⟨k+1,on2,oa2,oc2,by go_num,rfl,hlt,hon2,HREL9.out⟩
            case measure=>simp[intOf];omega
       ·
        have HGD:Hid (g (q:Int)=[[z]]):=by
         rw[Hid,HGZ.out,HGX.out,HGY.out,zed HC.out.symm (fun h=>h17 h.1),HFZ.out]
        have e17:(f.kind == 17)=false:=by simpa using h17
        have e18:decide (f.kind=17)=false:=decide_eq_false h17
        clear h17
        go_quiet (fail)
        obtain⟨W8,HW8⟩:∃ W,Hid (W=w9.drewN nq):=⟨_,rfl⟩
        rw[←HW8.out]
        have HB8:Hid (Below W6.heap.size W6 W8):=by rw[HW8.out];exact zab HB9.out _
        clear HW8 HB9
        have hbw8:Below wr.heap.size wr W8:=HB46.out.trans (HB8.out.mono HB46.out.size)
        obtain⟨a8,c8,w9,hr9,hO9,hb9⟩:=zdD (HI.out.1.below hbw8) HI.out.2.1 (Nat.le_trans HI.out.2.2.size hbw8.size) hon (show zbi z by unfold zbi;omega)
        have HREL9:Hid (zag zfs 50 1 0 w1.heap.size w9 (.slice a8 (on+1) c8) ((K.take (k+1)).flatMap g)∧((K.take (k+1)).flatMap g).length=on+1∧Below w1.heap.size w1 w9):=by
         refine⟨?_,?_,(HB36.out.trans (HB8.out.mono HB36.out.size)).trans hb9⟩
         ·
          rw[HTK.out,HGD.out];exact hO9
         ·
          rw[HTK.out,HGD.out,List.length_append,HI.out.2.1];rfl
        have hon1:on+1≤1099511627776:=by have:=HCN.out (k+1);rw[HREL9.out.2.1] at this;exact this
        have hk18:=HK6.out.below HB8.out
        have m1:=hk18.cell 1 _ rfl
        have ml:=hk18.lt
        rw[HFZ.out] at m1
        clear hbw8 hO9 hb9 HB8 HGD HTK hk18
        go_upto_region 18 with fail
        go_wp2_with (at_builtin;refine zac rfl _ _ _ rfl _ _ rfl rfl hr9 ?_)
        go_roundw
        case rel=>exact⟨k+1,on+1,a8,c8,by go_num,rfl,hlt,hon1,HREL9.out⟩
        case measure=>simp[intOf];omega
  ·
   obtain rfl:k=fn:=by omega
   have HFIN:Hid (Q (.returned (.slice oa on oc)) wr):=by
    rw[HQ.out]
    have h:=HI.out.1
    rw[HKL.out,List.take_length] at h
    refine⟨_,rfl,⟨?_,w1.heap.size,HB1.out.size,by rw[HDW.out];exact h⟩,HB1.out.trans (HI.out.2.2.mono HB1.out.size)⟩
    have h1:=HCN.out k
    rw[HKL.out,List.take_length] at h1
    rw[HDW.out];exact h1
   clear HI
   go_wp2_with fail
   exact HFIN.out
end
end Go.Proofs.YtpckoeicbjfnhaaGreatDoor
