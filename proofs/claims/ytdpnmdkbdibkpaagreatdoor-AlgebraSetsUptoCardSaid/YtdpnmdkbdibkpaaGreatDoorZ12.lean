/- Parts of a proof: texts of the author, merged. No condition of their own. -/
import Derived.Test.YtdpnmdkbdibkpaaGreatDoorZ07
import Derived.Test.YtdpnmdkbdibkpaaGreatDoorZ08
import Derived.Test.YtdpnmdkbdibkpaaGreatDoorZ10
import Derived.Test.YtdpnmdkbdibkpaaGreatDoorZ11
import Derived.Deep.RegionLaw
namespace Go.Proofs.YtdpnmdkbdibkpaaGreatDoor
set_option maxRecDepth 100000
set_option maxHeartbeats 16000000
section
open Go.RowKit
theorem zls {w:World}:∀ (rows:List (List Value)) (ls:List (List Int)),rows.length=ls.length→(∀ (i:Nat) (r:List Value) (x:List Int),rows[i]?=some r→ls[i]?=some x→zoU w r x) →
  ∃ ps:List (WV w),ps.map WV.way=ls∧ps.map WV.val=rows.flatten
 | [],[],_,_=>⟨[],rfl,rfl⟩
 | [],_::_,h,_=>by simp at h
 | _::_,[],h,_=>by simp at h
 | r::rows,x::ls,h,hp=>by
  obtain⟨v,rfl,hI⟩:=hp 0 r x rfl rfl
  obtain⟨ps,h1,h2⟩:=zls rows ls (by simpa using h) fun i r x hr hx=>hp (i+1) r x (by simpa using hr) (by simpa using hx)
  exact⟨WV.mk v x hI::ps,by rw[List.map_cons,h1,WV.way_mk],by rw[List.map_cons,h2,WV.val_mk];rfl⟩
theorem zaM.pairs {w:World}{v:Value}{ls:List (List Int)}(h:zaM w v ls):∃ ps:List (WV w),ps.map WV.way=ls∧Seg w v 1 ps.length (ps.map WV.val):=by
 obtain⟨rows,h1,-,h3,h4⟩:=h
 obtain⟨ps,e1,e2⟩:=zls rows ls h1 h4
 have e3:ps.length=ls.length:=by rw[←e1,List.length_map]
 exact⟨ps,e1,by rw[e2,e3];exact h3⟩
theorem zkC {w:World}(ps:List (WV w)):∀ u∈ps.map WV.val,u.oneCell'=true:=by
 intro u hu
 obtain⟨p,-,rfl⟩:=List.mem_map.1 hu
 exact p.one
theorem seg_wv {w0 w:World}{v:Value}{ps:List (WV w0)}(h:Seg w v 1 ps.length (ps.map WV.val)):∃ a cap,v= .slice a ps.length cap∧∀ k (p:WV w0),ps[k]?=some p→∃ b o a2 c2,a=some ⟨b,o,none⟩∧w.cell? ⟨b,o+k,none⟩=some (.slice a2 p.way.length c2)∧zar w0 (.slice a2 p.way.length c2) p.way:=by
 obtain⟨-,-,a,cap,hv,-,-,-,hc⟩:=h
 refine⟨a,cap,hv,fun k p hk=>?_⟩
 obtain⟨b,o,ha,hcell⟩:=hc k p.val (by simp[hk])
 have hI:=p.2
 have hI':=hI
 obtain⟨-,a2,c2,hv2,-,-⟩:=hI'.open
 refine⟨b,o,a2,c2,ha,?_,?_⟩
 ·
  rw[hcell];exact congrArg some hv2
 ·
  show zar w0 (.slice a2 p.1.2.length c2) p.1.2
  rw[←hv2];exact hI
theorem zh5 {o:List (List Int)}{w:List Int}{r:List (List Int)}(h:w=[]∨(∃ u,o.getLast?=some u∧u <+: w)):zdb o (w::r)=zdb o r:=by rw[zdb,if_pos h]
theorem zh6 {o:List (List Int)}{w:List Int}{r:List (List Int)}(h:¬ (w=[]∨(∃ u,o.getLast?=some u∧u <+: w))):zdb o (w::r)=zdb (o++[w]) r:=by rw[zdb,if_neg h]
theorem zlt {w:World}{base:Nat}{v:Value}{l:List Int}(h:zb0 w base v l):v.oneCell'=true:=by
 obtain⟨a,c,rfl⟩:=h.form
 rfl
theorem zb0.apart {w:World}{n0 base:Nat}{v:Value}{l:List Int}(h:zb0 w base v l)(hn:l.length≤140737488355328)(hl:∀ x∈l,zcb x):zap n0 base w (fun w'=>zoU w' [v] l):=fun _ hw' =>
 ⟨v,rfl,zb0.ints (zbk h fun b _ hb he=>hw' b (Array.getElem?_eq_some_iff.1 he).1 (.inr hb)) hn hl⟩
def zdc (ls:List (List Int)):Prop:=ls.length≤1099511627776∧∀ l∈ls,l.length≤17592186044416
def zeg (w w':World)(v:Value)(o:List (List Int)):Prop:=o.length≤1099511627776∧∃ base,w.heap.size≤base∧zam zoU 28 1 0 base w' v o
theorem zeg.here {w w':World}{v:Value}{o:List (List Int)}(h:zeg w w' v o):zaM w' v o:=by
 obtain⟨hl,base,-,h⟩:=h
 exact h.at (by omega) fun _ _ _=>rfl
theorem zeg.later {w0 w w' w2:World}{v:Value}{o:List (List Int)}(h:zeg w w' v o)(h0:w0.heap.size≤w.heap.size)(hs:w'.heap.size≤w2.heap.size)(hw:∀ b,w.heap.size≤b→b<w'.heap.size→w2.heap[b]?=w'.heap[b]?):zeg w0 w2 v o:=by
 obtain⟨hl,base,hb,h⟩:=h
 refine⟨hl,base,Nat.le_trans h0 hb,h.later (fun b h1 h2=>hw b (by omega) h1) hs⟩
def zez (w:World)(o:List (List Int))(e:Ending)(w':World):Prop:=∃ v',e= .returned (zb1 v')∧zeg w w' v' o∧Below w.heap.size w w'
theorem zgU {w:World}{v:Value}{ls:List (List Int)}(h:zaM w v ls)(hL:zdc ls) :
  Calls Tryz.prog 20 #[v] w (zez w (mOf ls)):=by
 have hA:Below w.heap.size w (w.alloc (.cells #[.slice none 0 0] 69)):=(Below.refl _ _).alloc (Nat.le_refl _) _
 obtain⟨wA,HA⟩:∃ wA,Hid (wA=w.alloc (.cells #[.slice none 0 0] 69)):=⟨_,rfl⟩
 have HBX:Hid (Blk wA w.heap.size [.slice none 0 0] 69):=by rw[HA.out];exact Blk.new w [.slice none 0 0] _
 rw[←HA.out] at hA
 have HSZ:Hid (wA.heap.size=w.heap.size+1):=by rw[HA.out];simp[Hid]
 obtain⟨ps,e1,hseg⟩:=(h.below hA).pairs
 have HWA:=hid hA
 have HL:=hid hL
 have hpl:ps.length=ls.length:=by rw[←e1,List.length_map]
 have HCL:=hid (zl9 (w:=wA) (vs:=ps.map WV.val) (by rw[List.length_map];exact hseg) (zkC ps) (by rw[List.length_map,hpl];exact hL.1))
 obtain⟨-,a,c,rfl,-,-⟩:=h.open
 obtain⟨n,HN⟩:∃ n,Hid (n=ls.length):=⟨_,rfl⟩
 rw[←HN.out] at HCL ⊢
 obtain⟨Q,HQ⟩:∃ Q:Ending→World→Prop,Hid (Q=zez w (mOf ls)):=⟨_,rfl⟩
 rw[←HQ.out]
 have HE:=hid e1
 have HPL:=hid hpl
 clear h hA hL e1 hseg hpl
 go_enter Tryz.func20,Tryz.ntmps20
 go_wp2_with fail
 rw[←HA.out]
 refine HCL.out.mono ?_
 rintro e w1 ⟨v1,rfl,hO,hB1⟩
 have HSORT:=hid (ziF ps hO (Nat.le_refl _) hB1 (by rw[HPL.out];exact HL.out.1))
 have HB1:=hid hB1
 have hv1:=zbo hO (by rw[List.length_map,HPL.out];have:=HL.out.1;omega)
 obtain⟨-,-,a1,c1,rfl,-⟩:=hv1
 have hvn:(ps.map WV.val).length=n:=by rw[List.length_map,HPL.out,HN.out]
 rw[hvn] at HSORT ⊢
 clear hO hB1 hvn
 go_wp2_with fail
 refine HSORT.out.mono ?_
 rintro e w2 ⟨rfl,ps',hperm,hpw,hseg,hB2⟩
 have hps:ps'.length=n:=by rw[hperm.length_eq,HPL.out,HN.out]
 rw[hps] at hseg
 have HSEG:=hid hseg
 obtain⟨s,HS⟩:∃ s,Hid (s=ps'.map WV.way):=⟨_,rfl⟩
 have HGET:Hid (∀ k (x:List Int),s[k]?=some x→∃ b o a2 c2,a1=some ⟨b,o,none⟩∧w2.cell? ⟨b,o+k,none⟩=some (.slice a2 x.length c2)∧zar wA (.slice a2 x.length c2) x∧x.length≤17592186044416):=by
  obtain⟨a3,c3,hv3,hc3⟩:=seg_wv (ps:=ps') (by rw[hps];exact hseg)
  cases hv3
  intro k x hx
  rw[HS.out,List.getElem?_map] at hx
  obtain⟨p,hp,rfl⟩:=Option.map_eq_some_iff.1 hx
  obtain⟨b,o,a2,c2,h1,h2,h3⟩:=hc3 k p hp
  refine⟨b,o,a2,c2,h1,h2,h3,HL.out.2 _ ?_⟩
  rw[←HE.out]
  exact List.mem_map.2 ⟨p,(hperm.mem_iff).1 (List.mem_of_getElem? hp),rfl⟩
 have HSN:Hid (n=s.length):=by rw[Hid,HS.out,List.length_map,hps]
 have HM:Hid (zdb [] s=mOf ls):=by
  refine znw (fun x=>?_) (by rw[HS.out];exact hpw)
  rw[HS.out,←HE.out]
  exact (hperm.map WV.way).mem_iff
 have HB2:=hid hB2
 have HW2:Hid (w.heap.size≤w2.heap.size):=by have:=hB2.size;have:=HSZ.out;show _≤_;omega
 have HNL:Hid (n≤1099511627776):=by rw[Hid,HN.out];exact HL.out.1
 have hn:=HNL.out
 clear hperm hpw hseg hB2 hps HSORT HCL
 go_wp2_with fail
 go_loopw [4,13] (fun v4 v13 wr=>∃ (k:Nat) (o:List (List Int)),v13= .int .i64 k∧k≤n∧Hid (zam zoU 28 1 0 w2.heap.size wr v4 o∧o.length≤k∧zdb o (s.drop k)=mOf ls∧Below w2.heap.size w2 wr)) (fun _ v13 _=>n - (intOf v13).toNat)
 case atStart=>exact⟨0,[],rfl,by omega,zam.nil _ _ _ _ _ _,by simp,HM.out,Below.refl _ _⟩
 case round =>
  obtain⟨k,o,rfl,hk,HI⟩:=hrel
  have hOF:=HI.out.1.form
  obtain⟨oa,oc,hoe⟩:=hOF
  obtain⟨j,HJ⟩:∃ j,Hid (j=o.length):=⟨_,rfl⟩
  rw[←HJ.out] at hoe
  subst hoe
  have hjk:j≤k:=by rw[HJ.out];exact HI.out.2.1
  by_cases hlt:k<n
  ·
   obtain⟨x,hx⟩:=zeS HSN.out hlt
   obtain⟨b,q,xa,xc,ha,g0,hX,hxl⟩:=HGET.out k x hx
   replace g0:=zaa HI.out.2.2.2 _ _ g0
   have HXW:=hid ((hX.below HB2.out).below HI.out.2.2.2)
   have HXL:=hid hxl
   have hix:=zag Tryz.underlying67 zcT ha k hlt (cap:=c1)
   have HD:=hid (zbS hx)
   obtain⟨m,HMM⟩:∃ m,Hid (m=x.length):=⟨_,rfl⟩
   rw[←HMM.out] at g0 HXW
   have HX64:=hid hX.2
   clear hx hX ha hxl
   by_cases hm:m=0
   ·
    subst hm
    have HSK:=hid (zh5 (o:=o) (w:=x) (r:=s.drop (k+1)) (.inl (List.length_eq_zero_iff.1 HMM.out.symm)))
    go_wp2_with fail
    go_roundw
    case rel=>exact⟨k+1,o,by go_num,hlt,HI.out.1,by have:=HI.out.2.1;omega,by rw[←HSK.out,←HD.out];exact HI.out.2.2.1,HI.out.2.2.2⟩
    case measure=>simp[intOf];omega
   ·
    have HXN:Hid (x≠[]):=fun e=>hm (by rw[HMM.out,e];rfl)
    have e1:((m:Int) == 0)=false:=by simp;omega
    have e2:(m == 0)=false:=by simp;omega
    have e3:decide ((m:Int)=0)=false:=by simp;omega
    by_cases hj:j=0
    ·
     subst hj
     have HO0:Hid (o=[]):=List.length_eq_zero_iff.1 HJ.out.symm
     have HTK:=hid (zh6 (o:=o) (w:=x) (r:=s.drop (k+1)) (by rw[HO0.out];simp;exact HXN.out))
     go_wp2_with fail
     have hcl:=zh2 (HXW.out) HXL.out
     refine hcl.mono ?_
     clear hcl
     rintro e w4 ⟨v5,rfl,hO5,hB5⟩
     obtain⟨a5,c5,hv5⟩:=hO5.form
     rw[←HMM.out] at hv5
     subst hv5
     obtain⟨a',c',w6,hr,hO6,hB6,hB7⟩:=(HI.out.1).step hB5 (by decide) (Nat.zero_le _) HI.out.2.2.2.size HJ.out.symm (G:=Tryz.prog) 67 (.slice none 0 0) 24 zcH ze7 rfl #[.slice a5 m c5] rfl (by intro u hu;simp at hu;subst hu;exact zlt hO5) x (hO5.apart (by have:=HXL.out;omega) HX64.out) (by have:=HNL.out;omega) (by decide)
     have HO6:=hid hO6
     have HB7:=hid hB7
     clear hO5 hB5 hO6 hB6 hB7
     go_wp2_with (at_builtin;refine zaf rfl _ _ _ rfl _ _ rfl rfl hr ?_)
     go_roundw
     case rel=>exact⟨k+1,o++[x],by go_num,hlt,HO6.out,by rw[List.length_append];have:=HI.out.2.1;simp;omega,by rw[←HTK.out,←HD.out];exact HI.out.2.2.1,HI.out.2.2.2.trans HB7.out⟩
     case measure=>simp[intOf];omega
    ·
     have hj0:0<j:=by omega
     obtain⟨u,HU⟩:∃ u,Hid (o[j - 1]?=some u):=zeS HJ.out (by omega)
     have HLAST:Hid (o.getLast?=some u):=by rw[Hid,List.getLast?_eq_getElem?,←HJ.out];exact HU.out
     have hWA:=zam.at HI.out.1 (by have:=HI.out.2.1;have:=HNL.out;omega) (w':=wr) (fun _ _ _=>rfl)
     obtain⟨-,oa',oc',hoe,-,hoat⟩:=zaM.open hWA
     rw[←HJ.out] at hoe
     cases hoe
     obtain⟨b2,q2,ua,uc,ha2,g2,hU⟩:=hoat (j - 1) u HU.out
     have hix2:=zag Tryz.underlying67 zcT ha2 (j - 1) (by omega:j - 1<j) (cap:=oc)
     rw[show ((j - 1:Nat):Int)=(j:Int) - 1 by omega] at hix2
     have HUW:=hid hU
     obtain⟨um,HUM⟩:∃ um,Hid (um=u.length):=⟨_,rfl⟩
     rw[←HUM.out] at g2 HUW
     have hBEG:=zkA HXW.out HUW.out
     obtain⟨y,HY⟩:∃ y,Hid (y=zdH x u):=⟨_,rfl⟩
     rw[←HY.out] at hBEG
     have HBEG:=hid hBEG
     clear hBEG hWA hoat ha2 hU
     cases y with
     | true =>
      have HSK:=hid (zh5 (o:=o) (w:=x) (r:=s.drop (k+1)) (.inr ⟨u,HLAST.out,(zdI _ _).1 HY.out.symm⟩))
      go_wp2_with (go_at_call 44;refine HBEG.out.mono ?_;rintro e w' ⟨rfl,hd⟩;have HDW:=hid hd.below;clear hd)
      go_roundw
      case rel=>exact⟨k+1,o,by go_num,hlt,HI.out.1.below HDW.out,by have:=HI.out.2.1;omega,by rw[←HSK.out,←HD.out];exact HI.out.2.2.1,zai HI.out.2.2.2 HDW.out HI.out.2.2.2.size⟩
      case measure=>simp[intOf];omega
     | false =>
      have HTK:=hid (zh6 (o:=o) (w:=x) (r:=s.drop (k+1)) (by rintro (e|⟨u2,e,hp⟩);exact HXN.out e;rw[HLAST.out] at e;cases e;have:=(zdI x u).2 hp;rw[←HY.out] at this;cases this))
      go_wp2_with (go_at_call 44;refine HBEG.out.mono ?_;rintro e w3 ⟨rfl,hd⟩;have HDW:=hid hd.below;clear hd)
      have hcl:=zh2 (HXW.out.below HDW.out) HXL.out
      refine hcl.mono ?_
      clear hcl
      rintro e w4 ⟨v5,rfl,hO5,hB5⟩
      obtain⟨a5,c5,hv5⟩:=hO5.form
      rw[←HMM.out] at hv5
      subst hv5
      obtain⟨a',c',w6,hr,hO6,hB6,hB7⟩:=(HI.out.1.below HDW.out).step hB5 (by decide) (Nat.zero_le _) (Nat.le_trans HI.out.2.2.2.size HDW.out.size) HJ.out.symm (G:=Tryz.prog) 67 (.slice none 0 0) 24 zcH ze7 rfl #[.slice a5 m c5] rfl (by intro u hu;simp at hu;subst hu;exact zlt hO5) x (hO5.apart (by have:=HXL.out;omega) HX64.out) (by have:=HNL.out;omega) (by decide)
      have HO6:=hid hO6
      have HB7:=hid hB7
      clear hO5 hB5 hO6 hB6 hB7
      go_wp2_with (at_builtin;refine zaf rfl _ _ _ rfl _ _ rfl rfl hr ?_)
      go_roundw
      case rel=>exact⟨k+1,o++[x],by go_num,hlt,HO6.out,by rw[List.length_append];have:=HI.out.2.1;simp;omega,by rw[←HTK.out,←HD.out];exact HI.out.2.2.1,(zai HI.out.2.2.2 HDW.out HI.out.2.2.2.size).trans HB7.out⟩
      case measure=>simp[intOf];omega
  ·
   obtain rfl:k=n:=by omega
   have HEN:Hid (o=mOf ls):=by
    have:=HI.out.2.2.1
    rw[List.drop_eq_nil_of_le (by rw[←HSN.out];omega)] at this
    exact this
   have HBX2:=hid ((HBX.out.below HB2.out).below HI.out.2.2.2)
   have c0:=HBX2.out.cell 0 _ rfl
   have f0:=HBX2.out.free 0
   have hsz:=HBX2.out.lt
   have HFIN:Hid (zez w (mOf ls) (.returned (zb1 (.slice oa j oc))) (wr.setCell ⟨w.heap.size,0,none⟩ (.slice oa j oc))):=by
    have hw2:w.heap.size+1≤w2.heap.size:=by have:=HB2.out.size;have:=HSZ.out;omega
    refine⟨_,rfl,?_,?_⟩
    ·
     rw[←HEN.out]
     refine⟨by rw[←HJ.out];have:=HNL.out;omega,w2.heap.size,by omega,?_⟩
     exact HI.out.1.later (fun b hb hc=>Below.heap_setCell _ _ _ _ (by show b≠w.heap.size;omega)) (by simp)
    ·
     have h1:Below w.heap.size w w2:=HWA.out.trans (HB2.out.mono (by have:=HSZ.out;omega))
     exact (h1.trans (HI.out.2.2.2.mono (by omega))).setCell (Nat.le_refl _) _
   have HCS:Hid ((wr.setCell ⟨w.heap.size,0,none⟩ (.slice oa j oc)).cell? ⟨w.heap.size,0,none⟩=some (.slice oa j oc)):=World.cell?_setCell_same' _ _ _ (by rw[c0];rfl)
   clear hlt
   go_wp2_with fail
   rw[HQ.out]
   refine bodyPost_ret (v:=zb1 (.slice oa j oc)) (by simp[results,Tryz.results20,go_sem,zb1,HCS.out]) rfl HFIN.out
end
section
open Go.RowKit Go.Deep
theorem zmb:Tryz.prog.cellsOf 3=1:=by kernel_rfl
theorem znC:Tryz.prog.bytesOf 3=8:=by kernel_rfl
theorem zjG:∀ n:Nat,((List.range n).map fun _=>1).sum=n
 | 0=>rfl
 | n+1=>by rw[List.range_succ,List.map_append,List.sum_append,zjG n];simp
theorem zjH {H:Type}{enc:TypeId × Value→H}{w:World}{v:Value}{d:DataW H}{p:List MemPlace}(hv:∃ a n c,v= .slice a n c)(h:DataW.Trod enc Tryz.prog w 0 (fun _=>true) true 28 v d p)(hL:zcC Tryz.prog 28 d) :
  ∃ l,zar w v l∧l.length+1≤Rows.uptoBulk d:=by
 obtain⟨n,fuel,css,D,Pl,hs,hel,hd⟩:=zda Tryz.underlying28 zmb (by rw[znC];omega) hv h hL
 obtain⟨c,hc⟩:=choose_lt (α:=Int) (n:=n) (p:=fun i c=>css i=[zoG c]∧zcb c) (fun i hi=>by
  obtain⟨h1,h2,-⟩:=hel i hi
  obtain⟨z,hz,-,wz⟩:=DataW.trod_int Tryz.underlying3 h2
  have hb:-9223372036854775808≤z∧z≤9223372036854775807:=by simpa [Lit.wf,IntKind.min,IntKind.max,IntKind.signed,IntKind.bits] using wz
  exact⟨z,hz,hb⟩)
 refine⟨(List.range n).map c,⟨?_,?_⟩,?_⟩
 ·
  rw[List.length_map,List.length_range,List.map_map,←ziz n css (zoG ∘ c) (fun i hi=>(hc i hi).1)]
  exact hs
 ·
  intro t ht
  obtain⟨i,hi,rfl⟩:=List.mem_map.1 ht
  exact (hc i (List.mem_range.1 hi)).2
 ·
  have:=zew (f:=fun _=>1) hd fun i _=>zev _
  rw[zjG] at this
  simpa using this
end
section
open Go.RowKit
structure But (b:Nat)(w w':World):Prop where
 os:w'.os=w.os
 tape:w'.tape=w.tape
 output:w'.output=w.output
 size:w.heap.size≤w'.heap.size
 block:∀ c,c<w.heap.size→c≠b→w'.heap[c]?=w.heap[c]?
theorem But.refl (b:Nat)(w:World):But b w w:=⟨rfl,rfl,rfl,Nat.le_refl _,fun _ _ _=>rfl⟩
theorem But.trans {b:Nat}{w w1 w2:World}(h:But b w w1)(g:But b w1 w2):But b w w2:=
 ⟨g.os.trans h.os,g.tape.trans h.tape,g.output.trans h.output,Nat.le_trans h.size g.size,fun c hc hn=>(g.block c (Nat.lt_of_lt_of_le hc h.size) hn).trans (h.block c hc hn)⟩
theorem But.to_below {b n:Nat}{w w':World}(h:But b w w')(hb:n≤b)(hn:n≤w.heap.size):Below n w w':=⟨h.os,h.tape,h.output,h.size,fun c hc=>h.block c (by omega) (by omega)⟩
theorem But.blk {b c:Nat}{w w':World}{cs:List Value}{T:TypeId}(h:But b w w')(hc:Blk w c cs T)(hn:c≠b):Blk w' c cs T:=(h.block c hc.lt hn).trans hc
theorem But.cell {b:Nat}{w w':World}(h:But b w w'){p:Addr}{u:Value}(hp:p.block≠b)(hu:w.cell? p=some u):w'.cell? p=some u:=by
 rw[World.cell?_of_block (h.block p.block (World.block_lt_of_cell? w _ hu) hp)];exact hu
theorem But.set {w:World}{b:Nat}{cs:List Value}{T:TypeId}(_h:Blk w b cs T)(j:Nat)(v:Value):But b w (w.setCell ⟨b,j,none⟩ v):=
 ⟨rfl,rfl,rfl,by show w.heap.size≤(w.heap.modify b _).size;rw[Array.size_modify];exact Nat.le_refl _,fun c _ hn=>Below.heap_setCell w ⟨b,j,none⟩ v c hn⟩
end
section
open Go.RowKit
def zf1 {α:Type}(f:α→Nat):List α→Nat→Nat
 | [],n=>n
 | x::t,n=>if 5000≤n+f x then 5000 else zf1 f t (n+f x)
def szV {α:Type}(f:α→Nat)(v:Val α):Nat:=zf1 f v.subs (1+v.words.length+twt v.texts)
def szM:(k d:Nat)→M d→Nat
 | 0,_,_=>5000
 | _+1,0,_=>0
 | k+1,d+1,x=>zf1 (szV (szM k d)) (M.vals x) (1+twt (M.unk x))
theorem znD {α:Type}(f:α→Nat):∀ (l:List α) (n:Nat),n<5000→zf1 f l n≤5000
 | [],n,h=>by simp only[zf1];omega
 | x::t,n,h=>by
  unfold zf1
  split
  ·
   omega
  ·
   exact znD f t (n+f x) (by omega)
theorem znE {α:Type}(f:α→Nat):∀ (l:List α) (n:Nat),zf1 f l n≤5000+n
 | [],n=>by simp[zf1]
 | x::t,n=>by
  unfold zf1
  split
  ·
   omega
  ·
   have:=znD f t (n+f x) (by omega)
   omega
theorem zfw {α:Type}(f:α→Nat):∀ (l:List α) (n:Nat),zf1 f l n<5000→zf1 f l n=n+(l.map f).sum∧∀ x∈l,f x<5000
 | [],n,_=>by simp[zf1]
 | x::t,n,h=>by
  unfold zf1 at h ⊢
  split at h
  ·
   omega
  ·
   rename_i hx
   rw[if_neg hx]
   obtain⟨h1,h2⟩:=zfw f t (n+f x) h
   refine⟨by rw[h1,List.map_cons,List.sum_cons];omega,fun y hy=>?_⟩
   rcases List.mem_cons.1 hy with rfl|hy
   ·
    omega
   ·
    exact h2 y hy
theorem zgV {α:Type}{f g:α→Nat}:∀ {l:List α},(∀ x∈l,f x=g x)→(l.map f).sum=(l.map g).sum
 | [],_=>rfl
 | x::t,h=>by rw[List.map_cons,List.map_cons,List.sum_cons,List.sum_cons,h x (by simp),zgV fun y hy=>h y (by simp[hy])]
theorem znF {α:Type}{f g:α→Nat}{v:Val α}(hfg:∀ x∈v.subs,f x<5000→f x=g x)(h:szV f v<5000):szV f v=vwt g v:=by
 obtain⟨h1,h2⟩:=zfw f v.subs _ h
 have h3:szV f v=1+v.words.length+twt v.texts+(v.subs.map f).sum:=h1
 rw[h3,vwt,zgV fun x hx=>hfg x hx (h2 x hx)]
theorem zjI:∀ (k d:Nat) (x:M d),szM k d x<5000→szM k d x=mwt d x
 | 0,_,_,h=>by simp[szM] at h
 | _+1,0,_,_=>rfl
 | k+1,d+1,x,h=>by
  have hs:szM (k+1) (d+1) x=zf1 (szV (szM k d)) (M.vals x) (1+twt (M.unk x)):=rfl
  rw[hs] at h
  obtain⟨h1,h2⟩:=zfw _ _ _ h
  rw[hs,h1]
  show _=1+twt (M.unk x)+((M.vals x).map (vwt (mwt d))).sum
  rw[zgV fun y hy=>znF (g:=mwt d) (fun z _ hz=>zjI k d z hz) (h2 y hy)]
theorem szM_le:∀ (k d:Nat) (x:M d),szM k d x≤5000+mwt d x
 | 0,_,_=>by simp[szM]
 | _+1,0,_=>by simp[szM]
 | k+1,d+1,x=>by
  have h:=znE (szV (szM k d)) (M.vals x) (1+twt (M.unk x))
  have e:mwt (d+1) x=1+twt (M.unk x)+((M.vals x).map (vwt (mwt d))).sum:=rfl
  show zf1 _ _ _≤_
  omega
theorem szV_le {α:Type}(f:α→Nat)(g:α→Nat)(v:Val α):szV f v≤5000+vwt g v:=by
 have h:=znE f v.subs (1+v.words.length+twt v.texts)
 unfold szV vwt
 omega
theorem znG {α:Type}(f:α→Nat)(l:List α)(j y:Nat)(m:α)(h:l[j]?=some m):zf1 f (l.drop j) y=if 5000≤y+f m then 5000 else zf1 f (l.drop (j+1)) (y+f m):=by
 obtain⟨hj,rfl⟩:=List.getElem?_eq_some_iff.1 h
 rw[List.drop_eq_getElem_cons hj]
 rfl
theorem zdd (w:World):(sizeOf 32).run Tryz.prog w= .ok 4 w:=by kernel_rfl
theorem zbX (w:World):(sizeOf 27).run Tryz.prog w= .ok 2 w:=by kernel_rfl
theorem zcp (w:World):(sizeOf 9).run Tryz.prog w= .ok 1 w:=by kernel_rfl
theorem ze8 (w:World):(sizeOf 65).run Tryz.prog w= .ok 1 w:=by kernel_rfl
def zpx (k d:Nat):Prop:=∀ (w:World) (v:Value) (x:M d),zac d w v x→mwt d x≤1099511627776 →
 Calls Tryz.prog 22 #[v,.int .i64 ((k:Int) - 1)] w fun e w'=>e= .returned (.int .i64 (szM k d x))∧Below w.heap.size w w'
theorem zlu (l:List (List UInt8))(k:Nat)(t:List UInt8)(h:l[k]?=some t):twt (l.take (k+1))=twt (l.take k)+(1+t.length):=zlj _ l k t h
theorem zgW (l:List (List UInt8))(k:Nat):twt (l.take k)≤twt l:=zeQ _ l k
theorem ze9 {d k:Nat}(ih:zpx k d)(hk:k≤1000){w:World}{v:Value}{x:Val (M d)}(h:zat (zac d) w v x)(hw:vwt (mwt d) x≤1099511627776) :
  Calls Tryz.prog 47 #[v,.int .i64 k] w fun e w'=>e= .returned (.int .i64 (szV (szM k d) x))∧Below w.heap.size w w':=by
 obtain⟨wv,tv,sv,rfl,hnum,hW,hT,hS⟩:=h
 obtain⟨hwl,wa,wc,rfl,-,-⟩:=hW.open
 obtain⟨htl,ta,tc,rfl,-,hta⟩:=hT.open
 obtain⟨hsl,sa,sc,rfl,-,hsa⟩:=hS.open
 obtain⟨wn,HWN⟩:∃ n,Hid (n=x.words.length):=⟨_,rfl⟩
 obtain⟨tn,HTN⟩:∃ n,Hid (n=x.texts.length):=⟨_,rfl⟩
 obtain⟨sn,HSN⟩:∃ n,Hid (n=x.subs.length):=⟨_,rfl⟩
 have HV:Hid (1+wn+twt x.texts+(x.subs.map (mwt d)).sum≤1099511627776):=by rw[Hid,HWN.out];exact hw
 rw[←HWN.out] at hwl ⊢
 rw[←HTN.out] at htl ⊢
 rw[←HSN.out] at hsl ⊢
 have HTA:=hid hta
 have HSA:=hid hsa
 have HIH:=hid ih
 generalize x.num=num at *
 clear hta hsa ih hW hT hS hw
 go_enter Tryz.func47,Tryz.ntmps47
 go_wp2_with fail
 obtain⟨W0,HW0⟩:∃ W0,Hid (W0=w.alloc (.cells #[.int .i64 num,.slice wa wn wc,.slice ta tn tc,.slice sa sn sc] 32)):=⟨_,rfl⟩
 rw[←HW0.out]
 have hB0:Below w.heap.size w W0:=by rw[HW0.out];exact (Below.refl _ _).alloc (Nat.le_refl _) _
 have hsz0:w.heap.size<W0.heap.size:=by rw[HW0.out];simp
 have hc2:W0.cell? ⟨w.heap.size,2,none⟩=some (.slice ta tn tc):=by rw[HW0.out];simp[go_sem]
 have hc3:W0.cell? ⟨w.heap.size,3,none⟩=some (.slice sa sn sc):=by rw[HW0.out];simp[go_sem]
 have HB0:=hid hB0
 have HC3:=hid hc3
 clear hB0 hc3
 go_loopw [5,6] (fun v5 v6 wr=>∃ (z i:Nat),v5= .int .i64 z∧i≤tn∧z≤1099511627776∧v6= .int .i64 i∧Hid (z=1+wn+twt (x.texts.take i))∧wr=W0) (fun _ v6 _=>tn - (intOf v6).toNat)
 case atStart =>
  have h1:=HV.out
  refine⟨1+wn,0,?_,by omega,by omega,rfl,by simp[Hid,twt],rfl⟩
  go_num
 case round =>
  obtain⟨z,i,rfl,hi,hz,rfl,HZ,hwr⟩:=hrel
  have hwr':=hwr.symm
  subst hwr'
  by_cases hlt:i<tn
  ·
   have hti:x.texts[i]?=some (x.texts[i]'(by rw[←HTN.out];exact hlt)):=List.getElem?_eq_getElem _
   generalize x.texts[i]'(by rw[←HTN.out];exact hlt)=t at hti
   have hta:=HTA.out
   obtain⟨ht1,b,o,ha,g0⟩:=hta i t hti
   clear hta
   have HST:Hid (z+1+t.length=1+wn+twt (x.texts.take (i+1))∧z+1+t.length≤1099511627776):=by
    have h1:=zlu _ _ _ hti
    have h2:=zgW x.texts (i+1)
    have h3:=HV.out
    have h4:=HZ.out
    refine⟨by omega,by omega⟩
   have hsb:(⟨t.toArray⟩:ByteArray).size=t.length:=by simp[ByteArray.size]
   unfold zbA at g0
   generalize (⟨t.toArray⟩:ByteArray)=bt at *
   generalize t.length=tl at *
   have hix:=zag Tryz.underlying25 zcp ha i hlt (cap:=tc)
   replace g0:=zaa HB0.out _ _ g0
   clear ha hti
   go_wp2_with fail
   go_roundw
   case rel=>exact⟨z+1+tl,i+1,by first|go_num|(rw[hsb];go_num),hlt,HST.out.2,by go_num,HST.out.1,by first|trivial|rfl⟩
   case measure=>simp[intOf];omega
  ·
   obtain rfl:i=tn:=by omega
   have HZ2:Hid (z=1+wn+twt x.texts):=by
    have:=HZ.out
    rwa [HTN.out,List.take_length] at this
   go_wp2_with fail
   clear hc2
   go_loopw [5,7] (fun v5 v7 wq=>∃ (y j:Nat),v5= .int .i64 y∧j≤sn∧y≤1099511627776∧v7= .int .i64 j∧Hid (zf1 (szM k d) (x.subs.drop j) y=szV (szM k d) x)∧Hid (Below W0.heap.size W0 wq)) (fun _ v7 _=>sn - (intOf v7).toNat)
   case atStart =>
    refine⟨z,0,rfl,by omega,hz,rfl,?_,Below.refl _ _⟩
    show zf1 _ (x.subs.drop 0) z=_
    rw[List.drop_zero,HZ2.out,HWN.out];rfl
   case round =>
    obtain⟨y,j,rfl,hj,hy,rfl,HG,HBQ⟩:=hrel
    have c3:=zaa HBQ.out _ _ HC3.out
    have hbl3:w.heap.size<wr.heap.size:=World.block_lt_of_cell? wr _ c3
    by_cases hls:j<sn
    ·
     have hmi:x.subs[j]?=some (x.subs[j]'(by rw[←HSN.out];exact hls)):=List.getElem?_eq_getElem _
     generalize x.subs[j]'(by rw[←HSN.out];exact hls)=m at hmi
     have hsa:=HSA.out
     obtain⟨b,o,v1,v2,ha,g0,g1,hM⟩:=hsa j m hmi
     clear hsa
     have hBq:Below w.heap.size w wr:=HB0.out.trans (HBQ.out.mono HB0.out.size)
     have hkr:=zaa hBq
     replace g0:=hkr _ _ g0
     replace g1:=hkr _ _ g1
     have HMM:=hid (hM.below hBq)
     have HMB:Hid (mwt d m≤1099511627776):=by
      have h1:=zau (mwt d) x.subs m (List.mem_of_getElem? hmi)
      have h2:=HV.out
      show _≤_;omega
     have HGO:Hid (szV (szM k d) x=if 5000≤y+szM k d m then 5000 else zf1 (szM k d) (x.subs.drop (j+1)) (y+szM k d m)):=by
      rw[Hid,←HG.out,znG _ _ _ _ _ hmi]
     have hs:szM k d m≤5000+1099511627776:=Nat.le_trans (szM_le k d m) (by have:=HMB.out;omega)
     have HBQ2:=hid hBq
     have hix:=zad Tryz.underlying30 zbX ha j hls (cap:=sc)
     have hbl:b<wr.heap.size:=World.block_lt_of_cell? wr _ g0
     clear ha hkr hM hBq hmi HG
     go_wp2_with fail
     refine (HIH.out wr _ m HMM.out HMB.out).mono ?_
     rintro e w3 ⟨rfl,hb3⟩
     generalize szM k d m=s at *
     have HB3:Hid (Below W0.heap.size W0 w3):=HBQ.out.trans (hb3.mono HBQ.out.size)
     by_cases h5:5000≤y+s
     ·
      go_wp2_with fail
      go_ret
      refine⟨zcG (zbC ?_),HB0.out.trans (HB3.out.mono HB0.out.size)⟩
      rw[HGO.out,if_pos h5]
      rfl
     ·
      go_wp2_with fail
      go_roundw
      case rel =>
       refine⟨y+s,j+1,by go_num,hls,by omega,by go_num,?_,HB3⟩
       rw[Hid,HGO.out,if_neg h5]
      case measure=>simp[intOf];omega
    ·
     obtain rfl:j=sn:=by omega
     go_wp2_with fail
     go_ret
     refine⟨zcG (zbC ?_),HB0.out.trans (HBQ.out.mono HB0.out.size)⟩
     have:=HG.out
     rw[HSN.out,List.drop_length] at this
     rw[←this];rfl
theorem zgX {w:World}{va ua:Option Addr}{n1 vc n2 uc:Nat} :
  Calls Tryz.prog 22 #[.agg #[.slice va n1 vc,.slice ua n2 uc],.int .i64 (-1)] w fun e w'=>e= .returned (.int .i64 5000)∧Below w.heap.size w w':=by
 go_enter Tryz.func22,Tryz.ntmps22
 go_wp2_with fail
 go_ret
 exact⟨rfl,(Below.refl _ _).alloc (Nat.le_refl _) _⟩
theorem zmc:∀ (k d:Nat),k≤1000→zpx k d:=by
 intro k
 induction k with
 | zero =>
  intro d _ w v x h _
  cases d with
  | zero=>exact h.elim
  | succ d =>
   obtain⟨vv,uv,rfl,hV,hU⟩:=h
   obtain⟨-,va,vc,rfl,-,-⟩:=hV.open
   obtain⟨-,ua,uc,rfl,-,-⟩:=hU.open
   exact zgX.mono fun e w' h=>h
 | succ k ihk =>
  intro d hk w v x h hw
  cases d with
  | zero=>exact h.elim
  | succ d =>
  have ih:∀ (w:World) (v:Value) (x:Val (M d)),zat (zac d) w v x→vwt (mwt d) x≤1099511627776 →
    Calls Tryz.prog 47 #[v,.int .i64 k] w fun e w'=>e= .returned (.int .i64 (szV (szM k d) x))∧Below w.heap.size w w':=fun _ _ _ h=>ze9 (ihk d (by omega)) (by omega) h
  obtain⟨vv,uv,rfl,hS,hT⟩:=h
  obtain⟨htl,ta,tc,rfl,-,hta⟩:=hT.open
  obtain⟨hsl,sa,sc,rfl,-,hsa⟩:=hS.open
  obtain⟨tn,HTN⟩:∃ n,Hid (n=(M.unk x).length):=⟨_,rfl⟩
  obtain⟨sn,HSN⟩:∃ n,Hid (n=(M.vals x).length):=⟨_,rfl⟩
  have HV:Hid (1+twt (M.unk x)+((M.vals x).map (vwt (mwt d))).sum≤1099511627776):=hw
  rw[←HTN.out] at htl ⊢
  rw[←HSN.out] at hsl ⊢
  have HTA:=hid hta
  have HSA:=hid hsa
  have HIH:=hid ih
  clear hta hsa ih hT hS hw ihk
  show Calls _ _ #[_,.int .i64 (((k+1:Nat):Int) - 1)] _ fun e w'=>e= .returned (.int .i64 (zf1 (szV (szM k d)) (M.vals x) (1+twt (M.unk x)):Nat))∧_
  rw[show ((k+1:Nat):Int) - 1=(k:Int) by omega]
  obtain⟨us,HUS⟩:∃ us,Hid (us=M.unk x):=⟨_,rfl⟩
  obtain⟨vs,HVS⟩:∃ vs,Hid (vs=M.vals x):=⟨_,rfl⟩
  rw[←HUS.out] at HTN HV HTA ⊢
  rw[←HVS.out] at HSN HV HSA ⊢
  clear HUS HVS
  clear x
  go_enter Tryz.func22,Tryz.ntmps22
  go_wp2_with fail
  obtain⟨W0,HW0⟩:∃ W0,Hid (W0=w.alloc (.cells #[.slice sa sn sc,.slice ta tn tc] 27)):=⟨_,rfl⟩
  rw[←HW0.out]
  have hB0:Below w.heap.size w W0:=by rw[HW0.out];exact (Below.refl _ _).alloc (Nat.le_refl _) _
  have hsz0:w.heap.size<W0.heap.size:=by rw[HW0.out];simp
  have hc2:W0.cell? ⟨w.heap.size,1,none⟩=some (.slice ta tn tc):=by rw[HW0.out];simp[go_sem]
  have hc3:W0.cell? ⟨w.heap.size,0,none⟩=some (.slice sa sn sc):=by rw[HW0.out];simp[go_sem]
  have HB0:=hid hB0
  have HC3:=hid hc3
  clear hB0 hc3
  go_loopw [5,6] (fun v5 v6 wr=>∃ (z i:Nat),v5= .int .i64 z∧i≤tn∧z≤1099511627776∧v6= .int .i64 i∧Hid (z=1+twt (us.take i))∧wr=W0) (fun _ v6 _=>tn - (intOf v6).toNat)
  case atStart=>exact⟨1,0,rfl,by omega,by omega,rfl,by simp[Hid,twt],rfl⟩
  case round =>
   obtain⟨z,i,rfl,hi,hz,rfl,HZ,hwr⟩:=hrel
   have hwr':=hwr.symm
   subst hwr'
   by_cases hlt:i<tn
   ·
    have hti:us[i]?=some (us[i]'(by rw[←HTN.out];exact hlt)):=List.getElem?_eq_getElem _
    generalize us[i]'(by rw[←HTN.out];exact hlt)=t at hti
    have hta:=HTA.out
    obtain⟨ht1,b,o,ha,g0⟩:=hta i t hti
    clear hta
    have HST:Hid (z+1+t.length=1+twt (us.take (i+1))∧z+1+t.length≤1099511627776):=by
     have h1:=zlu _ _ _ hti
     have h2:=zgW us (i+1)
     have h3:=HV.out
     have h4:=HZ.out
     refine⟨by omega,by omega⟩
    have hsb:(⟨t.toArray⟩:ByteArray).size=t.length:=by simp[ByteArray.size]
    unfold zbA at g0
    generalize (⟨t.toArray⟩:ByteArray)=bt at *
    generalize t.length=tl at *
    have hix:=zag Tryz.underlying25 zcp ha i hlt (cap:=tc)
    replace g0:=zaa HB0.out _ _ g0
    clear ha hti
    go_wp2_with fail
    go_roundw
    case rel=>exact⟨z+1+tl,i+1,by first|go_num|(rw[hsb];go_num),hlt,HST.out.2,by go_num,HST.out.1,by first|trivial|rfl⟩
    case measure=>simp[intOf];omega
   ·
    obtain rfl:i=tn:=by omega
    have HZ2:Hid (z=1+twt us):=by
     have:=HZ.out
     rwa [HTN.out,List.take_length] at this
    go_wp2_with fail
    clear hc2
    go_loopw [5,7] (fun v5 v7 wq=>∃ (y j:Nat),v5= .int .i64 y∧j≤sn∧y≤1099511627776∧v7= .int .i64 j∧Hid (zf1 (szV (szM k d)) (vs.drop j) y=zf1 (szV (szM k d)) vs (1+twt us))∧Hid (Below W0.heap.size W0 wq)) (fun _ v7 _=>sn - (intOf v7).toNat)
    case atStart =>
     refine⟨z,0,rfl,by omega,hz,rfl,?_,Below.refl _ _⟩
     rw[Hid,List.drop_zero,HZ2.out]
    case round =>
     obtain⟨y,j,rfl,hj,hy,rfl,HG,HBQ⟩:=hrel
     have c3:=zaa HBQ.out _ _ HC3.out
     have hbl3:w.heap.size<wr.heap.size:=World.block_lt_of_cell? wr _ c3
     by_cases hls:j<sn
     ·
      have hmi:vs[j]?=some (vs[j]'(by rw[←HSN.out];exact hls)):=List.getElem?_eq_getElem _
      generalize vs[j]'(by rw[←HSN.out];exact hls)=m at hmi
      have hsa:=HSA.out
      obtain⟨b,o,v1,v2,v3,ha,g0,g1,g2,g3,hM⟩:=hsa j m hmi
      clear hsa
      have hBq:Below w.heap.size w wr:=HB0.out.trans (HBQ.out.mono HB0.out.size)
      have hkr:=zaa hBq
      replace g0:=hkr _ _ g0
      replace g1:=hkr _ _ g1
      replace g2:=hkr _ _ g2
      replace g3:=hkr _ _ g3
      have HMM:=hid (VMsg.below hM hBq)
      have HMB:Hid (vwt (mwt d) m≤1099511627776):=by
       have h1:=zau (vwt (mwt d)) vs m (List.mem_of_getElem? hmi)
       have h2:=HV.out
       show _≤_;omega
      have HGO:Hid (zf1 (szV (szM k d)) vs (1+twt us)=if 5000≤y+szV (szM k d) m then 5000 else zf1 (szV (szM k d)) (vs.drop (j+1)) (y+szV (szM k d) m)):=by
       rw[Hid,←HG.out,znG _ _ _ _ _ hmi]
      have hs:szV (szM k d) m≤5000+1099511627776:=Nat.le_trans (szV_le (szM k d) (mwt d) m) (by have:=HMB.out;omega)
      have hix:=zad Tryz.underlying24 zdd ha j hls (cap:=sc)
      have hbl:b<wr.heap.size:=World.block_lt_of_cell? wr _ g0
      clear ha hkr hM hBq hmi HG
      generalize m.num=num at *
      go_wp2_with fail
      refine (HIH.out _ _ _ HMM.out HMB.out).mono ?_
      rintro e w3 ⟨rfl,hb3⟩
      generalize szV (szM k d) m=s at *
      have HB3:Hid (Below W0.heap.size W0 w3):=HBQ.out.trans (hb3.mono HBQ.out.size)
      by_cases h5:5000≤y+s
      ·
       go_wp2_with fail
       go_ret
       refine⟨zcG (zbC ?_),HB0.out.trans (HB3.out.mono HB0.out.size)⟩
       rw[HGO.out,if_pos h5]
       rfl
      ·
       go_wp2_with fail
       go_roundw
       case rel =>
        refine⟨y+s,j+1,by go_num,hls,by omega,by go_num,?_,HB3⟩
        rw[Hid,HGO.out,if_neg h5]
       case measure=>simp[intOf];omega
     ·
      obtain rfl:j=sn:=by omega
      go_wp2_with fail
      go_ret
      refine⟨zcG (zbC ?_),HB0.out.trans (HBQ.out.mono HB0.out.size)⟩
      have:=HG.out
      rw[HSN.out,List.drop_length] at this
      rw[←this];rfl
end
section
open Go.RowKit Go.Shelf
def OfOk (w0:World)(d:Nat):Prop:=∀ (w:World) (v:Value) (x:M d),zac d w0 v x→Below w0.heap.size w0 w→mwt d x≤1099511627776 →
 Calls Tryz.prog 7 #[v] w fun e w'=>∃ v',e= .returned v'∧Below w.heap.size w w'∧zap w0.heap.size w.heap.size w' fun w2=>zac d w2 v' x
def SubP (d:Nat)(w:World)(r:List Value)(x:M d):Prop:=zac d w (.agg r.toArray) x
def zeE (d:Nat)(w:World)(r:List Value)(x:Val (M d)):Prop:=zat (zac d) w (.agg r.toArray) x
theorem znH:(Tryz.prog.info? 38).map (fun i=>(i.zero,i.size,i.bytes))=some (some (.agg #[.slice none 0 0,.slice none 0 0]),2,48):=by kernel_rfl
theorem zjJ:(Tryz.prog.info? 42).map (fun i=>(i.zero,i.size,i.bytes))=some (some (.agg #[.int .i64 0,.slice none 0 0,.slice none 0 0,.slice none 0 0]),4,80):=by kernel_rfl
theorem zdq {n base:Nat}{w0 w' w2:World}(hn:n=w0.heap.size)(hb:Below n w0 w')(h:∀ b,b<w'.heap.size→(b<n∨base≤b)→w2.heap[b]?=w'.heap[b]?):∀ p u,w0.cell? p=some u→w2.cell? p=some u:=by
 intro p u hu
 have hp:p.block<w0.heap.size:=World.block_lt_of_cell? w0 p hu
 have h1:=hb.size
 rw[World.cell?_of_block (h p.block (by omega) (.inl (by omega))),World.cell?_of_block (hb.block p.block (by omega))]
 exact hu
theorem zjK (w:World)(c1 c2 c3:List Value)(T1 T2 T3:TypeId) :
  Blk (((w.alloc (.cells c1.toArray T1)).alloc (.cells c2.toArray T2)).alloc (.cells c3.toArray T3)) w.heap.size c1 T1 ∧
  Blk (((w.alloc (.cells c1.toArray T1)).alloc (.cells c2.toArray T2)).alloc (.cells c3.toArray T3)) (w.heap.size+1) c2 T2 ∧
  Blk (((w.alloc (.cells c1.toArray T1)).alloc (.cells c2.toArray T2)).alloc (.cells c3.toArray T3)) (w.heap.size+1+1) c3 T3 ∧
  (((w.alloc (.cells c1.toArray T1)).alloc (.cells c2.toArray T2)).alloc (.cells c3.toArray T3)).heap.size=w.heap.size+1+1+1 ∧
  Below w.heap.size w (((w.alloc (.cells c1.toArray T1)).alloc (.cells c2.toArray T2)).alloc (.cells c3.toArray T3)):=by
 have e:∀ (w:World) (o:Obj),(w.alloc o).heap.size=w.heap.size+1:=fun w o=>by simp
 refine⟨((Blk.new w c1 T1).alloc _).alloc _,?_,?_,by rw[e,e,e],(((Below.refl _ _).alloc (Nat.le_refl _) _).alloc (by rw[e];omega) _).alloc (by rw[e,e];omega) _⟩
 ·
  have:=(Blk.new (w.alloc (.cells c1.toArray T1)) c2 T2).alloc (.cells c3.toArray T3)
  rw[e] at this
  exact this
 ·
  have:=Blk.new ((w.alloc (.cells c1.toArray T1)).alloc (.cells c2.toArray T2)) c3 T3
  rw[e,e] at this
  exact this
theorem zac.form:∀ {d:Nat} {w:World} {v:Value} {x:M d},zac d w v x→∃ a1 n1 c1 a2 n2 c2,v= .agg #[.slice a1 n1 c1,.slice a2 n2 c2]
 | 0,_,_,_,h=>h.elim
 | d+1,_,_,_,h=>by
  obtain⟨vv,uv,rfl,hV,hU⟩:=h
  obtain⟨-,va,vc,rfl,-,-⟩:=hV.open
  obtain⟨-,ua,uc,rfl,-,-⟩:=hU.open
  exact⟨_,_,_,_,_,_,rfl⟩
theorem zkD:∀ {d:Nat} (x:M d),1≤mwt d x
 | 0,x=>x.elim
 | d+1,x=>by show 1≤1+_+_;omega
theorem zgY {d':Nat}:∀ (l:List (M d')) (d:Nat),d=d'→l.length≤(l.map (mwt d')).sum
 | [],_,_=>by simp
 | x::t,d,h=>by
  have:=zgY t d h
  have:=zkD x
  rw[List.map_cons,List.sum_cons,List.length_cons]
  omega
theorem zcy {w0:World}{d:Nat}(ih:OfOk w0 d){w:World}{v:Value}{x:Val (M d)}(h:zat (zac d) w0 v x)(hb:Below w0.heap.size w0 w)(hw:vwt (mwt d) x≤1099511627776) :
  Calls Tryz.prog 8 #[v] w fun e w'=>∃ v',e= .returned v'∧Below w.heap.size w w'∧zap w0.heap.size w.heap.size w' fun w2=>zat (zac d) w2 v' x:=by
 obtain⟨wv,tv,sv,rfl,hnum,hW,hT,hS⟩:=h
 have HFIN:Hid (∀ w2,(∀ p u,w0.cell? p=some u→w2.cell? p=some u)→∀ so,zc8 (zac d) w2 so x.subs→zat (zac d) w2 (.agg #[.int .i64 x.num,wv,tv,so]) x):=
  fun w2 hk so hso=>⟨wv,tv,so,rfl,hnum,hW.keep hk,hT.keep hk,hso⟩
 obtain⟨hwl,wa,wc,rfl,-,-⟩:=hW.open
 obtain⟨htl,ta,tc,rfl,-,-⟩:=hT.open
 obtain⟨hsl,sa,sc,rfl,-,hsa⟩:=hS.open
 have HW:=hid hw
 have HSA:=hid hsa
 unfold OfOk at ih
 have HIH:=hid ih
 have HB:=hid hb
 generalize x.words.length=wn at *
 generalize x.texts.length=tn at *
 obtain⟨sn,HSN⟩:∃ n,Hid (n=x.subs.length):=⟨_,rfl⟩
 rw[←HSN.out] at hsl ⊢
 generalize x.num=num at *
 clear hsa ih hW hT hS hw hb
 go_enter Tryz.func8,Tryz.ntmps8
 go_wp2_with fail
 obtain⟨B,HBB⟩:∃ B,Hid (B=w.heap.size):=⟨_,rfl⟩
 have h3:=zjK w [.int .i64 num,.slice wa wn wc,.slice ta tn tc,.slice sa sn sc] [.int .i64 0,.slice none 0 0,.slice none 0 0,.slice none 0 0] [.int .i64 num,.slice wa wn wc,.slice ta tn tc,.slice none 0 0] 32 42 42
 generalize hW1:((w.alloc (.cells #[.int .i64 num,.slice wa wn wc,.slice ta tn tc,.slice sa sn sc] 32)).alloc (.cells #[.int .i64 0,.slice none 0 0,.slice none 0 0,.slice none 0 0] 42)).alloc (.cells #[.int .i64 num,.slice wa wn wc,.slice ta tn tc,.slice none 0 0] 42)=W1 at h3 ⊢
 clear hW1
 rw[←HBB.out] at h3 ⊢
 obtain⟨hx1,hr1,ho1,hz1,hb1⟩:=h3
 have HX1:=hid hx1
 have HR1:=hid hr1
 have HO1:=hid ho1
 have HZ1:=hid hz1
 have HB1:=hid hb1
 clear hx1 hr1 ho1 hz1 hb1
 have HN0:Hid (w0.heap.size≤B):=by rw[HBB.out];exact HB.out.size
 have HBB0:Hid (Below w0.heap.size w0 w):=HB
 go_loopw [4] (fun v4 wr=>∃ (i:Nat) (oa:Option Addr) (oc:Nat),v4= .int .i64 i∧i≤sn∧Hid (Below B w wr∧B+1+1<wr.heap.size∧Blk wr B [.int .i64 num,.slice wa wn wc,.slice ta tn tc,.slice sa sn sc] 32∧Blk wr (B+1) [.int .i64 0,.slice none 0 0,.slice none 0 0,.slice none 0 0] 42∧Blk wr (B+1+1) [.int .i64 num,.slice wa wn wc,.slice ta tn tc,.slice oa i oc] 42∧zam (SubP d) 38 2 w0.heap.size (B+1+1+1) wr (.slice oa i oc) (x.subs.take i))) (fun v4 _=>sn - (intOf v4).toNat)
 case atStart =>
  exact⟨0,none,0,rfl,by omega,HB1.out,by rw[HZ1.out];omega,HX1.out,HR1.out,HO1.out,zam.nil _ _ _ _ _ _⟩
 case round =>
  obtain⟨i,oa,oc,rfl,hi,HI⟩:=hrel
  have c1:=HI.out.2.2.1.cell 3 _ rfl
  have hbl1:B<wr.heap.size:=HI.out.2.2.1.lt
  by_cases hlt:i<sn
  ·
   have hmi:x.subs[i]?=some (x.subs[i]'(by rw[←HSN.out];exact hlt)):=List.getElem?_eq_getElem _
   generalize x.subs[i]'(by rw[←HSN.out];exact hlt)=m at hmi
   have hsa:=HSA.out
   obtain⟨b,o,v1,v2,ha,g0,g1,hM⟩:=hsa i m hmi
   clear hsa
   have hb0:Below w0.heap.size w0 wr:=HB.out.trans (HI.out.1.mono HN0.out)
   have hBne:B+1+1≠B:=by omega
   have HBL0:Hid (b<B):=Nat.lt_of_lt_of_le (World.block_lt_of_cell? w0 _ g0) HN0.out
   have hkr:=zaa hb0
   replace g0:=hkr _ _ g0
   replace g1:=hkr _ _ g1
   have HM:=hid hM
   have HB0:=hid hb0
   have HMB:Hid (mwt d m≤1099511627776):=by
    have h1:=zau (mwt d) x.subs m (List.mem_of_getElem? hmi)
    have h2:=HW.out
    unfold vwt at h2
    show _≤_;omega
   have hix:=zad Tryz.underlying30 zbX ha i hlt (cap:=sc)
   have hbl:b<wr.heap.size:=World.block_lt_of_cell? wr _ g0
   have c2:=HI.out.2.2.2.2.1.cell 3 _ rfl
   have hfz:=HI.out.2.2.2.2.1.free 3
   have hbl2:=HI.out.2.1
   have hbne:B+1+1≠b:=by have:=HBL0.out;omega
   clear ha hkr hM hb0
   have e0:wr.drew.cell? ⟨B+1+1,3,none⟩=some (.slice oa i oc):=c2
   have HC0:Hid (wr.drew.cell? ⟨B,3,none⟩=some (.slice sa sn sc)∧wr.drew.cell? ⟨b,o+i*2,none⟩=some v1∧wr.drew.cell? ⟨b,o+i*2+1,none⟩=some v2):=⟨c1,g0,g1⟩
   have k0:=HC0.out
   have HN3:Hid (w0.heap.size≤B+1+1+1):=by have:=HN0.out;show _≤_;omega
   have HTL:Hid ((x.subs.take i).length=i):=by rw[Hid,List.length_take,←HSN.out];omega
   have HLI:Hid (i≤1099511627776):=by
    have h1:=zgY x.subs d rfl
    have h2:=HW.out
    unfold vwt at h2
    rw[←HSN.out] at h1
    show _≤_;omega
   go_wp2_with fail
   have HTA:Hid (x.subs.take (i+1)=x.subs.take i++[m]):=by rw[Hid,List.take_add_one,hmi];rfl
   have HQ:Hid (∀ (w5:World) (a5:Option Addr) (c5:Nat),Below (B+1+1+1) wr w5→zam (SubP d) 38 2 w0.heap.size (B+1+1+1) w5 (.slice a5 (i+1) c5) (x.subs.take i++[m]) →
     ∀ w6,w6=w5.setCell ⟨B+1+1,3,none⟩ (.slice a5 (i+1) c5)→(Below B w w6∧B+1+1<w6.heap.size∧Blk w6 B [.int .i64 num,.slice wa wn wc,.slice ta tn tc,.slice sa sn sc] 32∧Blk w6 (B+1) [.int .i64 0,.slice none 0 0,.slice none 0 0,.slice none 0 0] 42∧Blk w6 (B+1+1) [.int .i64 num,.slice wa wn wc,.slice ta tn tc,.slice a5 (i+1) c5] 42∧zam (SubP d) 38 2 w0.heap.size (B+1+1+1) w6 (.slice a5 (i+1) c5) (x.subs.take (i+1)))):=by
    rintro w5 a5 c5 h1 h2 w6 rfl
    refine⟨(HI.out.1.trans (h1.mono (by omega))).setCell (by show B≤B+1+1;omega) _,by have:=h1.size;simp;omega,?_,?_,?_,?_⟩
    ·
     exact Blk.set_other ((h1.block B (by omega)).trans HI.out.2.2.1) _ _ (by show B≠B+1+1;omega)
    ·
     exact Blk.set_other ((h1.block (B+1) (by omega)).trans HI.out.2.2.2.1) _ _ (by show B+1≠B+1+1;omega)
    ·
     exact Blk.set ((h1.block (B+1+1) (by omega)).trans HI.out.2.2.2.2.1) 3 _
    ·
     rw[HTA.out]
     refine h2.later (fun b' _ hc=>Below.heap_setCell w5 _ _ b' ?_) (by simp)
     show b'≠B+1+1
     have:=HN0.out
     omega
   have k01:=k0.1
   have k02:=k0.2.1
   have k03:=k0.2.2
   go_region_law (first|(go_simp;go_at_call 7;(with_reducible refine (HIH.out wr.drew _ m HM.out HB0.out.drew HMB.out).mono ?_);rintro e w1 ⟨vm,rfl,hbm,hap⟩;obtain⟨a1,n1,cc1,a2,n2,cc2,rfl⟩:=hap.here.form;have hk1:∀ p u,wr.drew.cell? p=some u→w1.cell? p=some u:=zaa hbm;have e1:w1.cell? ⟨B+1+1,3,none⟩=some (.slice oa i oc):=hk1 _ _ e0;have k1:w1.cell? ⟨B,3,none⟩=some (.slice sa sn sc)∧w1.cell? ⟨b,o+i*2,none⟩=some v1∧w1.cell? ⟨b,o+i*2+1,none⟩=some v2:=⟨hk1 _ _ k0.1,hk1 _ _ k0.2.1,hk1 _ _ k0.2.2⟩;obtain⟨a5,c5,w5,hr5,hO5,hB4,hB5⟩:=zam.step HI.out.2.2.2.2.2 ((Below.refl wr.heap.size wr).drew.trans hbm) (by decide) HN3.out HI.out.2.1 HTL.out 40 _ 48 Tryz.underlying40 znH rfl #[.slice a1 n1 cc1,.slice a2 n2 cc2] rfl (by intro u hu;simp at hu;rcases hu with rfl|rfl <;> rfl) m hap HLI.out (by decide);have e5:w5.cell? ⟨B+1+1,3,none⟩=some (.slice oa i oc):=(hB5.cell (p:=⟨B+1+1,3,none⟩) (by show B+1+1<B+1+1+1;omega)).trans c2;have k3:w5.cell? ⟨B,3,none⟩=some (.slice sa sn sc)∧w5.cell? ⟨b,o+i*2,none⟩=some v1∧w5.cell? ⟨b,o+i*2+1,none⟩=some v2:=⟨(hB5.cell (p:=⟨B,3,none⟩) (by show B<B+1+1+1;omega)).trans c1,(hB5.cell (p:=⟨b,o+i*2,none⟩) (by show b<B+1+1+1;have:=HBL0.out;omega)).trans g0,(hB5.cell (p:=⟨b,o+i*2+1,none⟩) (by show b<B+1+1+1;have:=HBL0.out;omega)).trans g1⟩;have z3:w5.frozen? ⟨B+1+1,3,none⟩=false:=(hB5.frozen (p:=⟨B+1+1,3,none⟩) (by show B+1+1<B+1+1+1;omega)).trans hfz;have e4:=(hB4.cell (p:=⟨B+1+1,3,none⟩) (by show B+1+1<B+1+1+1;omega)).trans c2;have HR2:=hid hr5;have HO5:=hid hO5;have HB4:=hid hB4;have HB5:=hid hB5;clear hr5 hO5 hB4 hB5 hk1)|(refine zaQ rfl (.tmp 20) (.tmp 27) _ rfl _ _ rfl rfl HR2.out ?_))
   all_goals
    go_wp2_with fail
    go_roundw
    case rel=>exact⟨i+1,_,_,by go_num,hlt,HQ.out _ _ _ HB5.out HO5.out _ rfl⟩
    case measure=>simp[intOf];omega
  ·
   obtain rfl:i=sn:=by omega
   have hO:=HI.out.2.2.2.2.1
   have hR:=HI.out.2.2.2.1
   have b0:=hO.cell 0 _ rfl
   have b1:=hO.cell 1 _ rfl
   have b2:=hO.cell 2 _ rfl
   have b3:=hO.cell 3 _ rfl
   have r0:=hR.cell 0 _ rfl
   have r1:=hR.cell 1 _ rfl
   have r2:=hR.cell 2 _ rfl
   have r3:=hR.cell 3 _ rfl
   have f0:=hR.free 0
   have f1:=hR.free 1
   have f2:=hR.free 2
   have f3:=hR.free 3
   have hlr:=hR.lt
   have hlo:=hO.lt
   have HLO:=hid hlo
   clear hO hR
   go_wp2_with fail
   refine bodyPost_ret (v:=.agg #[.int .i64 num,.slice wa wn wc,.slice ta tn tc,.slice oa i oc]) ?_ rfl ⟨_,rfl,?_,?_⟩
   ·
    simp[results,Tryz.results8,go_sem,r0,r1,r2,r3]
   ·
    have hBw:w.heap.size≤B+1:=by rw[←HBB.out];omega
    (with_reducible repeat first|exact Below.refl _ _|refine pzA ?_ _|refine pzB ?_ _|refine zab ?_ _|refine Below.drew ?_)
    rw[←HBB.out]
    exact HI.out.1
   ·
    intro w2 hw2
    have hag:∀ b',b'<wr.heap.size→(b'<w0.heap.size∨B+1+1+1≤b')→w2.heap[b']?=wr.heap[b']?:=by
     intro b' hlt' hc
     have hne:b'≠B+1:=by have:=HN0.out;omega
     refine (hw2 b' (by simpa using hlt') (hc.imp id fun h=>by rw[←HBB.out];omega)).trans ?_
     rw[Below.heap_setCell _ _ _ b' hne,Below.heap_setCell _ _ _ b' hne,Below.heap_setCell _ _ _ b' hne,Below.heap_setCell _ _ _ b' hne]
    have hsub:=HI.out.2.2.2.2.2.at (by rw[List.length_take];omega) hag
    rw[HSN.out,List.take_length] at hsub
    refine HFIN.out w2 (zdq rfl (HBB0.out.trans (HI.out.1.mono HN0.out)) hag) _ ?_
    rw[HSN.out]
    exact hsub
end
end Go.Proofs.YtdpnmdkbdibkpaaGreatDoor
