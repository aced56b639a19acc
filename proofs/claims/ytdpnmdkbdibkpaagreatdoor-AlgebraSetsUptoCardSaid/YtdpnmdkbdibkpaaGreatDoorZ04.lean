/- Parts of a proof: texts of the author, merged. No condition of their own. -/
import Derived.Test.YtdpnmdkbdibkpaaGreatDoorZ03
namespace Go.Proofs.YtdpnmdkbdibkpaaGreatDoor
set_option maxRecDepth 100000
set_option maxHeartbeats 16000000
section
open Go.RowKit
def zax (n:Nat)(nm nu:Bool)(f:Fld):Nat:=
 if zan f.name=false then 5 else if nm then 6 else if zdE f.number=false then 7 else if nu then 8 else if zaU f.kind=false then 9 else
 if f.packed=true∧(f.rep=false∨zaw f.kind=false) then 10 else if f.kind=17∧(f.of<0∨(n:Int)≤f.of)∨f.kind≠17∧f.of≠0 then 11 else 0
abbrev Met:=Int × ByteArray × Int
def one:Value:=.int .i64 1
theorem zgl (w:World):(zeroValue 3).run Tryz.prog w= .ok (.int .i64 0) w:=by kernel_rfl
def seen (b:Bool):Option Value:=if b then some one else none
theorem za5 {w:World}{r:Nat}{es:List (Met × Value)}(h:zas w r zd7 es)(i:Int)(t:ByteArray)(n:Int)(b:Bool)(hg:zal (i,t,n) es=seen b) :
  (Instr.lookup 190 (.map (some r)) (.agg #[.int .i64 i,.string t,.int .i64 n]) false).run Tryz.prog w= .ok (.int .i64 (if b then 1 else 0)) w:=by
 have:=zb3 (P:=Tryz.prog) znc Tryz.underlying190 zgl h (i,t,n) false
 rw[hg] at this
 cases b <;> exact this
theorem zdn {w:World}{r:Nat}{es:List (Met × Value)}(h:zas w r zd7 es)(hr:r<w.heap.size)(i:Int)(t:ByteArray)(n:Int)(hg:zal (i,t,n) es=none) :
  ∃ w2 w3,(Instr.mapEntry 190 (.map (some r)) (.agg #[.int .i64 i,.string t,.int .i64 n])).run Tryz.prog w= .ok (.tuple #[.int .i64 0,.int .i64 es.length]) w2 ∧
   (Instr.lookup 190 (.map (some r)) (.agg #[.int .i64 i,.string t,.int .i64 n]) false).run Tryz.prog w2= .ok (.int .i64 0) w2 ∧
   (Instr.entryStore 190 (.map (some r)) (.int .i64 es.length) (.int .i64 1)).run Tryz.prog w2= .ok () w3 ∧
   zas w3 r zd7 (es++[((i,t,n),one)])∧(∀ W:World,W.grownBy w (some r)→W.grownBy w3 (some r))∧w3.heap.size=w.heap.size∧(∀ b o,b≠r→w3.cell? ⟨b,o,none⟩=w.cell? ⟨b,o,none⟩∧w3.frozen? ⟨b,o,none⟩=w.frozen? ⟨b,o,none⟩) ∧
   (∀ b o,b≠r→w2.cell? ⟨b,o,none⟩=w.cell? ⟨b,o,none⟩):=by
 have h1:=ziu (P:=Tryz.prog) znc Tryz.underlying190 zgl h (i,t,n) hg
 have hm2:zas (za9 w r zd7 (es++[((i,t,n),.int .i64 0)])) r zd7 (es++[((i,t,n),.int .i64 0)]):=zb8 hr
 have h2:=zb3 (P:=Tryz.prog) znc Tryz.underlying190 zgl hm2 (i,t,n) false
 rw[zaA,hg] at h2
 have h3:=ziv (P:=Tryz.prog) (t:=190) hm2 one
 refine⟨_,_,h1,?_,h3,zb8 (by rw[za6];exact hr),fun W hW=>zd9 (zd9 hW),by rw[za6,za6],fun b o hb=>?_,fun b o hb=>?_⟩
 ·
  have e:((none:Option Value).orElse fun _=>zal (i,t,n) [((i,t,n),.int .i64 0)]).getD (.int .i64 0)= .int .i64 0:=by simp[zal]
  rw[e] at h2
  exact h2
 ·
  exact⟨(World.cell?_of_block (zaT hb)).trans (World.cell?_of_block (zaT hb)),(World.frozen?_of_block (zaT hb)).trans (World.frozen?_of_block (zaT hb))⟩
 ·
  exact World.cell?_of_block (zaT hb)
theorem zeO {w w':World}{r:Nat}{es:List (Met × Value)}(h:zas w r zd7 es)(hb:Below w.heap.size w w'):zas w' r zd7 es:=by
 unfold zas at *
 have hr:r<w.heap.size:=by
  rw[Array.getElem?_eq_some_iff] at h
  exact h.1
 rw[hb.block r hr];exact h
theorem zas.lt {K:Type}{w:World}{r:Nat}{kv:K→Value}{es:List (K × Value)}(h:zas w r kv es):r<w.heap.size:=by
 unfold zas at h
 rw[Array.getElem?_eq_some_iff] at h
 exact h.1
theorem zbZ {K:Type}{w:World}{r b o:Nat}{u:Value}{kv:K→Value}{es:List (K × Value)}(h:zas w r kv es)(hc:w.cell? ⟨b,o,none⟩=some u):b≠r:=by
 rintro rfl
 unfold zas at h
 simp[World.cell?,h] at hc
def zcP (i:Int)(f:Fld)(r:Nat)(es:List (Met × Value))(k:Nat)(w w':World):Prop:=
 zas w' r zd7 (if k=0 then (es++[((i,f.name,0),one)])++[((i,⟨#[]⟩,f.number),one)] else es)∧w.grownBy w' (some r)
theorem zaI {i:Int}{f:Fld}{r:Nat}{es:List (Met × Value)}{k:Nat}{w w':World}(hk:k≠0)(hm:zas w' r zd7 es)(hb:Below w.heap.size w w'):zcP i f r es k w w':=by
 unfold zcP
 rw[if_neg hk]
 exact⟨hm,hb.os,hb.tape,hb.output,hb.size,fun k hk _=>hb.block k hk⟩
theorem zea (s:ByteArray)(h:zan s=true):s≠⟨#[]⟩:=by
 rintro rfl
 simp[zan] at h
 have:(⟨#[]⟩:ByteArray).size=0:=rfl
 omega
theorem zjo {a:Option Addr}{n cap:Nat}{i:Int}{f:Fld}{r:Nat}{w:World}{es:List (Met × Value)}(hok:f.Ok)(hm:zas w r zd7 es)(nm nu:Bool)
  (hG:zan f.name=true→zal (i,f.name,0) es=seen nm) (hG2:zdE f.number=true→zal (i,⟨#[]⟩,f.number) es=seen nu) :
  Calls Tryz.prog 122 #[.slice a n cap,.int .i64 i,f.val,.map (some r)] w fun e w'=>e= .returned (.int .i64 (zax n nm nu f))∧zcP i f r es (zax n nm nu f) w w':=by
 obtain⟨name,number,kind,rep,packed,of⟩:=f
 obtain⟨hk1,hk2,hk3,hk4⟩:=hok
 simp only at hk1 hk2 hk3 hk4 hG hG2
 obtain⟨K,HKF⟩:∃ K,Hid (K=zax n nm nu ⟨name,number,kind,rep,packed,of⟩):=⟨_,rfl⟩
 rw[←HKF.out]
 unfold zax at HKF
 simp only at HKF
 obtain⟨F,HF⟩:∃ F:Fld,Hid (F=⟨name,number,kind,rep,packed,of⟩):=⟨_,rfl⟩
 simp only[Fld.val]
 rw[←HF.out]
 have HM:=hid hm
 have HGG:=hid hG
 have HGG2:=hid hG2
 clear hm hG hG2
 go_enter Tryz.func122,Tryz.ntmps122
 go_wp2
 go_cut [9,10] (fun s9 s10 wx=>∃ p q:Nat,s9= .pointer (some ⟨p,0,none⟩)∧s10= .pointer (some ⟨q,0,none⟩)∧wx.cell? ⟨p,0,none⟩=some (.int .i64 i)∧wx.cell? ⟨p,1,none⟩=some (.string name)∧wx.cell? ⟨p,2,none⟩=some (.int .i64 0)∧wx.cell? ⟨q,0,none⟩=some (.int .i64 i)∧wx.cell? ⟨q,1,none⟩=some (.string ⟨#[]⟩)∧wx.cell? ⟨q,2,none⟩=some (.int .i64 number)∧wx.cell? ⟨w.heap.size,0,none⟩=some (.string name)∧wx.cell? ⟨w.heap.size,1,none⟩=some (.int .i64 number)∧wx.cell? ⟨w.heap.size,2,none⟩=some (.int .i64 kind)∧wx.cell? ⟨w.heap.size,3,none⟩=some (.bool rep)∧wx.cell? ⟨w.heap.size,4,none⟩=some (.bool packed)∧wx.cell? ⟨w.heap.size,5,none⟩=some (.int .i64 of)∧Below w.heap.size w wx)
 case first =>
  go_region
  all_goals
   go_wp2_with fail
   go_meet
   case rel =>
    refine⟨_,_,rfl,rfl,?_,?_,?_,?_,?_,?_,?_,?_,?_,?_,?_,?_,by (with_reducible repeat first|exact Below.refl _ _|refine pzA ?_ _|refine pzB ?_ _|refine zab ?_ _|refine Below.drew ?_)⟩
    all_goals simp[go_sem]
 case rest =>
  obtain⟨p,q,rfl,rfl,p0,p1,p2,q0,q1,q2,f0,f1,f2,f3,f4,f5,hbel⟩:=hcut
  have hmc:=zeO HM.out hbel
  have HMC:=hid hmc
  have hrr:=hmc.lt
  clear hmc
  by_cases hN:zan name=true
  ·
   have HG0:=HGG.out hN
   have HN:=hid hN
   clear hN
   cases nm with
   | true =>
    have HG:=hid HG0
    clear HG0
    go_wp2_with fail
    refine (zbG _ (by omega) _).mono ?_
    rintro e w' ⟨rfl,rfl⟩
    rw[HN.out]
    have hl1:=za5 HMC.out i name 0 _ HG.out
    simp only[if_true] at hl1
    go_wp2
    go_ret
    obtain rfl:K=6:=by rw[HKF.out,if_neg (by rw[HN.out];decide)];rfl
    exact⟨rfl,zaI (by omega) HMC.out hbel⟩
   | false =>
    have HG:=hid HG0
    clear HG0
    by_cases hU:zdE number=true
    ·
     have HG20:=HGG2.out hU
     have HU:=hid hU
     clear hU
     cases nu with
     | true =>
      have HG2:=hid HG20
      clear HG20
      go_wp2_with fail
      refine (zbG _ (by omega) _).mono ?_
      rintro e w' ⟨rfl,rfl⟩
      rw[HN.out]
      have hl1:=za5 HMC.out i name 0 _ HG.out
      simp only[if_false,Bool.false_eq_true] at hl1
      go_wp2_with fail
      refine (zcB _ _).mono ?_
      rintro e w' ⟨rfl,rfl⟩
      rw[HU.out]
      have hl2:=za5 HMC.out i ⟨#[]⟩ number _ HG2.out
      simp only[if_true] at hl2
      go_wp2
      go_ret
      obtain rfl:K=8:=by rw[HKF.out,if_neg (by rw[HN.out];decide),if_neg (by decide),if_neg (by rw[HU.out];decide)];rfl
      exact⟨rfl,zaI (by omega) HMC.out hbel⟩
     | false =>
      have HG2:=hid HG20
      clear HG20
      by_cases hK:zaU kind=true
      ·
       have HK:=hid hK
       clear hK
       have HKF2:Hid (K=if packed=true∧(rep=false∨zaw kind=false) then 10 else if kind=17∧(of<0∨(n:Int)≤of)∨kind≠17∧of≠0 then 11 else 0):=by rw[HKF.out,if_neg (by rw[HN.out];decide),if_neg (by decide),if_neg (by rw[HU.out];decide),if_neg (by decide),if_neg (by rw[HK.out];decide)];exact hid rfl
       go_wp2_with fail
       refine (zbG _ (by omega) _).mono ?_
       rintro e w' ⟨rfl,rfl⟩
       rw[HN.out]
       have hl1:=za5 HMC.out i name 0 _ HG.out
       simp only[if_false,Bool.false_eq_true] at hl1
       go_wp2_with fail
       refine (zcB _ _).mono ?_
       rintro e w' ⟨rfl,rfl⟩
       rw[HU.out]
       have hl2:=za5 HMC.out i ⟨#[]⟩ number _ HG2.out
       simp only[if_false,Bool.false_eq_true] at hl2
       go_wp2_with fail
       refine (zhS _ _).mono ?_
       rintro e w' ⟨rfl,rfl⟩
       rw[HK.out]
       cases packed with
       | false =>
        have HP:Hid (¬ (false=true∧(rep=false∨zaw kind=false))):=by simp[Hid]
        by_cases h17:kind=17
        ·
         by_cases ho:of<0∨(n:Int)≤of
         ·
          have HO:Hid (K=11):=by rw[HKF2.out,if_neg HP.out];exact if_pos (.inl ⟨h17,ho⟩)
          subst h17
          rcases ho with ho|ho
          ·
           go_wp2
           go_ret
           obtain rfl:K=11:=HO.out
           exact⟨rfl,zaI (by omega) HMC.out hbel⟩
          ·
           have ho2:0≤of:=by omega
           go_wp2
           go_ret
           obtain rfl:K=11:=HO.out
           exact⟨rfl,zaI (by omega) HMC.out hbel⟩
         ·
          have HO:Hid (K=0):=by rw[HKF2.out,if_neg HP.out];exact if_neg (by omega)
          have ho1:0≤of:=by omega
          have ho2:of<(n:Int):=by omega
          clear ho
          subst h17
          have HPQ:Hid ((∀ o u,wc.cell? ⟨p,o,none⟩=some u→p≠r)∧(∀ o u,wc.cell? ⟨q,o,none⟩=some u→q≠r)):=⟨fun o u hu=>zbZ HMC.out hu,fun o u hu=>zbZ HMC.out hu⟩
          have hpr:=HPQ.out.1 _ _ p0
          have hqr:=HPQ.out.2 _ _ q0
          have HPR:=hid hpr
          have HQR:=hid hqr
          clear hpr hqr
          go_wp2
          go_cut [] (fun wx=>zas wx r zd7 (es++[((i,name,0),one)])∧w.grownBy wx (some r)∧wx.cell? ⟨p,0,none⟩=some (.int .i64 i)∧wx.cell? ⟨p,1,none⟩=some (.string name)∧wx.cell? ⟨p,2,none⟩=some (.int .i64 0)∧wx.cell? ⟨q,0,none⟩=some (.int .i64 i)∧wx.cell? ⟨q,1,none⟩=some (.string ⟨#[]⟩)∧wx.cell? ⟨q,2,none⟩=some (.int .i64 number))
          case first =>
           have hmd:zas wc.drew r zd7 es:=HMC.out
           have HMD:=hid hmd
           have hrd:r<wc.drew.heap.size:=hmd.lt
           clear hmd
           have hl1:=za5 HMD.out i name 0 _ HG.out
           simp only[Bool.false_eq_true,if_false] at hl1
           obtain⟨w3,w4,hme,hl3,hes,hm3,hgr,hsz,hcells,hc2⟩:=zdn HMD.out hrd i name 0 HG.out
           have HM3:=hid hm3
           have HGR:=hid hgr
           have HCL:=hid hcells
           clear hm3 hgr hcells hc2
           go_region
           all_goals
            go_wp2_with fail
            go_meet
            case rel =>
             refine⟨HM3.out,HGR.out w ⟨hbel.os,hbel.tape,hbel.output,hbel.size,fun k hk _=>hbel.block k hk⟩,?_⟩
             have hcl:=HCL.out
             exact⟨(hcl p 0 HPR.out).1.trans p0,(hcl p 1 HPR.out).1.trans p1,(hcl p 2 HPR.out).1.trans p2,(hcl q 0 HQR.out).1.trans q0,(hcl q 1 HQR.out).1.trans q1,(hcl q 2 HQR.out).1.trans q2⟩
          case rest =>
           obtain⟨hm5,hg5,rp0,rp1,rp2,rq0,rq1,rq2⟩:=hcut
           have HM5:=hid hm5
           have HG5:=hid hg5
           clear hm5 hg5
           go_wp2
           go_cut [] (fun wx=>zas wx r zd7 ((es++[((i,name,0),one)])++[((i,⟨#[]⟩,number),one)])∧w.grownBy wx (some r))
           case first =>
            have hmd:zas wc.drew r zd7 (es++[((i,name,0),one)]):=HM5.out
            have HMD:=hid hmd
            have hrd:r<wc.drew.heap.size:=hmd.lt
            clear hmd
            have HGN:Hid (zal (i,(⟨#[]⟩:ByteArray),number) (es++[((i,name,0),one)])=none):=by
             rw[Hid,zaA,HG2.out]
             have hne:=zea _ HN.out
             have:¬ ((i,(⟨#[]⟩:ByteArray),number)=((i,name,0):Met)):=fun e=>hne (congrArg (fun x:Met=>x.2.1) e).symm
             simp[seen,zal,this]
            have hl1:=za5 HMD.out i ⟨#[]⟩ number false HGN.out
            simp only[Bool.false_eq_true,if_false] at hl1
            obtain⟨w5,w6,hme,hl3,hes,hm3,hgr,hsz,hcells,hc2⟩:=zdn HMD.out hrd i ⟨#[]⟩ number HGN.out
            have hlen:(((es++[(((i,name,0):Met),one)]).length:Nat):Int)=(es.length:Int)+1:=by simp
            rw[hlen] at hme hes
            clear hlen
            have HM3:=hid hm3
            have HGR:=hid hgr
            clear hm3 hgr hcells hc2
            go_region
            all_goals
             go_wp2_with fail
             go_meet
             case rel =>
              have hg5:=HG5.out
              exact⟨HM3.out,HGR.out w ⟨hg5.os,hg5.tape,hg5.output,hg5.size,hg5.block⟩⟩
           case rest =>
            obtain⟨hm6,hg6⟩:=hcut
            have HM6:=hid hm6
            have HG6:=hid hg6
            clear hm6 hg6
            go_wp2
            go_ret
            obtain rfl:K=0:=HO.out
            refine⟨rfl,?_⟩
            unfold zcP
            rw[if_pos rfl,HF.out]
            exact⟨HM6.out,HG6.out⟩
        ·
         have h17':(kind == 17)=false:=by simpa using h17
         have h17b:(kind != 17)=true:=by simpa using h17
         by_cases ho:of=0
         ·
          have HO:Hid (K=0):=by rw[HKF2.out,if_neg HP.out];exact if_neg (by omega)
          have H17:=hid h17
          clear h17
          subst ho
          have HPQ:Hid ((∀ o u,wc.cell? ⟨p,o,none⟩=some u→p≠r)∧(∀ o u,wc.cell? ⟨q,o,none⟩=some u→q≠r)):=⟨fun o u hu=>zbZ HMC.out hu,fun o u hu=>zbZ HMC.out hu⟩
          have hpr:=HPQ.out.1 _ _ p0
          have hqr:=HPQ.out.2 _ _ q0
          have HPR:=hid hpr
          have HQR:=hid hqr
          clear hpr hqr
          go_wp2
          go_cut [] (fun wx=>zas wx r zd7 (es++[((i,name,0),one)])∧w.grownBy wx (some r)∧wx.cell? ⟨p,0,none⟩=some (.int .i64 i)∧wx.cell? ⟨p,1,none⟩=some (.string name)∧wx.cell? ⟨p,2,none⟩=some (.int .i64 0)∧wx.cell? ⟨q,0,none⟩=some (.int .i64 i)∧wx.cell? ⟨q,1,none⟩=some (.string ⟨#[]⟩)∧wx.cell? ⟨q,2,none⟩=some (.int .i64 number))
          case first =>
           have hmd:zas wc.drew r zd7 es:=HMC.out
           have HMD:=hid hmd
           have hrd:r<wc.drew.heap.size:=hmd.lt
           clear hmd
           have hl1:=za5 HMD.out i name 0 _ HG.out
           simp only[Bool.false_eq_true,if_false] at hl1
           obtain⟨w3,w4,hme,hl3,hes,hm3,hgr,hsz,hcells,hc2⟩:=zdn HMD.out hrd i name 0 HG.out
           have HM3:=hid hm3
           have HGR:=hid hgr
           have HCL:=hid hcells
           clear hm3 hgr hcells hc2
           go_region
           all_goals
            go_wp2_with fail
            go_meet
            case rel =>
             refine⟨HM3.out,HGR.out w ⟨hbel.os,hbel.tape,hbel.output,hbel.size,fun k hk _=>hbel.block k hk⟩,?_⟩
             have hcl:=HCL.out
             exact⟨(hcl p 0 HPR.out).1.trans p0,(hcl p 1 HPR.out).1.trans p1,(hcl p 2 HPR.out).1.trans p2,(hcl q 0 HQR.out).1.trans q0,(hcl q 1 HQR.out).1.trans q1,(hcl q 2 HQR.out).1.trans q2⟩
          case rest =>
           obtain⟨hm5,hg5,rp0,rp1,rp2,rq0,rq1,rq2⟩:=hcut
           have HM5:=hid hm5
           have HG5:=hid hg5
           clear hm5 hg5
           go_wp2
           go_cut [] (fun wx=>zas wx r zd7 ((es++[((i,name,0),one)])++[((i,⟨#[]⟩,number),one)])∧w.grownBy wx (some r))
           case first =>
            have hmd:zas wc.drew r zd7 (es++[((i,name,0),one)]):=HM5.out
            have HMD:=hid hmd
            have hrd:r<wc.drew.heap.size:=hmd.lt
            clear hmd
            have HGN:Hid (zal (i,(⟨#[]⟩:ByteArray),number) (es++[((i,name,0),one)])=none):=by
             rw[Hid,zaA,HG2.out]
             have hne:=zea _ HN.out
             have:¬ ((i,(⟨#[]⟩:ByteArray),number)=((i,name,0):Met)):=fun e=>hne (congrArg (fun x:Met=>x.2.1) e).symm
             simp[seen,zal,this]
            have hl1:=za5 HMD.out i ⟨#[]⟩ number false HGN.out
            simp only[Bool.false_eq_true,if_false] at hl1
            obtain⟨w5,w6,hme,hl3,hes,hm3,hgr,hsz,hcells,hc2⟩:=zdn HMD.out hrd i ⟨#[]⟩ number HGN.out
            have hlen:(((es++[(((i,name,0):Met),one)]).length:Nat):Int)=(es.length:Int)+1:=by simp
            rw[hlen] at hme hes
            clear hlen
            have HM3:=hid hm3
            have HGR:=hid hgr
            clear hm3 hgr hcells hc2
            go_region
            all_goals
             go_wp2_with fail
             go_meet
             case rel =>
              have hg5:=HG5.out
              exact⟨HM3.out,HGR.out w ⟨hg5.os,hg5.tape,hg5.output,hg5.size,hg5.block⟩⟩
           case rest =>
            obtain⟨hm6,hg6⟩:=hcut
            have HM6:=hid hm6
            have HG6:=hid hg6
            clear hm6 hg6
            go_wp2
            go_ret
            obtain rfl:K=0:=HO.out
            refine⟨rfl,?_⟩
            unfold zcP
            rw[if_pos rfl,HF.out]
            exact⟨HM6.out,HG6.out⟩
         ·
          have HO:Hid (K=11):=by rw[HKF2.out,if_neg HP.out];exact if_pos (.inr ⟨h17,ho⟩)
          have ho':(of == 0)=false:=by simpa using ho
          have hob:(of != 0)=true:=by simpa using ho
          have H17:=hid h17
          have HO2:=hid ho
          clear h17 ho
          go_wp2
          go_ret
          obtain rfl:K=11:=HO.out
          exact⟨rfl,zaI (by omega) HMC.out hbel⟩
       | true =>
        cases rep with
        | false =>
         have HO:Hid (K=10):=by rw[HKF2.out];exact if_pos ⟨rfl,.inl rfl⟩
         go_wp2
         go_ret
         obtain rfl:K=10:=HO.out
         exact⟨rfl,zaI (by omega) HMC.out hbel⟩
        | true =>
         by_cases hKN:zaw kind=true
         ·
          have HP:Hid (¬ (true=true∧(true=false∨zaw kind=false))):=by simp[Hid,hKN]
          have HKN:=hid hKN
          clear hKN
          go_wp2_with fail
          refine (zbF _ _).mono ?_
          rintro e w2 ⟨rfl,hb2⟩
          rw[HKN.out]
          have p0':=zaa hb2 _ _ p0
          have p1':=zaa hb2 _ _ p1
          have p2':=zaa hb2 _ _ p2
          have q0':=zaa hb2 _ _ q0
          have q1':=zaa hb2 _ _ q1
          have q2':=zaa hb2 _ _ q2
          have f0':=zaa hb2 _ _ f0
          have f1':=zaa hb2 _ _ f1
          have f2':=zaa hb2 _ _ f2
          have f3':=zaa hb2 _ _ f3
          have f4':=zaa hb2 _ _ f4
          have f5':=zaa hb2 _ _ f5
          have hrr2:r<w2.heap.size:=by have:=hb2.size;omega
          have hbel2:Below w.heap.size w w2:=zai hbel hb2 hbel.size
          have HMC2:=hid (zeO HMC.out hb2)
          by_cases h17:kind=17
          ·
           exfalso
           have:=HKN.out
           subst h17
           revert this
           decide
          ·
           have h17':(kind == 17)=false:=by simpa using h17
           have h17b:(kind != 17)=true:=by simpa using h17
           by_cases ho:of=0
           ·
            have HO:Hid (K=0):=by rw[HKF2.out,if_neg HP.out];exact if_neg (by omega)
            have H17:=hid h17
            clear h17
            subst ho
            have HPQ:Hid ((∀ o u,w2.cell? ⟨p,o,none⟩=some u→p≠r)∧(∀ o u,w2.cell? ⟨q,o,none⟩=some u→q≠r)):=⟨fun o u hu=>zbZ HMC2.out hu,fun o u hu=>zbZ HMC2.out hu⟩
            have hpr:=HPQ.out.1 _ _ p0'
            have hqr:=HPQ.out.2 _ _ q0'
            have HPR:=hid hpr
            have HQR:=hid hqr
            clear hpr hqr
            go_wp2
            go_cut [] (fun wx=>zas wx r zd7 (es++[((i,name,0),one)])∧w.grownBy wx (some r)∧wx.cell? ⟨p,0,none⟩=some (.int .i64 i)∧wx.cell? ⟨p,1,none⟩=some (.string name)∧wx.cell? ⟨p,2,none⟩=some (.int .i64 0)∧wx.cell? ⟨q,0,none⟩=some (.int .i64 i)∧wx.cell? ⟨q,1,none⟩=some (.string ⟨#[]⟩)∧wx.cell? ⟨q,2,none⟩=some (.int .i64 number))
            case first =>
             have hmd:zas w2.drew r zd7 es:=HMC2.out
             have HMD:=hid hmd
             have hrd:r<w2.drew.heap.size:=hmd.lt
             clear hmd
             have hl1:=za5 HMD.out i name 0 _ HG.out
             simp only[Bool.false_eq_true,if_false] at hl1
             obtain⟨w3,w4,hme,hl3,hes,hm3,hgr,hsz,hcells,hc2⟩:=zdn HMD.out hrd i name 0 HG.out
             have HM3:=hid hm3
             have HGR:=hid hgr
             have HCL:=hid hcells
             clear hm3 hgr hcells hc2
             go_region
             all_goals
              go_wp2_with fail
              go_meet
              case rel =>
               refine⟨HM3.out,HGR.out w ⟨hbel2.os,hbel2.tape,hbel2.output,hbel2.size,fun k hk _=>hbel2.block k hk⟩,?_⟩
               have hcl:=HCL.out
               exact⟨(hcl p 0 HPR.out).1.trans p0',(hcl p 1 HPR.out).1.trans p1',(hcl p 2 HPR.out).1.trans p2',(hcl q 0 HQR.out).1.trans q0',(hcl q 1 HQR.out).1.trans q1',(hcl q 2 HQR.out).1.trans q2'⟩
            case rest =>
             obtain⟨hm5,hg5,rp0,rp1,rp2,rq0,rq1,rq2⟩:=hcut
             have HM5:=hid hm5
             have HG5:=hid hg5
             clear hm5 hg5
             go_wp2
             go_cut [] (fun wx=>zas wx r zd7 ((es++[((i,name,0),one)])++[((i,⟨#[]⟩,number),one)])∧w.grownBy wx (some r))
             case first =>
              have hmd:zas wc.drew r zd7 (es++[((i,name,0),one)]):=HM5.out
              have HMD:=hid hmd
              have hrd:r<wc.drew.heap.size:=hmd.lt
              clear hmd
              have HGN:Hid (zal (i,(⟨#[]⟩:ByteArray),number) (es++[((i,name,0),one)])=none):=by
               rw[Hid,zaA,HG2.out]
               have hne:=zea _ HN.out
               have:¬ ((i,(⟨#[]⟩:ByteArray),number)=((i,name,0):Met)):=fun e=>hne (congrArg (fun x:Met=>x.2.1) e).symm
               simp[seen,zal,this]
              have hl1:=za5 HMD.out i ⟨#[]⟩ number false HGN.out
              simp only[Bool.false_eq_true,if_false] at hl1
              obtain⟨w5,w6,hme,hl3,hes,hm3,hgr,hsz,hcells,hc2⟩:=zdn HMD.out hrd i ⟨#[]⟩ number HGN.out
              have hlen:(((es++[(((i,name,0):Met),one)]).length:Nat):Int)=(es.length:Int)+1:=by simp
              rw[hlen] at hme hes
              clear hlen
              have HM3:=hid hm3
              have HGR:=hid hgr
              clear hm3 hgr hcells hc2
              go_region
              all_goals
               go_wp2_with fail
               go_meet
               case rel =>
                have hg5:=HG5.out
                exact⟨HM3.out,HGR.out w ⟨hg5.os,hg5.tape,hg5.output,hg5.size,hg5.block⟩⟩
             case rest =>
              obtain⟨hm6,hg6⟩:=hcut
              have HM6:=hid hm6
              have HG6:=hid hg6
              clear hm6 hg6
              go_wp2
              go_ret
              obtain rfl:K=0:=HO.out
              refine⟨rfl,?_⟩
              unfold zcP
              rw[if_pos rfl,HF.out]
              exact⟨HM6.out,HG6.out⟩
           ·
            have HO:Hid (K=11):=by rw[HKF2.out,if_neg HP.out];exact if_pos (.inr ⟨h17,ho⟩)
            have ho':(of == 0)=false:=by simpa using ho
            have hob:(of != 0)=true:=by simpa using ho
            have H17:=hid h17
            have HO2:=hid ho
            clear h17 ho
            go_wp2
            go_ret
            obtain rfl:K=11:=HO.out
            exact⟨rfl,zaI (by omega) HMC2.out hbel2⟩
         ·
          have hKN2:zaw kind=false:=by simpa using hKN
          have HO:Hid (K=10):=by rw[HKF2.out];exact if_pos ⟨rfl,.inr hKN2⟩
          have HKN:=hid hKN2
          clear hKN hKN2
          go_wp2_with fail
          refine (zbF _ _).mono ?_
          rintro e w2 ⟨rfl,hb2⟩
          rw[HKN.out]
          have p0':=zaa hb2 _ _ p0
          have p1':=zaa hb2 _ _ p1
          have p2':=zaa hb2 _ _ p2
          have q0':=zaa hb2 _ _ q0
          have q1':=zaa hb2 _ _ q1
          have q2':=zaa hb2 _ _ q2
          have f0':=zaa hb2 _ _ f0
          have f1':=zaa hb2 _ _ f1
          have f2':=zaa hb2 _ _ f2
          have f3':=zaa hb2 _ _ f3
          have f4':=zaa hb2 _ _ f4
          have f5':=zaa hb2 _ _ f5
          have hrr2:r<w2.heap.size:=by have:=hb2.size;omega
          have hbel2:Below w.heap.size w w2:=zai hbel hb2 hbel.size
          have HMC2:=hid (zeO HMC.out hb2)
          go_wp2
          go_ret
          obtain rfl:K=10:=HO.out
          exact⟨rfl,zaI (by omega) HMC2.out hbel2⟩
      ·
       have hK2:zaU kind=false:=by simpa using hK
       have HK:=hid hK2
       clear hK hK2
       go_wp2_with fail
       refine (zbG _ (by omega) _).mono ?_
       rintro e w' ⟨rfl,rfl⟩
       rw[HN.out]
       have hl1:=za5 HMC.out i name 0 _ HG.out
       simp only[if_false,Bool.false_eq_true] at hl1
       go_wp2_with fail
       refine (zcB _ _).mono ?_
       rintro e w' ⟨rfl,rfl⟩
       rw[HU.out]
       have hl2:=za5 HMC.out i ⟨#[]⟩ number _ HG2.out
       simp only[if_false,Bool.false_eq_true] at hl2
       go_wp2_with fail
       refine (zhS _ _).mono ?_
       rintro e w' ⟨rfl,rfl⟩
       rw[HK.out]
       go_wp2
       go_ret
       obtain rfl:K=9:=by rw[HKF.out,if_neg (by rw[HN.out];decide),if_neg (by decide),if_neg (by rw[HU.out];decide),if_neg (by decide),if_pos HK.out]
       exact⟨rfl,zaI (by omega) HMC.out hbel⟩
    ·
     have hU2:zdE number=false:=by simpa using hU
     have HU:=hid hU2
     clear hU hU2
     go_wp2_with fail
     refine (zbG _ (by omega) _).mono ?_
     rintro e w' ⟨rfl,rfl⟩
     rw[HN.out]
     have hl1:=za5 HMC.out i name 0 _ HG.out
     simp only[if_false,Bool.false_eq_true] at hl1
     go_wp2_with fail
     refine (zcB _ _).mono ?_
     rintro e w' ⟨rfl,rfl⟩
     rw[HU.out]
     go_wp2
     go_ret
     obtain rfl:K=7:=by rw[HKF.out,if_neg (by rw[HN.out];decide),if_neg (by decide),if_pos HU.out]
     exact⟨rfl,zaI (by omega) HMC.out hbel⟩
  ·
   have hN2:zan name=false:=by simpa using hN
   have HN:=hid hN2
   clear hN hN2
   go_wp2_with fail
   refine (zbG _ (by omega) _).mono ?_
   rintro e w' ⟨rfl,rfl⟩
   rw[HN.out]
   go_wp2
   go_ret
   obtain rfl:K=5:=by rw[HKF.out,if_pos HN.out]
   exact⟨rfl,zaI (by omega) HMC.out hbel⟩
end
section
open Go.RowKit
def za7 (bf:List Fld)(t:ByteArray):Bool:=bf.any fun g=>decide (g.name=t)
def zbx (bf:List Fld)(x:Int):Bool:=bf.any fun g=>decide (g.number=x)
def zcQ (bm:List Mes)(t:ByteArray):Bool:=bm.any fun g=>decide (g.name=t)
def zao (n:Nat)(bf:List Fld):List Fld→Nat→Option (Nat × Nat)
 | [],_=>none
 | f::r,k=>if zax n (za7 bf f.name) (zbx bf f.number) f=0 then zao n (bf++[f]) r (k+1) else some (k,zax n (za7 bf f.name) (zbx bf f.number) f)
def zbB (n:Nat)(bm:List Mes):List Mes→Nat→Int × Int × Nat
 | [],_=>(0,0,0)
 | m::r,i =>
  if zan m.name=false then (i,-1,2) else if zcQ bm m.name=true then (i,-1,3) else if 200<m.fields.length then (i,-1,4) else
  match zao n [] m.fields 0 with
  | some (k,w)=>(i,k,w)
  | none=>zbB n (bm++[m]) r (i+1)
def zbj (s:List Mes):Int × Int × Nat:=if s.length=0∨100<s.length then (-1,-1,1) else zbB s.length [] s 0
def zaC (s:List Mes):Bool:=decide ((zbj s).2.2=0)
theorem zeF (n:Nat)(fs:List Fld)(k:Nat)(hk:k<fs.length):zao n (fs.take k) (fs.drop k) k =
  if zax n (za7 (fs.take k) (fs.getD k .zero).name) (zbx (fs.take k) (fs.getD k .zero).number) (fs.getD k .zero)=0 then zao n (fs.take (k+1)) (fs.drop (k+1)) (k+1)
  else some (k,zax n (za7 (fs.take k) (fs.getD k .zero).name) (zbx (fs.take k) (fs.getD k .zero).number) (fs.getD k .zero)):=by
 have e:fs.getD k .zero=fs[k]:=by simp[List.getD,hk]
 rw[e]
 conv=>lhs;rw[List.drop_eq_getElem_cons hk]
 rw[zao,List.take_succ_eq_append_getElem hk]
theorem zgG (n:Nat)(s:List Mes)(k:Nat)(hk:k<s.length):zbB n (s.take k) (s.drop k) k =
  if zan (s.getD k .zero).name=false then ((k:Int),-1,2) else if zcQ (s.take k) (s.getD k .zero).name=true then ((k:Int),-1,3) else if 200<(s.getD k .zero).fields.length then ((k:Int),-1,4) else
  match zao n [] (s.getD k .zero).fields 0 with
  | some (j,w)=>((k:Int),(j:Int),w)
  | none=>zbB n (s.take (k+1)) (s.drop (k+1)) (k+1):=by
 have e:s.getD k .zero=s[k]:=by simp[List.getD,hk]
 rw[e]
 conv=>lhs;rw[List.drop_eq_getElem_cons hk]
 rw[zbB,List.take_succ_eq_append_getElem hk]
theorem zbL {n:Nat}{nm nu:Bool}{f:Fld}(h:zax n nm nu f=0):zan f.name=true∧nm=false∧zdE f.number=true∧nu=false:=by
 unfold zax at h
 by_cases h1:zan f.name=false
 ·
  rw[if_pos h1] at h;omega
 ·
  rw[if_neg h1] at h
  cases nm with
  | true=>rw[if_pos rfl] at h;omega
  | false =>
   rw[if_neg (by decide)] at h
   by_cases h2:zdE f.number=false
   ·
    rw[if_pos h2] at h;omega
   ·
    rw[if_neg h2] at h
    cases nu with
    | true=>rw[if_pos rfl] at h;omega
    | false=>exact⟨by simpa using h1,rfl,by simpa using h2,rfl⟩
structure zbR (i:Int)(bf:List Fld)(es:List (Met × Value)):Prop where
 name:∀ t,zan t=true→zal (i,t,0) es=seen (za7 bf t)
 num:∀ x,zdE x=true→zal (i,⟨#[]⟩,x) es=seen (zbx bf x)
 later:∀ j t x,i<j→zal (j,t,x) es=none
theorem zbR.start (i:Int):zbR i [] []:=⟨fun _ _=>rfl,fun _ _=>rfl,fun _ _ _ _=>rfl⟩
theorem zbR.next {i:Int}{bf:List Fld}{es:List (Met × Value)}(h:zbR i bf es):zbR (i+1) [] es:=
 ⟨fun t _=>h.later _ _ _ (by omega),fun x _=>h.later _ _ _ (by omega),fun j t x hj=>h.later _ _ _ (by omega)⟩
theorem zbR.step {i:Int}{bf:List Fld}{es:List (Met × Value)}(h:zbR i bf es){f:Fld}(hn:zan f.name=true)(_hx:zdE f.number=true) :
  zbR i (bf++[f]) ((es++[((i,f.name,0),one)])++[((i,⟨#[]⟩,f.number),one)]) where
 name t ht:=by
  rw[zaA,zaA,h.name t ht]
  have e1:¬ ((i,t,(0:Int))=((i,(⟨#[]⟩:ByteArray),f.number):Met)):=fun e=>zea t ht (congrArg (fun x:Met=>x.2.1) e)
  have e2:((i,t,(0:Int))=((i,f.name,0):Met))↔f.name=t:=⟨fun e=>(congrArg (fun x:Met=>x.2.1) e).symm,fun e=>by rw[e]⟩
  have e3:za7 (bf++[f]) t=(za7 bf t||decide (f.name=t)):=by simp[za7]
  rw[e3]
  simp only[zal,e1,e2,if_false]
  cases za7 bf t
  ·
   by_cases e:f.name=t <;> simp[seen,e]
  ·
   simp[seen]
 num x hx':=by
  rw[zaA,zaA,h.num x hx']
  have e1:¬ ((i,(⟨#[]⟩:ByteArray),x)=((i,f.name,0):Met)):=fun e=>zea f.name hn (congrArg (fun x:Met=>x.2.1) e).symm
  have e2:((i,(⟨#[]⟩:ByteArray),x)=((i,⟨#[]⟩,f.number):Met))↔f.number=x:=⟨fun e=>(congrArg (fun x:Met=>x.2.2) e).symm,fun e=>by rw[e]⟩
  have e3:zbx (bf++[f]) x=(zbx bf x||decide (f.number=x)):=by simp[zbx]
  rw[e3]
  simp only[zal,e1,e2,if_false]
  cases zbx bf x
  ·
   by_cases e:f.number=x <;> simp[seen,e]
  ·
   simp[seen]
 later j t x hj:=by
  rw[zaA,zaA,h.later j t x hj]
  have e1:¬ ((j,t,x)=((i,f.name,0):Met)):=fun e=>by have:=congrArg (fun x:Met=>x.1) e;simp at this;omega
  have e2:¬ ((j,t,x)=((i,⟨#[]⟩,f.number):Met)):=fun e=>by have:=congrArg (fun x:Met=>x.1) e;simp at this;omega
  simp[zal,e1,e2]
def zdF (bm:List Mes)(en:List (ByteArray × Value)):Prop:=∀ t,zal t en=seen (zcQ bm t)
theorem zdF.step {bm:List Mes}{en:List (ByteArray × Value)}(h:zdF bm en)(m:Mes):zdF (bm++[m]) (en++[(m.name,one)]):=by
 intro t
 rw[zaA,h t]
 have e3:zcQ (bm++[m]) t=(zcQ bm t||decide (m.name=t)):=by simp[zcQ]
 rw[e3]
 have e2:t=m.name↔m.name=t:=⟨fun e=>e.symm,fun e=>e.symm⟩
 simp only[zal,e2]
 cases zcQ bm t
 ·
  by_cases e:m.name=t <;> simp[seen,e]
 ·
  simp[seen]
theorem zgH {w:World}{r:Nat}{en:List (ByteArray × Value)}(h:zas w r zm9 en)(t:ByteArray)(b:Bool)(hg:zal t en=seen b) :
  (Instr.lookup 189 (.map (some r)) (.string t) false).run Tryz.prog w= .ok (.int .i64 (if b then 1 else 0)) w:=by
 have:=zb3 (P:=Tryz.prog) zpu Tryz.underlying189 zgl h t false
 rw[hg] at this
 cases b <;> exact this
theorem zkn {w:World}{r:Nat}{en:List (ByteArray × Value)}(h:zas w r zm9 en)(t:ByteArray)(hg:zal t en=none) :
  ∃ w2,(Instr.mapUpdate 189 (.map (some r)) (.string t) (.int .i64 1)).run Tryz.prog w= .ok () w2∧zas w2 r zm9 (en++[(t,one)])∧(∀ W:World,W.grownBy w (some r)→W.grownBy w2 (some r)) ∧
   w2.heap.size=w.heap.size∧(∀ b,b≠r→w2.heap[b]?=w.heap[b]?):=
 ⟨_,zes (P:=Tryz.prog) zpu Tryz.underlying189 h t one hg,zb8 h.lt,fun _ hW=>zd9 hW,za6,fun _ hb=>zaT hb⟩
end
end Go.Proofs.YtdpnmdkbdibkpaaGreatDoor
