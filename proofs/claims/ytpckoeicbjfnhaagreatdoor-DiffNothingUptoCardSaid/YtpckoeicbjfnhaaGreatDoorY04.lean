/- Parts of a proof: texts of the author, merged. No condition of their own. -/
import Derived.Test.YtpckoeicbjfnhaaGreatDoorY03
namespace Go.Proofs.YtpckoeicbjfnhaaGreatDoor
set_option maxRecDepth 100000
set_option maxHeartbeats 16000000
section
open Go.RowKit
def zaN (n:Nat)(nm nu:Bool)(f:Fld):Nat:=
 if zaY f.name=false then 5 else if nm then 6 else if zeN f.number=false then 7 else if nu then 8 else if zaM f.kind=false then 9 else
 if f.packed=true∧(f.rep=false∨zac f.kind=false) then 10 else if f.kind=17∧(f.of<0∨(n:Int)≤f.of)∨f.kind≠17∧f.of≠0 then 11 else 0
abbrev Met:=Int × ByteArray × Int
def one:Value:=.int .i64 1
theorem zhX (w:World):(zeroValue 3).run Tryz.prog w= .ok (.int .i64 0) w:=by kernel_rfl
def seen (b:Bool):Option Value:=if b then some one else none
theorem za3 {w:World}{r:Nat}{es:List (Met × Value)}(h:zax w r zeP es)(i:Int)(t:ByteArray)(n:Int)(b:Bool)(hg:zaC (i,t,n) es=seen b) :
  (Instr.lookup 173 (.map (some r)) (.agg #[.int .i64 i,.string t,.int .i64 n]) false).run Tryz.prog w= .ok (.int .i64 (if b then 1 else 0)) w:=by
 have:=zbG (P:=Tryz.prog) zqA Tryz.underlying173 zhX h (i,t,n) false
 rw[hg] at this
 cases b <;> exact this
theorem zd7 {w:World}{r:Nat}{es:List (Met × Value)}(h:zax w r zeP es)(hr:r<w.heap.size)(i:Int)(t:ByteArray)(n:Int)(hg:zaC (i,t,n) es=none) :
  ∃ w2 w3,(Instr.mapEntry 173 (.map (some r)) (.agg #[.int .i64 i,.string t,.int .i64 n])).run Tryz.prog w= .ok (.tuple #[.int .i64 0,.int .i64 es.length]) w2 ∧
   (Instr.lookup 173 (.map (some r)) (.agg #[.int .i64 i,.string t,.int .i64 n]) false).run Tryz.prog w2= .ok (.int .i64 0) w2 ∧
   (Instr.entryStore 173 (.map (some r)) (.int .i64 es.length) (.int .i64 1)).run Tryz.prog w2= .ok () w3 ∧
   zax w3 r zeP (es++[((i,t,n),one)])∧(∀ W:World,W.grownBy w (some r)→W.grownBy w3 (some r))∧w3.heap.size=w.heap.size∧(∀ b o,b≠r→w3.cell? ⟨b,o,none⟩=w.cell? ⟨b,o,none⟩∧w3.frozen? ⟨b,o,none⟩=w.frozen? ⟨b,o,none⟩) ∧
   (∀ b o,b≠r→w2.cell? ⟨b,o,none⟩=w.cell? ⟨b,o,none⟩):=by
 have h1:=zkO (P:=Tryz.prog) zqA Tryz.underlying173 zhX h (i,t,n) hg
 have hm2:zax (zbk w r zeP (es++[((i,t,n),.int .i64 0)])) r zeP (es++[((i,t,n),.int .i64 0)]):=zdr hr
 have h2:=zbG (P:=Tryz.prog) zqA Tryz.underlying173 zhX hm2 (i,t,n) false
 rw[zaR,hg] at h2
 have h3:=zkP (P:=Tryz.prog) (t:=173) hm2 one
 refine⟨_,_,h1,?_,h3,zdr (by rw[zbp];exact hr),fun W hW=>zeU (zeU hW),by rw[zbp,zbp],fun b o hb=>?_,fun b o hb=>?_⟩
 ·
  have e:((none:Option Value).orElse fun _=>zaC (i,t,n) [((i,t,n),.int .i64 0)]).getD (.int .i64 0)= .int .i64 0:=by simp[zaC]
  rw[e] at h2
  exact h2
 ·
  exact⟨(World.cell?_of_block (zaF hb)).trans (World.cell?_of_block (zaF hb)),(World.frozen?_of_block (zaF hb)).trans (World.frozen?_of_block (zaF hb))⟩
 ·
  exact World.cell?_of_block (zaF hb)
theorem zfW {w w':World}{r:Nat}{es:List (Met × Value)}(h:zax w r zeP es)(hb:Below w.heap.size w w'):zax w' r zeP es:=by
 unfold zax at *
 have hr:r<w.heap.size:=by
  rw[Array.getElem?_eq_some_iff] at h
  exact h.1
 rw[hb.block r hr];exact h
theorem zax.lt {K:Type}{w:World}{r:Nat}{kv:K→Value}{es:List (K × Value)}(h:zax w r kv es):r<w.heap.size:=by
 unfold zax at h
 rw[Array.getElem?_eq_some_iff] at h
 exact h.1
theorem zch {K:Type}{w:World}{r b o:Nat}{u:Value}{kv:K→Value}{es:List (K × Value)}(h:zax w r kv es)(hc:w.cell? ⟨b,o,none⟩=some u):b≠r:=by
 rintro rfl
 unfold zax at h
 simp[World.cell?,h] at hc
def zdt (i:Int)(f:Fld)(r:Nat)(es:List (Met × Value))(k:Nat)(w w':World):Prop:=
 zax w' r zeP (if k=0 then (es++[((i,f.name,0),one)])++[((i,⟨#[]⟩,f.number),one)] else es)∧w.grownBy w' (some r)
theorem zaW {i:Int}{f:Fld}{r:Nat}{es:List (Met × Value)}{k:Nat}{w w':World}(hk:k≠0)(hm:zax w' r zeP es)(hb:Below w.heap.size w w'):zdt i f r es k w w':=by
 unfold zdt
 rw[if_neg hk]
 exact⟨hm,hb.os,hb.tape,hb.output,hb.size,fun k hk _=>hb.block k hk⟩
theorem zeV (s:ByteArray)(h:zaY s=true):s≠⟨#[]⟩:=by
 rintro rfl
 simp[zaY] at h
 have:(⟨#[]⟩:ByteArray).size=0:=rfl
 omega
theorem zlU {a:Option Addr}{n cap:Nat}{i:Int}{f:Fld}{r:Nat}{w:World}{es:List (Met × Value)}(hok:f.Ok)(hm:zax w r zeP es)(nm nu:Bool)
  (hG:zaY f.name=true→zaC (i,f.name,0) es=seen nm) (hG2:zeN f.number=true→zaC (i,⟨#[]⟩,f.number) es=seen nu) :
  Calls Tryz.prog 92 #[.slice a n cap,.int .i64 i,f.val,.map (some r)] w fun e w'=>e= .returned (.int .i64 (zaN n nm nu f))∧zdt i f r es (zaN n nm nu f) w w':=by
 obtain⟨name,number,kind,rep,packed,of⟩:=f
 obtain⟨hk1,hk2,hk3,hk4⟩:=hok
 simp only at hk1 hk2 hk3 hk4 hG hG2
 obtain⟨K,HKF⟩:∃ K,Hid (K=zaN n nm nu ⟨name,number,kind,rep,packed,of⟩):=⟨_,rfl⟩
 rw[←HKF.out]
 unfold zaN at HKF
 simp only at HKF
 obtain⟨F,HF⟩:∃ F:Fld,Hid (F=⟨name,number,kind,rep,packed,of⟩):=⟨_,rfl⟩
 simp only[Fld.val]
 rw[←HF.out]
 have HM:=hid hm
 have HGG:=hid hG
 have HGG2:=hid hG2
 clear hm hG hG2
 go_enter Tryz.func92,Tryz.ntmps92
 go_wp2
 go_cut [9,10] (fun s9 s10 wx=>∃ p q:Nat,s9= .pointer (some ⟨p,0,none⟩)∧s10= .pointer (some ⟨q,0,none⟩)∧wx.cell? ⟨p,0,none⟩=some (.int .i64 i)∧wx.cell? ⟨p,1,none⟩=some (.string name)∧wx.cell? ⟨p,2,none⟩=some (.int .i64 0)∧wx.cell? ⟨q,0,none⟩=some (.int .i64 i)∧wx.cell? ⟨q,1,none⟩=some (.string ⟨#[]⟩)∧wx.cell? ⟨q,2,none⟩=some (.int .i64 number)∧wx.cell? ⟨w.heap.size,0,none⟩=some (.string name)∧wx.cell? ⟨w.heap.size,1,none⟩=some (.int .i64 number)∧wx.cell? ⟨w.heap.size,2,none⟩=some (.int .i64 kind)∧wx.cell? ⟨w.heap.size,3,none⟩=some (.bool rep)∧wx.cell? ⟨w.heap.size,4,none⟩=some (.bool packed)∧wx.cell? ⟨w.heap.size,5,none⟩=some (.int .i64 of)∧Below w.heap.size w wx)
 case first =>
  go_region
  all_goals
   go_wp2_with fail
   go_meet
   case rel =>
    refine⟨_,_,rfl,rfl,?_,?_,?_,?_,?_,?_,?_,?_,?_,?_,?_,?_,by (with_reducible repeat first|exact Below.refl _ _|refine pzA ?_ _|refine pzB ?_ _|refine zab ?_ _|refine Below.drew ?_)⟩
    all_goals simp[go_sem]
 case rest =>
  obtain⟨p,q,rfl,rfl,p0,p1,p2,q0,q1,q2,f0,f1,f2,f3,f4,f5,hbel⟩:=hcut
  have hmc:=zfW HM.out hbel
  have HMC:=hid hmc
  have hrr:=hmc.lt
  clear hmc
  by_cases hN:zaY name=true
  ·
   have HG0:=HGG.out hN
   have HN:=hid hN
   clear hN
   cases nm with
   | true =>
    have HG:=hid HG0
    clear HG0
    go_wp2_with fail
    refine (zbN _ (by omega) _).mono ?_
    rintro e w' ⟨rfl,rfl⟩
    rw[HN.out]
    have hl1:=za3 HMC.out i name 0 _ HG.out
    simp only[if_true] at hl1
    go_wp2
    go_ret
    obtain rfl:K=6:=by rw[HKF.out,if_neg (by rw[HN.out];decide)];rfl
    exact⟨rfl,zaW (by omega) HMC.out hbel⟩
   | false =>
    have HG:=hid HG0
    clear HG0
    by_cases hU:zeN number=true
    ·
     have HG20:=HGG2.out hU
     have HU:=hid hU
     clear hU
     cases nu with
     | true =>
      have HG2:=hid HG20
      clear HG20
      go_wp2_with fail
      refine (zbN _ (by omega) _).mono ?_
      rintro e w' ⟨rfl,rfl⟩
      rw[HN.out]
      have hl1:=za3 HMC.out i name 0 _ HG.out
      simp only[if_false,Bool.false_eq_true] at hl1
      go_wp2_with fail
      refine (zdg _ _).mono ?_
      rintro e w' ⟨rfl,rfl⟩
      rw[HU.out]
      have hl2:=za3 HMC.out i ⟨#[]⟩ number _ HG2.out
      simp only[if_true] at hl2
      go_wp2
      go_ret
      obtain rfl:K=8:=by rw[HKF.out,if_neg (by rw[HN.out];decide),if_neg (by decide),if_neg (by rw[HU.out];decide)];rfl
      exact⟨rfl,zaW (by omega) HMC.out hbel⟩
     | false =>
      have HG2:=hid HG20
      clear HG20
      by_cases hK:zaM kind=true
      ·
       have HK:=hid hK
       clear hK
       have HKF2:Hid (K=if packed=true∧(rep=false∨zac kind=false) then 10 else if kind=17∧(of<0∨(n:Int)≤of)∨kind≠17∧of≠0 then 11 else 0):=by rw[HKF.out,if_neg (by rw[HN.out];decide),if_neg (by decide),if_neg (by rw[HU.out];decide),if_neg (by decide),if_neg (by rw[HK.out];decide)];exact hid rfl
       go_wp2_with fail
       refine (zbN _ (by omega) _).mono ?_
       rintro e w' ⟨rfl,rfl⟩
       rw[HN.out]
       have hl1:=za3 HMC.out i name 0 _ HG.out
       simp only[if_false,Bool.false_eq_true] at hl1
       go_wp2_with fail
       refine (zdg _ _).mono ?_
       rintro e w' ⟨rfl,rfl⟩
       rw[HU.out]
       have hl2:=za3 HMC.out i ⟨#[]⟩ number _ HG2.out
       simp only[if_false,Bool.false_eq_true] at hl2
       go_wp2_with fail
       refine (zjO _ _).mono ?_
       rintro e w' ⟨rfl,rfl⟩
       rw[HK.out]
       cases packed with
       | false =>
        have HP:Hid (¬ (false=true∧(rep=false∨zac kind=false))):=by simp[Hid]
        by_cases h17:kind=17
        ·
         by_cases ho:of<0∨(n:Int)≤of
         ·
          have HO:Hid (K=11):=by rw[HKF2.out,if_neg HP.out];exact if_pos (.inl ⟨h17,ho⟩)
          subst h17
          rcases ho with ho|ho
          ·
           go_wp2
           go_ret
           obtain rfl:K=11:=HO.out
           exact⟨rfl,zaW (by omega) HMC.out hbel⟩
          ·
           have ho2:0≤of:=by omega
           go_wp2
           go_ret
           obtain rfl:K=11:=HO.out
           exact⟨rfl,zaW (by omega) HMC.out hbel⟩
         ·
          have HO:Hid (K=0):=by rw[HKF2.out,if_neg HP.out];exact if_neg (by omega)
          have ho1:0≤of:=by omega
          have ho2:of<(n:Int):=by omega
          clear ho
          subst h17
          have HPQ:Hid ((∀ o u,wc.cell? ⟨p,o,none⟩=some u→p≠r)∧(∀ o u,wc.cell? ⟨q,o,none⟩=some u→q≠r)):=⟨fun o u hu=>zch HMC.out hu,fun o u hu=>zch HMC.out hu⟩
          have hpr:=HPQ.out.1 _ _ p0
          have hqr:=HPQ.out.2 _ _ q0
          have HPR:=hid hpr
          have HQR:=hid hqr
          clear hpr hqr
          go_wp2
          go_cut [] (fun wx=>zax wx r zeP (es++[((i,name,0),one)])∧w.grownBy wx (some r)∧wx.cell? ⟨p,0,none⟩=some (.int .i64 i)∧wx.cell? ⟨p,1,none⟩=some (.string name)∧wx.cell? ⟨p,2,none⟩=some (.int .i64 0)∧wx.cell? ⟨q,0,none⟩=some (.int .i64 i)∧wx.cell? ⟨q,1,none⟩=some (.string ⟨#[]⟩)∧wx.cell? ⟨q,2,none⟩=some (.int .i64 number))
          case first =>
           have hmd:zax wc.drew r zeP es:=HMC.out
           have HMD:=hid hmd
           have hrd:r<wc.drew.heap.size:=hmd.lt
           clear hmd
           have hl1:=za3 HMD.out i name 0 _ HG.out
           simp only[Bool.false_eq_true,if_false] at hl1
           obtain⟨w3,w4,hme,hl3,hes,hm3,hgr,hsz,hcells,hc2⟩:=zd7 HMD.out hrd i name 0 HG.out
           have HM3:=hid hm3
           have HGR:=hid hgr
           have HCL:=hid hcells
           clear hm3 hgr hcells hc2
           go_region
           all_goals
            go_wp2_with fail
            go_meet
            case rel =>
             refine⟨HM3.out,HGR.out w ⟨hbel.os,hbel.tape,hbel.output,hbel.size,fun k hk _=>hbel.block k hk⟩,?_⟩
             have hcl:=HCL.out
             exact⟨(hcl p 0 HPR.out).1.trans p0,(hcl p 1 HPR.out).1.trans p1,(hcl p 2 HPR.out).1.trans p2,(hcl q 0 HQR.out).1.trans q0,(hcl q 1 HQR.out).1.trans q1,(hcl q 2 HQR.out).1.trans q2⟩
          case rest =>
           obtain⟨hm5,hg5,rp0,rp1,rp2,rq0,rq1,rq2⟩:=hcut
           have HM5:=hid hm5
           have HG5:=hid hg5
           clear hm5 hg5
           go_wp2
           go_cut [] (fun wx=>zax wx r zeP ((es++[((i,name,0),one)])++[((i,⟨#[]⟩,number),one)])∧w.grownBy wx (some r))
           case first =>
            have hmd:zax wc.drew r zeP (es++[((i,name,0),one)]):=HM5.out
            have HMD:=hid hmd
            have hrd:r<wc.drew.heap.size:=hmd.lt
            clear hmd
            have HGN:Hid (zaC (i,(⟨#[]⟩:ByteArray),number) (es++[((i,name,0),one)])=none):=by
             rw[Hid,zaR,HG2.out]
             have hne:=zeV _ HN.out
             have:¬ ((i,(⟨#[]⟩:ByteArray),number)=((i,name,0):Met)):=fun e=>hne (congrArg (fun x:Met=>x.2.1) e).symm
             simp[seen,zaC,this]
            have hl1:=za3 HMD.out i ⟨#[]⟩ number false HGN.out
            simp only[Bool.false_eq_true,if_false] at hl1
            obtain⟨w5,w6,hme,hl3,hes,hm3,hgr,hsz,hcells,hc2⟩:=zd7 HMD.out hrd i ⟨#[]⟩ number HGN.out
            have hlen:(((es++[(((i,name,0):Met),one)]).length:Nat):Int)=(es.length:Int)+1:=by simp
            rw[hlen] at hme hes
            clear hlen
            have HM3:=hid hm3
            have HGR:=hid hgr
            clear hm3 hgr hcells hc2
            go_region
            all_goals
             go_wp2_with fail
             go_meet
             case rel =>
              have hg5:=HG5.out
              exact⟨HM3.out,HGR.out w ⟨hg5.os,hg5.tape,hg5.output,hg5.size,hg5.block⟩⟩
           case rest =>
            obtain⟨hm6,hg6⟩:=hcut
            have HM6:=hid hm6
            have HG6:=hid hg6
            clear hm6 hg6
            go_wp2
            go_ret
            obtain rfl:K=0:=HO.out
            refine⟨rfl,?_⟩
            unfold zdt
            rw[if_pos rfl,HF.out]
            exact⟨HM6.out,HG6.out⟩
        ·
         have h17':(kind == 17)=false:=by simpa using h17
         have h17b:(kind != 17)=true:=by simpa using h17
         by_cases ho:of=0
         ·
          have HO:Hid (K=0):=by rw[HKF2.out,if_neg HP.out];exact if_neg (by omega)
          have H17:=hid h17
          clear h17
          subst ho
          have HPQ:Hid ((∀ o u,wc.cell? ⟨p,o,none⟩=some u→p≠r)∧(∀ o u,wc.cell? ⟨q,o,none⟩=some u→q≠r)):=⟨fun o u hu=>zch HMC.out hu,fun o u hu=>zch HMC.out hu⟩
          have hpr:=HPQ.out.1 _ _ p0
          have hqr:=HPQ.out.2 _ _ q0
          have HPR:=hid hpr
          have HQR:=hid hqr
          clear hpr hqr
          go_wp2
          go_cut [] (fun wx=>zax wx r zeP (es++[((i,name,0),one)])∧w.grownBy wx (some r)∧wx.cell? ⟨p,0,none⟩=some (.int .i64 i)∧wx.cell? ⟨p,1,none⟩=some (.string name)∧wx.cell? ⟨p,2,none⟩=some (.int .i64 0)∧wx.cell? ⟨q,0,none⟩=some (.int .i64 i)∧wx.cell? ⟨q,1,none⟩=some (.string ⟨#[]⟩)∧wx.cell? ⟨q,2,none⟩=some (.int .i64 number))
          case first =>
           have hmd:zax wc.drew r zeP es:=HMC.out
           have HMD:=hid hmd
           have hrd:r<wc.drew.heap.size:=hmd.lt
           clear hmd
           have hl1:=za3 HMD.out i name 0 _ HG.out
           simp only[Bool.false_eq_true,if_false] at hl1
           obtain⟨w3,w4,hme,hl3,hes,hm3,hgr,hsz,hcells,hc2⟩:=zd7 HMD.out hrd i name 0 HG.out
           have HM3:=hid hm3
           have HGR:=hid hgr
           have HCL:=hid hcells
           clear hm3 hgr hcells hc2
           go_region
           all_goals
            go_wp2_with fail
            go_meet
            case rel =>
             refine⟨HM3.out,HGR.out w ⟨hbel.os,hbel.tape,hbel.output,hbel.size,fun k hk _=>hbel.block k hk⟩,?_⟩
             have hcl:=HCL.out
             exact⟨(hcl p 0 HPR.out).1.trans p0,(hcl p 1 HPR.out).1.trans p1,(hcl p 2 HPR.out).1.trans p2,(hcl q 0 HQR.out).1.trans q0,(hcl q 1 HQR.out).1.trans q1,(hcl q 2 HQR.out).1.trans q2⟩
          case rest =>
           obtain⟨hm5,hg5,rp0,rp1,rp2,rq0,rq1,rq2⟩:=hcut
           have HM5:=hid hm5
           have HG5:=hid hg5
           clear hm5 hg5
           go_wp2
           go_cut [] (fun wx=>zax wx r zeP ((es++[((i,name,0),one)])++[((i,⟨#[]⟩,number),one)])∧w.grownBy wx (some r))
           case first =>
            have hmd:zax wc.drew r zeP (es++[((i,name,0),one)]):=HM5.out
            have HMD:=hid hmd
            have hrd:r<wc.drew.heap.size:=hmd.lt
            clear hmd
            have HGN:Hid (zaC (i,(⟨#[]⟩:ByteArray),number) (es++[((i,name,0),one)])=none):=by
             rw[Hid,zaR,HG2.out]
             have hne:=zeV _ HN.out
             have:¬ ((i,(⟨#[]⟩:ByteArray),number)=((i,name,0):Met)):=fun e=>hne (congrArg (fun x:Met=>x.2.1) e).symm
             simp[seen,zaC,this]
            have hl1:=za3 HMD.out i ⟨#[]⟩ number false HGN.out
            simp only[Bool.false_eq_true,if_false] at hl1
            obtain⟨w5,w6,hme,hl3,hes,hm3,hgr,hsz,hcells,hc2⟩:=zd7 HMD.out hrd i ⟨#[]⟩ number HGN.out
            have hlen:(((es++[(((i,name,0):Met),one)]).length:Nat):Int)=(es.length:Int)+1:=by simp
            rw[hlen] at hme hes
            clear hlen
            have HM3:=hid hm3
            have HGR:=hid hgr
            clear hm3 hgr hcells hc2
            go_region
            all_goals
             go_wp2_with fail
             go_meet
             case rel =>
              have hg5:=HG5.out
              exact⟨HM3.out,HGR.out w ⟨hg5.os,hg5.tape,hg5.output,hg5.size,hg5.block⟩⟩
           case rest =>
            obtain⟨hm6,hg6⟩:=hcut
            have HM6:=hid hm6
            have HG6:=hid hg6
            clear hm6 hg6
            go_wp2
            go_ret
            obtain rfl:K=0:=HO.out
            refine⟨rfl,?_⟩
            unfold zdt
            rw[if_pos rfl,HF.out]
            exact⟨HM6.out,HG6.out⟩
         ·
          have HO:Hid (K=11):=by rw[HKF2.out,if_neg HP.out];exact if_pos (.inr ⟨h17,ho⟩)
          have ho':(of == 0)=false:=by simpa using ho
          have hob:(of != 0)=true:=by simpa using ho
          have H17:=hid h17
          have HO2:=hid ho
          clear h17 ho
          go_wp2
          go_ret
          obtain rfl:K=11:=HO.out
          exact⟨rfl,zaW (by omega) HMC.out hbel⟩
       | true =>
        cases rep with
        | false =>
         have HO:Hid (K=10):=by rw[HKF2.out];exact if_pos ⟨rfl,.inl rfl⟩
         go_wp2
         go_ret
         obtain rfl:K=10:=HO.out
         exact⟨rfl,zaW (by omega) HMC.out hbel⟩
        | true =>
         by_cases hKN:zac kind=true
         ·
          have HP:Hid (¬ (true=true∧(true=false∨zac kind=false))):=by simp[Hid,hKN]
          have HKN:=hid hKN
          clear hKN
          go_wp2_with fail
          refine (zaQ _ _).mono ?_
          rintro e w2 ⟨rfl,hb2⟩
          rw[HKN.out]
          have p0':=zaa hb2 _ _ p0
          have p1':=zaa hb2 _ _ p1
          have p2':=zaa hb2 _ _ p2
          have q0':=zaa hb2 _ _ q0
          have q1':=zaa hb2 _ _ q1
          have q2':=zaa hb2 _ _ q2
          have f0':=zaa hb2 _ _ f0
          have f1':=zaa hb2 _ _ f1
          have f2':=zaa hb2 _ _ f2
          have f3':=zaa hb2 _ _ f3
          have f4':=zaa hb2 _ _ f4
          have f5':=zaa hb2 _ _ f5
          have hrr2:r<w2.heap.size:=by have:=hb2.size;omega
          have hbel2:Below w.heap.size w w2:=zag hbel hb2 hbel.size
          have HMC2:=hid (zfW HMC.out hb2)
          by_cases h17:kind=17
          ·
           exfalso
           have:=HKN.out
           subst h17
           revert this
           decide
          ·
           have h17':(kind == 17)=false:=by simpa using h17
           have h17b:(kind != 17)=true:=by simpa using h17
           by_cases ho:of=0
           ·
            have HO:Hid (K=0):=by rw[HKF2.out,if_neg HP.out];exact if_neg (by omega)
            have H17:=hid h17
            clear h17
            subst ho
            have HPQ:Hid ((∀ o u,w2.cell? ⟨p,o,none⟩=some u→p≠r)∧(∀ o u,w2.cell? ⟨q,o,none⟩=some u→q≠r)):=⟨fun o u hu=>zch HMC2.out hu,fun o u hu=>zch HMC2.out hu⟩
            have hpr:=HPQ.out.1 _ _ p0'
            have hqr:=HPQ.out.2 _ _ q0'
            have HPR:=hid hpr
            have HQR:=hid hqr
            clear hpr hqr
            go_wp2
            go_cut [] (fun wx=>zax wx r zeP (es++[((i,name,0),one)])∧w.grownBy wx (some r)∧wx.cell? ⟨p,0,none⟩=some (.int .i64 i)∧wx.cell? ⟨p,1,none⟩=some (.string name)∧wx.cell? ⟨p,2,none⟩=some (.int .i64 0)∧wx.cell? ⟨q,0,none⟩=some (.int .i64 i)∧wx.cell? ⟨q,1,none⟩=some (.string ⟨#[]⟩)∧wx.cell? ⟨q,2,none⟩=some (.int .i64 number))
            case first =>
             have hmd:zax w2.drew r zeP es:=HMC2.out
             have HMD:=hid hmd
             have hrd:r<w2.drew.heap.size:=hmd.lt
             clear hmd
             have hl1:=za3 HMD.out i name 0 _ HG.out
             simp only[Bool.false_eq_true,if_false] at hl1
             obtain⟨w3,w4,hme,hl3,hes,hm3,hgr,hsz,hcells,hc2⟩:=zd7 HMD.out hrd i name 0 HG.out
             have HM3:=hid hm3
             have HGR:=hid hgr
             have HCL:=hid hcells
             clear hm3 hgr hcells hc2
             go_region
             all_goals
              go_wp2_with fail
              go_meet
              case rel =>
               refine⟨HM3.out,HGR.out w ⟨hbel2.os,hbel2.tape,hbel2.output,hbel2.size,fun k hk _=>hbel2.block k hk⟩,?_⟩
               have hcl:=HCL.out
               exact⟨(hcl p 0 HPR.out).1.trans p0',(hcl p 1 HPR.out).1.trans p1',(hcl p 2 HPR.out).1.trans p2',(hcl q 0 HQR.out).1.trans q0',(hcl q 1 HQR.out).1.trans q1',(hcl q 2 HQR.out).1.trans q2'⟩
            case rest =>
             obtain⟨hm5,hg5,rp0,rp1,rp2,rq0,rq1,rq2⟩:=hcut
             have HM5:=hid hm5
             have HG5:=hid hg5
             clear hm5 hg5
             go_wp2
             go_cut [] (fun wx=>zax wx r zeP ((es++[((i,name,0),one)])++[((i,⟨#[]⟩,number),one)])∧w.grownBy wx (some r))
             case first =>
              have hmd:zax wc.drew r zeP (es++[((i,name,0),one)]):=HM5.out
              have HMD:=hid hmd
              have hrd:r<wc.drew.heap.size:=hmd.lt
              clear hmd
              have HGN:Hid (zaC (i,(⟨#[]⟩:ByteArray),number) (es++[((i,name,0),one)])=none):=by
               rw[Hid,zaR,HG2.out]
               have hne:=zeV _ HN.out
               have:¬ ((i,(⟨#[]⟩:ByteArray),number)=((i,name,0):Met)):=fun e=>hne (congrArg (fun x:Met=>x.2.1) e).symm
               simp[seen,zaC,this]
              have hl1:=za3 HMD.out i ⟨#[]⟩ number false HGN.out
              simp only[Bool.false_eq_true,if_false] at hl1
              obtain⟨w5,w6,hme,hl3,hes,hm3,hgr,hsz,hcells,hc2⟩:=zd7 HMD.out hrd i ⟨#[]⟩ number HGN.out
              have hlen:(((es++[(((i,name,0):Met),one)]).length:Nat):Int)=(es.length:Int)+1:=by simp
              rw[hlen] at hme hes
              clear hlen
              have HM3:=hid hm3
              have HGR:=hid hgr
              clear hm3 hgr hcells hc2
              go_region
              all_goals
               go_wp2_with fail
               go_meet
               case rel =>
                have hg5:=HG5.out
                exact⟨HM3.out,HGR.out w ⟨hg5.os,hg5.tape,hg5.output,hg5.size,hg5.block⟩⟩
             case rest =>
              obtain⟨hm6,hg6⟩:=hcut
              have HM6:=hid hm6
              have HG6:=hid hg6
              clear hm6 hg6
              go_wp2
              go_ret
              obtain rfl:K=0:=HO.out
              refine⟨rfl,?_⟩
              unfold zdt
              rw[if_pos rfl,HF.out]
              exact⟨HM6.out,HG6.out⟩
           ·
            have HO:Hid (K=11):=by rw[HKF2.out,if_neg HP.out];exact if_pos (.inr ⟨h17,ho⟩)
            have ho':(of == 0)=false:=by simpa using ho
            have hob:(of != 0)=true:=by simpa using ho
            have H17:=hid h17
            have HO2:=hid ho
            clear h17 ho
            go_wp2
            go_ret
            obtain rfl:K=11:=HO.out
            exact⟨rfl,zaW (by omega) HMC2.out hbel2⟩
         ·
          have hKN2:zac kind=false:=by simpa using hKN
          have HO:Hid (K=10):=by rw[HKF2.out];exact if_pos ⟨rfl,.inr hKN2⟩
          have HKN:=hid hKN2
          clear hKN hKN2
          go_wp2_with fail
          refine (zaQ _ _).mono ?_
          rintro e w2 ⟨rfl,hb2⟩
          rw[HKN.out]
          have p0':=zaa hb2 _ _ p0
          have p1':=zaa hb2 _ _ p1
          have p2':=zaa hb2 _ _ p2
          have q0':=zaa hb2 _ _ q0
          have q1':=zaa hb2 _ _ q1
          have q2':=zaa hb2 _ _ q2
          have f0':=zaa hb2 _ _ f0
          have f1':=zaa hb2 _ _ f1
          have f2':=zaa hb2 _ _ f2
          have f3':=zaa hb2 _ _ f3
          have f4':=zaa hb2 _ _ f4
          have f5':=zaa hb2 _ _ f5
          have hrr2:r<w2.heap.size:=by have:=hb2.size;omega
          have hbel2:Below w.heap.size w w2:=zag hbel hb2 hbel.size
          have HMC2:=hid (zfW HMC.out hb2)
          go_wp2
          go_ret
          obtain rfl:K=10:=HO.out
          exact⟨rfl,zaW (by omega) HMC2.out hbel2⟩
      ·
       have hK2:zaM kind=false:=by simpa using hK
       have HK:=hid hK2
       clear hK hK2
       go_wp2_with fail
       refine (zbN _ (by omega) _).mono ?_
       rintro e w' ⟨rfl,rfl⟩
       rw[HN.out]
       have hl1:=za3 HMC.out i name 0 _ HG.out
       simp only[if_false,Bool.false_eq_true] at hl1
       go_wp2_with fail
       refine (zdg _ _).mono ?_
       rintro e w' ⟨rfl,rfl⟩
       rw[HU.out]
       have hl2:=za3 HMC.out i ⟨#[]⟩ number _ HG2.out
       simp only[if_false,Bool.false_eq_true] at hl2
       go_wp2_with fail
       refine (zjO _ _).mono ?_
       rintro e w' ⟨rfl,rfl⟩
       rw[HK.out]
       go_wp2
       go_ret
       obtain rfl:K=9:=by rw[HKF.out,if_neg (by rw[HN.out];decide),if_neg (by decide),if_neg (by rw[HU.out];decide),if_neg (by decide),if_pos HK.out]
       exact⟨rfl,zaW (by omega) HMC.out hbel⟩
    ·
     have hU2:zeN number=false:=by simpa using hU
     have HU:=hid hU2
     clear hU hU2
     go_wp2_with fail
     refine (zbN _ (by omega) _).mono ?_
     rintro e w' ⟨rfl,rfl⟩
     rw[HN.out]
     have hl1:=za3 HMC.out i name 0 _ HG.out
     simp only[if_false,Bool.false_eq_true] at hl1
     go_wp2_with fail
     refine (zdg _ _).mono ?_
     rintro e w' ⟨rfl,rfl⟩
     rw[HU.out]
     go_wp2
     go_ret
     obtain rfl:K=7:=by rw[HKF.out,if_neg (by rw[HN.out];decide),if_neg (by decide),if_pos HU.out]
     exact⟨rfl,zaW (by omega) HMC.out hbel⟩
  ·
   have hN2:zaY name=false:=by simpa using hN
   have HN:=hid hN2
   clear hN hN2
   go_wp2_with fail
   refine (zbN _ (by omega) _).mono ?_
   rintro e w' ⟨rfl,rfl⟩
   rw[HN.out]
   go_wp2
   go_ret
   obtain rfl:K=5:=by rw[HKF.out,if_pos HN.out]
   exact⟨rfl,zaW (by omega) HMC.out hbel⟩
end
section
open Go.RowKit
def zbI (bf:List Fld)(t:ByteArray):Bool:=bf.any fun g=>decide (g.name=t)
def zb2 (bf:List Fld)(x:Int):Bool:=bf.any fun g=>decide (g.number=x)
def zfG (bm:List Mes)(t:ByteArray):Bool:=bm.any fun g=>decide (g.name=t)
def zaD (n:Nat)(bf:List Fld):List Fld→Nat→Option (Nat × Nat)
 | [],_=>none
 | f::r,k=>if zaN n (zbI bf f.name) (zb2 bf f.number) f=0 then zaD n (bf++[f]) r (k+1) else some (k,zaN n (zbI bf f.name) (zb2 bf f.number) f)
def zcc (n:Nat)(bm:List Mes):List Mes→Nat→Int × Int × Nat
 | [],_=>(0,0,0)
 | m::r,i =>
  if zaY m.name=false then (i,-1,2) else if zfG bm m.name=true then (i,-1,3) else if 200<m.fields.length then (i,-1,4) else
  match zaD n [] m.fields 0 with
  | some (k,w)=>(i,k,w)
  | none=>zcc n (bm++[m]) r (i+1)
def zbJ (s:List Mes):Int × Int × Nat:=if s.length=0∨100<s.length then (-1,-1,1) else zcc s.length [] s 0
def zaw (s:List Mes):Bool:=decide ((zbJ s).2.2=0)
theorem zfH (n:Nat)(fs:List Fld)(k:Nat)(hk:k<fs.length):zaD n (fs.take k) (fs.drop k) k =
  if zaN n (zbI (fs.take k) (fs.getD k .zero).name) (zb2 (fs.take k) (fs.getD k .zero).number) (fs.getD k .zero)=0 then zaD n (fs.take (k+1)) (fs.drop (k+1)) (k+1)
  else some (k,zaN n (zbI (fs.take k) (fs.getD k .zero).name) (zb2 (fs.take k) (fs.getD k .zero).number) (fs.getD k .zero)):=by
 have e:fs.getD k .zero=fs[k]:=by simp[List.getD,hk]
 rw[e]
 conv=>lhs;rw[List.drop_eq_getElem_cons hk]
 rw[zaD,List.take_succ_eq_append_getElem hk]
theorem zne (n:Nat)(s:List Mes)(k:Nat)(hk:k<s.length):zcc n (s.take k) (s.drop k) k =
  if zaY (s.getD k .zero).name=false then ((k:Int),-1,2) else if zfG (s.take k) (s.getD k .zero).name=true then ((k:Int),-1,3) else if 200<(s.getD k .zero).fields.length then ((k:Int),-1,4) else
  match zaD n [] (s.getD k .zero).fields 0 with
  | some (j,w)=>((k:Int),(j:Int),w)
  | none=>zcc n (s.take (k+1)) (s.drop (k+1)) (k+1):=by
 have e:s.getD k .zero=s[k]:=by simp[List.getD,hk]
 rw[e]
 conv=>lhs;rw[List.drop_eq_getElem_cons hk]
 rw[zcc,List.take_succ_eq_append_getElem hk]
theorem zcz {n:Nat}{nm nu:Bool}{f:Fld}(h:zaN n nm nu f=0):zaY f.name=true∧nm=false∧zeN f.number=true∧nu=false:=by
 unfold zaN at h
 by_cases h1:zaY f.name=false
 ·
  rw[if_pos h1] at h;omega
 ·
  rw[if_neg h1] at h
  cases nm with
  | true=>rw[if_pos rfl] at h;omega
  | false =>
   rw[if_neg (by decide)] at h
   by_cases h2:zeN f.number=false
   ·
    rw[if_pos h2] at h;omega
   ·
    rw[if_neg h2] at h
    cases nu with
    | true=>rw[if_pos rfl] at h;omega
    | false=>exact⟨by simpa using h1,rfl,by simpa using h2,rfl⟩
structure zb4 (i:Int)(bf:List Fld)(es:List (Met × Value)):Prop where
 name:∀ t,zaY t=true→zaC (i,t,0) es=seen (zbI bf t)
 num:∀ x,zeN x=true→zaC (i,⟨#[]⟩,x) es=seen (zb2 bf x)
 later:∀ j t x,i<j→zaC (j,t,x) es=none
theorem zb4.start (i:Int):zb4 i [] []:=⟨fun _ _=>rfl,fun _ _=>rfl,fun _ _ _ _=>rfl⟩
theorem zb4.next {i:Int}{bf:List Fld}{es:List (Met × Value)}(h:zb4 i bf es):zb4 (i+1) [] es:=
 ⟨fun t _=>h.later _ _ _ (by omega),fun x _=>h.later _ _ _ (by omega),fun j t x hj=>h.later _ _ _ (by omega)⟩
theorem zb4.step {i:Int}{bf:List Fld}{es:List (Met × Value)}(h:zb4 i bf es){f:Fld}(hn:zaY f.name=true)(_hx:zeN f.number=true) :
  zb4 i (bf++[f]) ((es++[((i,f.name,0),one)])++[((i,⟨#[]⟩,f.number),one)]) where
 name t ht:=by
  rw[zaR,zaR,h.name t ht]
  have e1:¬ ((i,t,(0:Int))=((i,(⟨#[]⟩:ByteArray),f.number):Met)):=fun e=>zeV t ht (congrArg (fun x:Met=>x.2.1) e)
  have e2:((i,t,(0:Int))=((i,f.name,0):Met))↔f.name=t:=⟨fun e=>(congrArg (fun x:Met=>x.2.1) e).symm,fun e=>by rw[e]⟩
  have e3:zbI (bf++[f]) t=(zbI bf t||decide (f.name=t)):=by simp[zbI]
  rw[e3]
  simp only[zaC,e1,e2,if_false]
  cases zbI bf t
  ·
   by_cases e:f.name=t <;> simp[seen,e]
  ·
   simp[seen]
 num x hx':=by
  rw[zaR,zaR,h.num x hx']
  have e1:¬ ((i,(⟨#[]⟩:ByteArray),x)=((i,f.name,0):Met)):=fun e=>zeV f.name hn (congrArg (fun x:Met=>x.2.1) e).symm
  have e2:((i,(⟨#[]⟩:ByteArray),x)=((i,⟨#[]⟩,f.number):Met))↔f.number=x:=⟨fun e=>(congrArg (fun x:Met=>x.2.2) e).symm,fun e=>by rw[e]⟩
  have e3:zb2 (bf++[f]) x=(zb2 bf x||decide (f.number=x)):=by simp[zb2]
  rw[e3]
  simp only[zaC,e1,e2,if_false]
  cases zb2 bf x
  ·
   by_cases e:f.number=x <;> simp[seen,e]
  ·
   simp[seen]
 later j t x hj:=by
  rw[zaR,zaR,h.later j t x hj]
  have e1:¬ ((j,t,x)=((i,f.name,0):Met)):=fun e=>by have:=congrArg (fun x:Met=>x.1) e;simp at this;omega
  have e2:¬ ((j,t,x)=((i,⟨#[]⟩,f.number):Met)):=fun e=>by have:=congrArg (fun x:Met=>x.1) e;simp at this;omega
  simp[zaC,e1,e2]
def zel (bm:List Mes)(en:List (ByteArray × Value)):Prop:=∀ t,zaC t en=seen (zfG bm t)
theorem zel.step {bm:List Mes}{en:List (ByteArray × Value)}(h:zel bm en)(m:Mes):zel (bm++[m]) (en++[(m.name,one)]):=by
 intro t
 rw[zaR,h t]
 have e3:zfG (bm++[m]) t=(zfG bm t||decide (m.name=t)):=by simp[zfG]
 rw[e3]
 have e2:t=m.name↔m.name=t:=⟨fun e=>e.symm,fun e=>e.symm⟩
 simp only[zaC,e2]
 cases zfG bm t
 ·
  by_cases e:m.name=t <;> simp[seen,e]
 ·
  simp[seen]
theorem zig {w:World}{r:Nat}{en:List (ByteArray × Value)}(h:zax w r zqx en)(t:ByteArray)(b:Bool)(hg:zaC t en=seen b) :
  (Instr.lookup 172 (.map (some r)) (.string t) false).run Tryz.prog w= .ok (.int .i64 (if b then 1 else 0)) w:=by
 have:=zbG (P:=Tryz.prog) zs3 Tryz.underlying172 zhX h t false
 rw[hg] at this
 cases b <;> exact this
theorem znf {w:World}{r:Nat}{en:List (ByteArray × Value)}(h:zax w r zqx en)(t:ByteArray)(hg:zaC t en=none) :
  ∃ w2,(Instr.mapUpdate 172 (.map (some r)) (.string t) (.int .i64 1)).run Tryz.prog w= .ok () w2∧zax w2 r zqx (en++[(t,one)])∧(∀ W:World,W.grownBy w (some r)→W.grownBy w2 (some r)) ∧
   w2.heap.size=w.heap.size∧(∀ b,b≠r→w2.heap[b]?=w.heap[b]?):=
 ⟨_,zd6 (P:=Tryz.prog) zs3 Tryz.underlying172 h t one hg,zdr h.lt,fun _ hW=>zeU hW,zbp,fun _ hb=>zaF hb⟩
end
end Go.Proofs.YtpckoeicbjfnhaaGreatDoor
