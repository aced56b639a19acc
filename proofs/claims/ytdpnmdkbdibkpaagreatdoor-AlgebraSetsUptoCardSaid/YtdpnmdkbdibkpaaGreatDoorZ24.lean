/- Parts of a proof: texts of the author, merged. No condition of their own. -/
import Derived.Test.YtdpnmdkbdibkpaaGreatDoorZ22
import Derived.Test.YtdpnmdkbdibkpaaGreatDoorZ23
import Derived.BigQuiet
import Derived.Deep.CutBlock
namespace Go.Proofs.YtdpnmdkbdibkpaaGreatDoor
set_option maxRecDepth 100000
set_option maxHeartbeats 16000000
section
open Go.RowKit
theorem zmv {s:List Mes}(h:zaC s=true)(m:Nat)(hm:m<s.length)(f:Fld)(hf:f∈(s.getD m .zero).fields):1≤f.number∧f.number≤536870911:=by
 have h0:(zbj s).2.2=0:=of_decide_eq_true h
 unfold zbj at h0
 by_cases h1:s.length=0∨100<s.length
 ·
  rw[if_pos h1] at h0;simp at h0
 rw[if_neg h1] at h0
 have hmem:s.getD m .zero∈s:=by
  have:s.getD m .zero=s[m]:=by simp[List.getD,hm]
  rw[this];exact List.getElem_mem hm
 obtain⟨h2,-,-⟩:=zck s [] 0 h0 _ hmem
 obtain⟨nm,nu,h3⟩:=zby _ _ _ h2 f hf
 obtain⟨-,-,h4,-⟩:=zbL h3
 have h5:=of_decide_eq_true h4
 omega
theorem zbg {P:Program}{ops:Array Oper}{w:World}{Q:Act→Prop}:∀ (l:List Oper) (a:Act),wpQuiet P ops (fun w'=>w'=w) Q l a→wpStill P ops w Q l a
 | [],a,h=>h
 | o::rest,a,h=>by
  unfold wpQuiet at h
  unfold wpStill
  by_cases hw:Region.wanted o (yielded ops a.tmps)=true
  ·
   rw[if_pos hw] at h ⊢
   obtain⟨v,h1,h2⟩:=h
   have h3:=h1 w rfl
   unfold Oper.quietAt at h3
   unfold Oper.still
   generalize (execOp a.eval o).run P w=r at *
   cases r with
   | halt x w'=>simp only[Oper.quietUpon] at h3
   | ok n w' =>
    cases n <;> simp only[Oper.quietUpon] at h3 <;> simp only[Oper.stillUpon]
    case value u=>exact⟨h3.1,by rw[h3.2];exact zbg rest _ h2⟩
    case skip=>exact⟨h3.1,by rw[←h3.2];exact zbg rest _ h2⟩
    case enter f args=>exact⟨h3.1,v,h3.2,zbg rest _ h2⟩
  ·
   rw[if_neg hw] at h ⊢
   exact zbg rest _ h
theorem zpg {α:Type}(p:α→Bool)(l:List α)(k:Nat)(x:α)(h:l[k]?=some x):(l.drop k).all p=(p x&&(l.drop (k+1)).all p):=by
 obtain⟨hk,rfl⟩:=List.getElem?_eq_some_iff.1 h
 rw[List.drop_eq_getElem_cons hk,List.all_cons]
theorem zgb {s:List Mes}(hs:zaC s=true){d:Nat}(ih:zn6 s d):zgv s (d+1):=by
 intro w root v sv x hS h hw
 obtain⟨vv,uv,rfl,hV,hU⟩:=h
 have hK0:=Blk.new w [vv,uv] 38
 have hB0:=(Below.refl w.heap.size w).alloc (Nat.le_refl _) (.cells #[vv,uv] 38)
 have HS:=hid hS
 obtain⟨hsl,sa,sc,rfl,hsat⟩:=hS.open
 obtain⟨sn,HSN⟩:∃ n,Hid (n=s.length):=⟨_,rfl⟩
 rw[←HSN.out] at hsl HS ⊢
 by_cases hroot:root<0∨(sn:Int)≤root
 ·
  have HF:Hid (zae s (d+1) root x=false):=by
   rw[Hid,zae,if_pos (by rw[←HSN.out];exact hroot)]
  obtain⟨-,va,vc,rfl,-,-⟩:=hV.open
  obtain⟨-,ua,uc,rfl,-,-⟩:=hU.open
  rw[HF.out]
  clear hV hU hsat hS hw hK0
  rcases hroot with hroot|hroot
  all_goals
   go_enter Tryz.func31,Tryz.ntmps31
   go_wp2_with fail
   go_ret
   exact⟨rfl,hB0⟩
 ·
  obtain⟨r,rfl⟩:∃ r:Nat,root=r:=⟨root.toNat,by omega⟩
  have hr:r<s.length:=by rw[←HSN.out];omega
  have HNUM:=hid (fun f hf=>zmv hs r hr f hf)
  obtain⟨b,o,fv,ha,-,hc0,hc1,hF⟩:=hsat r hr
  have HF:=hid hF
  obtain⟨hfl,fa,fc,rfl,hfat⟩:=hF.open
  obtain⟨fs,HFS⟩:∃ f,Hid (f=(s.getD r .zero).fields):=⟨_,rfl⟩
  rw[←HFS.out] at hfl hc1 HF hF hfat HNUM
  obtain⟨fl,HFL⟩:∃ n,Hid (n=fs.length):=⟨_,rfl⟩
  rw[←HFL.out] at hfl hc1 HF hF hfat
  obtain⟨y,HYY⟩:∃ y,Hid (y=zae s (d+1) r x):=⟨_,rfl⟩
  have HY:Hid (y=(zei (zbp (zae s d)) fs (M.vals x) 0&&(M.unk x).all (zaR fs))):=by
   rw[Hid,HYY.out,zae,if_neg (by rw[←HSN.out];exact hroot),HFS.out];rfl
  rw[←HYY.out]
  have HV:=hid hV
  have HU:=hid hU
  obtain⟨hvl,va,vc,rfl,-,hva⟩:=hV.open
  obtain⟨hul,ua,uc,rfl,-,hua⟩:=hU.open
  obtain⟨vn,HVN⟩:∃ n,Hid (n=(M.vals x).length):=⟨_,rfl⟩
  obtain⟨un,HUN⟩:∃ n,Hid (n=(M.unk x).length):=⟨_,rfl⟩
  rw[←HVN.out] at hvl HV hK0 hB0 ⊢
  rw[←HUN.out] at hul HU hK0 hB0 ⊢
  have HWD:Hid ((∀ m∈M.vals x,vwt (mwt d) m≤1099511627776)∧∀ t∈M.unk x,t.length≤1099511627776):=by
   have h3:1+twt (M.unk x)+((M.vals x).map (vwt (mwt d))).sum≤1099511627776:=hw
   refine⟨fun m hm=>?_,fun t ht=>?_⟩
   ·
    have h1:=zau (vwt (mwt d)) (M.vals x) m hm
    omega
   ·
    have h1:=zau (fun t:List UInt8=>1+t.length) (M.unk x) t ht
    unfold twt at h3
    omega
  have HIH:=hid ih
  have HVA:=hid hva
  have HUA:=hid hua
  have HFA:=hid hfat
  have hix:=zad Tryz.underlying23 zbV ha r (by omega:r<sn) (cap:=sc)
  have hbl:b<w.heap.size:=World.block_lt_of_cell? w _ hc0
  have hd1:decide ((r:Int)<0)=false:=decide_eq_false (by omega)
  have hd2:decide (sn≤r)=false:=decide_eq_false (by omega)
  generalize (s.getD r .zero).name=nm at *
  clear hV hU hsat hS hw hF hva hua hfat ih ha HYY
  go_enter Tryz.func31,Tryz.ntmps31
  go_wp2_with fail
  try simp only[hd1,hd2,Bool.or_false]
  clear hd1 hd2
  generalize hW1:w.alloc (.cells #[.slice va vn vc,.slice ua un uc] 38)=W1 at hK0 hB0 ⊢
  clear hW1
  obtain⟨B,HBB⟩:∃ B,Hid (B=w.heap.size):=⟨_,rfl⟩
  rw[←HBB.out] at hK0 ⊢
  have HK:=hid hK0
  have HB1:=hid hB0
  clear hK0 hB0
  go_loopw [7,8] (fun v7 _ wr=>∃ (i:Nat) (last:Int),v7= .int .i64 i∧i≤vn∧Hid ((i=0∧last=0)∨(0<i∧∃ p,(M.vals x)[i - 1]?=some p∧p.num=last))∧Hid (zei (zbp (zae s d)) fs ((M.vals x).drop i) last=zei (zbp (zae s d)) fs (M.vals x) 0)∧Hid (Below W1.heap.size W1 wr)) (fun v7 _ _=>vn - (intOf v7).toNat)
  case atStart=>exact⟨0,0,rfl,by omega,.inl ⟨rfl,rfl⟩,rfl,Below.refl _ _⟩
  case round =>
   obtain⟨i,last,rfl,hi,HLST,HVB,HI⟩:=hrel
   have HBW:Hid (Below w.heap.size w wr):=HB1.out.trans (HI.out.mono HB1.out.size)
   have HX:=hid (HK.out.below HI.out)
   have lB:=HX.out.lt
   have c0:=HX.out.cell 0 _ rfl
   have m0:=zaa HBW.out _ _ hc0
   have m1:=zaa HBW.out _ _ hc1
   have lb:b<wr.heap.size:=World.block_lt_of_cell? wr _ m0
   by_cases hlt:i<vn
   ·
    have hmi:(M.vals x)[i]?=some ((M.vals x)[i]'(by rw[←HVN.out];exact hlt)):=List.getElem?_eq_getElem _
    generalize (M.vals x)[i]'(by rw[←HVN.out];exact hlt)=m at hmi
    have hva:=HVA.out
    obtain⟨b2,o2,v1,v2,v3,ha2,g0,g1,g2,g3,hM⟩:=hva i m hmi
    clear hva
    have hst:=hid (zlH (zbp (zae s d)) fs (M.vals x) i m last hmi)
    have HWM:=hid (HWD.out.1 m (List.mem_of_getElem? hmi))
    have HM:=hid hM
    have hk:=zaa HBW.out
    have hr0:=hk _ _ g0
    have hix2:=zad Tryz.underlying36 zhk ha2 i hlt (cap:=vc)
    have hbl2:b2<wr.heap.size:=World.block_lt_of_cell? wr _ hr0
    generalize hmn:m.num=mn at *
    have HMN:=hid hmn
    have HFC:=hid (zdG (HF.out.below HBW.out.drew) nm mn)
    obtain⟨j,HJ⟩:∃ j,Hid (zak fs mn=j):=⟨_,rfl⟩
    rw[HJ.out] at HFC hst
    have HA2:=hid ha2
    have HMI:=hid hmi
    clear hmn hM hk ha2 hmi
    go_wp2_with fail
    go_still_tail 10,(by kernel_rfl)
    change wpList _ _ _ _ _ wr.drew
    go_wp2_with fail
    refine HFC.out.mono ?_
    rintro e w4 ⟨rfl,hb4⟩
    have HB4:Hid (Below wr.heap.size wr w4):=(Below.refl wr.heap.size wr).drew.trans hb4
    have HBA:Hid (Below W1.heap.size W1 w4):=HI.out.trans (HB4.out.mono HI.out.size)
    have HBL:=hid (HB1.out.trans (HBA.out.mono HB1.out.size))
    clear hb4 lB c0 m0 m1 lb hr0 hbl2 HX HFC
    have HX:=hid (HK.out.below HBA.out)
    have lB:=HX.out.lt
    have c0:=HX.out.cell 0 _ rfl
    have hk4:=zaa HBL.out
    have m0:=hk4 _ _ hc0
    have m1:=hk4 _ _ hc1
    have lb:b<w4.heap.size:=World.block_lt_of_cell? w4 _ m0
    replace g0:=hk4 _ _ g0
    replace g1:=hk4 _ _ g1
    replace g2:=hk4 _ _ g2
    replace g3:=hk4 _ _ g3
    have lb2:b2<w4.heap.size:=World.block_lt_of_cell? w4 _ g0
    have RET:Hid (y=false→∀ W,Below w4.heap.size w4 W→Below w.heap.size w W):=fun _ W hb=>HBL.out.trans (hb.mono HBL.out.size)
    rcases ze2 fs mn with hj|⟨jn,hjl,hj,hnum⟩
    ·
     obtain rfl:j= -1:=by rw[←HJ.out];exact hj
     have HYF:Hid (y=false):=by
      have h1:=HVB.out
      rw[hst.out,if_pos (.inl (by omega))] at h1
      rw[Hid,HY.out,←h1];rfl
     clear hj
     go_wp2_with fail
     go_quiet (fail)
     go_wp2_with fail
     go_ret
     exact⟨by rw[HYF.out];rfl,zab HBL.out _⟩
    ·
     obtain rfl:j=(jn:Int):=by rw[←HJ.out];exact hj
     rw[←HFL.out] at hjl
     clear hj
     have hjn:¬ ((jn:Int)<0):=by omega
     by_cases hle:mn≤last
     ·
      have HYF:Hid (y=false):=by
       have h1:=HVB.out
       rw[hst.out,if_pos (.inr (.inl hle))] at h1
       rw[Hid,HY.out,←h1];rfl
      have hi0:0<i∧∃ p,(M.vals x)[i - 1]?=some p∧p.num=last:=by
       rcases HLST.out with ⟨h1,h2⟩|h
       ·
        have:=(HNUM.out (fs.getD jn .zero) (zlm _ _ (by rw[←HFL.out];exact hjl))).1
        omega
       ·
        exact h
      obtain⟨hi0,p,hpi,hpn⟩:=hi0
      have hva:=HVA.out
      obtain⟨b5,o5,-,-,-,ha5,g5,-⟩:=hva (i - 1) p hpi
      clear hva
      rw[HA2.out] at ha5
      cases ha5
      rw[hpn] at g5
      replace g5:=hk4 _ _ g5
      have hix5:=zad Tryz.underlying36 zhk HA2.out (i - 1) (show i - 1<vn by omega) (cap:=vc)
      rw[show ((i - 1:Nat):Int)=(i:Int) - 1 by omega] at hix5
      have hwr:IntKind.i64.wrap ((i:Int) - 1)=(i:Int) - 1:=IntWalk.i64_in _ (by omega)
      clear hpi hpn hk4 hnum
      go_wp2_with fail
      have hdj:decide ((jn:Int)<0)=false:=decide_eq_false (by omega)
      have hdl:decide (mn≤last)=true:=decide_eq_true (by omega)
      go_quiet (fail)
      clear hdj hdl
      go_wp2_with fail
      go_ret
      exact⟨by rw[HYF.out];rfl,zab HBL.out _⟩
     ·
      have hfa:=HFA.out
      obtain⟨b3,o3,ha3,hok,f0,f1,f2,f3,f4,f5⟩:=hfa jn hjl
      clear hfa
      obtain⟨⟨name,number,kind,rep,packed,of⟩,HFD⟩:∃ f,Hid (fs.getD jn .zero=f):=⟨_,rfl⟩
      rw[HFD.out] at f0 f1 f2 f3 f4 f5
      have HST2:Hid (zei (zbp (zae s d)) fs (M.vals x) 0=if zbp (zae s d) ⟨name,number,kind,rep,packed,of⟩ m=false then false else zei (zbp (zae s d)) fs ((M.vals x).drop (i+1)) mn):=by
       rw[Hid,←HVB.out,hst.out,Int.toNat_natCast,HFD.out]
       by_cases hf:zbp (zae s d) ⟨name,number,kind,rep,packed,of⟩ m=false
       ·
        rw[if_pos (.inr (.inr hf)),if_pos hf]
       ·
        rw[if_neg hf,if_neg]
        rintro (h|h|h)
        ·
         omega
        ·
         exact hle h
        ·
         exact hf h
      replace f0:=hk4 _ _ f0
      replace f1:=hk4 _ _ f1
      replace f2:=hk4 _ _ f2
      replace f3:=hk4 _ _ f3
      replace f4:=hk4 _ _ f4
      replace f5:=hk4 _ _ f5
      have lb3:b3<w4.heap.size:=World.block_lt_of_cell? w4 _ f0
      have hix3:=zad Tryz.underlying62 zbW ha3 jn hjl (cap:=fc)
      obtain⟨y2,HY2⟩:∃ y2,Hid (zbp (zae s d) ⟨name,number,kind,rep,packed,of⟩ m=y2):=⟨_,rfl⟩
      have HFT:=hid (HIH.out w4.drew ⟨name,number,kind,rep,packed,of⟩ _ _ m (HS.out.below HBL.out.drew) (VMsg.below HM.out HBL.out.drew) HWM.out)
      rw[HY2.out] at HFT HST2
      rcases HLST.out with ⟨hz,hz2⟩|⟨hi0,p,hpi,hpn⟩
      ·
       have HZ:=hid hz
       have hix0:∀ W:World,(Instr.indexAt 36 (.slice va vn vc) (.int .i64 0)).run Tryz.prog W= .ok (.pointer (some ⟨b2,o2,none⟩)) W:=fun W=>by
        have:=hix2 W
        rw[hz] at this
        simpa using this
       rw[hz] at g0 g1 g2 g3
       simp only[Nat.zero_mul,Nat.add_zero] at g0 g1 g2 g3
       clear ha3 hok hnum hk4 hjn hst HVB
       go_wp2_with fail
       have hdj:decide ((jn:Int)<0)=false:=decide_eq_false (by omega)
       have hdl:decide (mn≤last)=false:=decide_eq_false (by omega)
       have hdi:decide (0<i)=false:=decide_eq_false (by omega)
       have hdi2:decide ((0:Int)<(i:Int))=false:=decide_eq_false (by omega)
       clear hz hz2
       refine wp_region_still_tail 37 (by kernel_rfl) (by kernel_rfl) ?_
       simp only[List.take_succ_cons,List.take_zero,List.drop_succ_cons,List.drop_zero]
       change wpStill _ _ w4.drew _ _ _
       refine zbg _ _ ?_
       repeat (go_big_quiet_step (fail))
       refine wpQuiet_nil ?_
       change wpList _ _ _ _ _ w4.drew
       clear hdj hdl hdi hdi2
       go_wp2_with fail
       refine HFT.out.mono ?_
       rintro e w5 ⟨rfl,hb5⟩
       have HB5:Hid (Below W1.heap.size W1 w5):=HBA.out.trans (((Below.refl w4.heap.size w4).drew.trans hb5).mono HBA.out.size)
       clear hb5
       cases y2 with
       | false =>
        have HYF:Hid (y=false):=by
         have h1:=HST2.out
         rw[if_pos rfl] at h1
         rw[Hid,HY.out,h1];rfl
        go_wp2_with fail
        go_ret
        exact⟨by rw[HYF.out];rfl,HB1.out.trans (HB5.out.mono HB1.out.size)⟩
       | true =>
        go_wp2_with fail
        go_roundw
        case rel=>exact⟨i+1,mn,by have hz':i=0:=HZ.out;rw[hz'];first|rfl|go_num,by have hz':i=0:=HZ.out;omega,.inr ⟨by omega,m,by simpa using HMI.out,HMN.out⟩,by rw[Hid,HST2.out,if_neg (by decide)],HB5.out⟩
        case measure=>simp[intOf];have hz':i=0:=HZ.out;omega
      ·
       have hva:=HVA.out
       obtain⟨b5,o5,-,-,-,ha5,g5,-⟩:=hva (i - 1) p hpi
       clear hva
       rw[HA2.out] at ha5
       cases ha5
       rw[hpn] at g5
       replace g5:=hk4 _ _ g5
       have hix5:=zad Tryz.underlying36 zhk HA2.out (i - 1) (show i - 1<vn by omega) (cap:=vc)
       rw[show ((i - 1:Nat):Int)=(i:Int) - 1 by omega] at hix5
       have hwr:IntKind.i64.wrap ((i:Int) - 1)=(i:Int) - 1:=IntWalk.i64_in _ (by omega)
       clear ha3 hok hnum hk4 hjn hst HVB hpi hpn
       go_wp2_with fail
       have hdj:decide ((jn:Int)<0)=false:=decide_eq_false (by omega)
       have hdl:decide (mn≤last)=false:=decide_eq_false (by omega)
       go_still_tail 37,(by kernel_rfl)
       change wpList _ _ _ _ _ w4.drew
       clear hdj hdl
       go_wp2_with fail
       refine HFT.out.mono ?_
       rintro e w5 ⟨rfl,hb5⟩
       have HB5:Hid (Below W1.heap.size W1 w5):=HBA.out.trans (((Below.refl w4.heap.size w4).drew.trans hb5).mono HBA.out.size)
       clear hb5
       cases y2 with
       | false =>
        have HYF:Hid (y=false):=by
         have h1:=HST2.out
         rw[if_pos rfl] at h1
         rw[Hid,HY.out,h1];rfl
        go_wp2_with fail
        go_ret
        exact⟨by rw[HYF.out];rfl,HB1.out.trans (HB5.out.mono HB1.out.size)⟩
       | true =>
        go_wp2_with fail
        go_roundw
        case rel=>exact⟨i+1,mn,by go_num,hlt,.inr ⟨by omega,m,by simpa using HMI.out,HMN.out⟩,by rw[Hid,HST2.out,if_neg (by decide)],HB5.out⟩
        case measure=>simp[intOf];omega
   ·
    obtain rfl:i=vn:=by omega
    have HE:Hid (y=(M.unk x).all (zaR fs)):=by
     have h1:=HVB.out
     rw[List.drop_of_length_le (by rw[HVN.out];exact Nat.le_refl _)] at h1
     rw[Hid,HY.out,←h1];rfl
    have c1:=HX.out.cell 1 _ rfl
    go_wp2_with fail
    clear lB c0 c1 m0 m1 lb HVB HLST HX HBW
    go_loopw [9,10,11] (fun v9 _ _ wr2=>∃ (q:Nat),v9= .int .i64 q∧q≤un∧Hid ((M.unk x).all (zaR fs)=((M.unk x).drop q).all (zaR fs))∧Hid (Below W1.heap.size W1 wr2)) (fun v9 _ _ _=>un - (intOf v9).toNat)
    case atStart=>exact⟨0,rfl,by omega,rfl,HI.out⟩
    case round =>
     clear HI
     obtain⟨q,rfl,hq,HQ,HI⟩:=hrel
     have HBW:Hid (Below w.heap.size w wr):=HB1.out.trans (HI.out.mono HB1.out.size)
     have HX:=hid (HK.out.below HI.out)
     have lB:=HX.out.lt
     have c1:=HX.out.cell 1 _ rfl
     by_cases hlt2:q<un
     ·
      have hxi:(M.unk x)[q]?=some ((M.unk x)[q]'(by rw[←HUN.out];exact hlt2)):=List.getElem?_eq_getElem _
      generalize (M.unk x)[q]'(by rw[←HUN.out];exact hlt2)=z at hxi
      have hua:=HUA.out
      obtain⟨hzl,b3,o3,ha3,g0⟩:=hua q z hxi
      clear hua
      have hU:zbA z= .string ⟨z.toArray⟩:=rfl
      rw[hU] at g0
      replace g0:=zaa HBW.out _ _ g0
      have hbl3:b3<wr.heap.size:=World.block_lt_of_cell? wr _ g0
      have hix3:=zag Tryz.underlying25 zcp ha3 q hlt2 (cap:=uc)
      have HT:=hid (zpg (zaR fs) (M.unk x) q z hxi)
      obtain⟨gz,cz,wz,hcv,hbz,hby⟩:=zfh wr z hzl
      have HBZ:=hid hbz
      have HBY:=hid hby
      obtain⟨zn,HZN⟩:∃ n,Hid (n=z.length):=⟨_,rfl⟩
      rw[←HZN.out] at hcv HBY
      obtain⟨rc,cd,HR⟩:∃ rc cd,Hid (zbE z 0=(rc,cd)):=⟨_,_,rfl⟩
      have HSB:Hid (zaR fs z=(decide (cd=0∧rc.to=zn)&&decide (zak fs rc.number<0))):=by
       rw[Hid,zaR,HR.out,←HZN.out]
      have HNX:=hid (zlZ HBY.out 0)
      rw[HR.out] at HNX
      obtain⟨rn,rw',rs,ra,rt⟩:=rc
      clear hU hxi hzl hbz hby ha3
      go_wp2_with fail
      refine HNX.out.mono ?_
      rintro e w4 ⟨rfl,hb4⟩
      simp only[Rec.val]
      go_wp2_with fail
      have hX5:=Blk.new w4 [.int .i64 rn,.int .i64 rw',.int .i64 rs,.int .i64 ra,.int .i64 rt] 119
      have hB5:Below wr.heap.size wr (w4.alloc (.cells #[.int .i64 rn,.int .i64 rw',.int .i64 rs,.int .i64 ra,.int .i64 rt] 119)):=
       (HBZ.out.trans (hb4.mono HBZ.out.size)).alloc (by have:=HBZ.out.size;have:=hb4.size;omega) _
      generalize hW5:w4.alloc (.cells #[.int .i64 rn,.int .i64 rw',.int .i64 rs,.int .i64 ra,.int .i64 rt] 119)=W5 at hX5 hB5 ⊢
      clear hW5 hb4 hcv
      obtain⟨X5,HX5⟩:∃ X,Hid (X=w4.heap.size):=⟨_,rfl⟩
      rw[←HX5.out] at hX5 ⊢
      have HBA:Hid (Below W1.heap.size W1 W5):=HI.out.trans (hB5.mono HI.out.size)
      have HBL:=hid (HB1.out.trans (HBA.out.mono HB1.out.size))
      have HB:=hid (HK.out.below HBA.out)
      have x0:=hX5.cell 0 _ rfl
      have x4:=hX5.cell 4 _ rfl
      have lx:=hX5.lt
      have lB5:=HB.out.lt
      have c5:=HB.out.cell 1 _ rfl
      have hk5:=zaa HBL.out
      have m0:=hk5 _ _ hc0
      have m1:=hk5 _ _ hc1
      have lb5:b<W5.heap.size:=World.block_lt_of_cell? W5 _ m0
      have g5:=zaa hB5 _ _ g0
      have lb3:b3<W5.heap.size:=World.block_lt_of_cell? W5 _ g5
      have hzn:z.length=zn:=HZN.out.symm
      clear hX5 hB5 hk5 g0 hbl3 lB c1
      by_cases hcd:cd=0
      ·
       subst hcd
       by_cases hrt:rt=zn
       ·
        have HSC:Hid (zaR fs z=decide (zak fs rn<0)):=by rw[Hid,HSB.out,decide_eq_true ⟨rfl,hrt⟩];rfl
        have hb2:((rt:Int) != (zn:Int))=false:=by rw[hrt];simp
        have HFC:=hid (zdG (HF.out.below HBL.out.drew) nm rn)
        obtain⟨j,HJ⟩:∃ j,Hid (zak fs rn=j):=⟨_,rfl⟩
        rw[HJ.out] at HFC HSC
        subst hrt
        go_wp2_with fail
        refine wp_region_still_tail 20 (by kernel_rfl) (by kernel_rfl) ?_
        simp only[List.take_succ_cons,List.take_zero,List.drop_succ_cons,List.drop_zero]
        change wpStill _ _ W5.drew _ _ _
        refine zbg _ _ ?_
        iterate 20 (go_big_quiet_step (fail))
        refine wpQuiet_nil ?_
        change wpList _ _ _ _ _ W5.drew
        go_wp2_with fail
        refine HFC.out.mono ?_
        rintro e w6 ⟨rfl,hb6⟩
        have HB6:Hid (Below W1.heap.size W1 w6):=HBA.out.trans (((Below.refl W5.heap.size W5).drew.trans hb6).mono HBA.out.size)
        clear hb6
        by_cases hj:0≤j
        ·
         have HYF:Hid (y=false):=by
          rw[Hid,HE.out,HQ.out,HT.out,HSC.out,decide_eq_false (by omega)];rfl
         go_wp2_with fail
         go_ret
         exact⟨by rw[HYF.out];rfl,HB1.out.trans (HB6.out.mono HB1.out.size)⟩
        ·
         have HQ2:Hid ((M.unk x).all (zaR fs)=((M.unk x).drop (q+1)).all (zaR fs)):=by
          rw[Hid,HQ.out,HT.out,HSC.out,decide_eq_true (by omega)];rfl
         go_wp2_with fail
         go_roundw
         case rel=>exact⟨q+1,by go_num,hlt2,HQ2.out,HB6.out⟩
         case measure=>simp[intOf];omega
       ·
        have HYF:Hid (y=false):=by
         rw[Hid,HE.out,HQ.out,HT.out,HSB.out,decide_eq_false (by rintro⟨-,h⟩;exact hrt h)];rfl
        have hb2:((rt:Int) != (zn:Int))=true:=by simp;omega
        clear hrt
        go_wp2_with fail
        go_quiet (fail)
        go_wp2_with fail
        go_ret
        exact⟨by rw[HYF.out];rfl,zab HBL.out _⟩
      ·
       have HYF:Hid (y=false):=by
        rw[Hid,HE.out,HQ.out,HT.out,HSB.out,decide_eq_false (by rintro⟨h,-⟩;exact hcd h)];rfl
       have hb1:((cd:Int) != 0)=true:=by simp;omega
       clear hcd
       go_wp2_with fail
       go_quiet (fail)
       go_wp2_with fail
       go_ret
       exact⟨by rw[HYF.out];rfl,zab HBL.out _⟩
     ·
      obtain rfl:q=un:=by omega
      have HYT:Hid (y=true):=by
       rw[Hid,HE.out,HQ.out,List.drop_of_length_le (by rw[HUN.out];exact Nat.le_refl _)];rfl
      go_wp2_with fail
      go_ret
      exact⟨by rw[HYT.out];rfl,HBW.out⟩
theorem zdT {s:List Mes}(hs:zaC s=true):∀ d,zgv s d
 | 0=>fun _ _ _ _ _ _ h=>h.elim
 | d+1=>zgb hs (zig (zdT hs d))
end
section
open Go.RowKit
def zeW (s:List Mes)(root:Int)(d:Nat)(x:M d):Nat:=if zaC s=false then 9 else if root<0∨(s.length:Int)≤root then 2 else if zae s d root x=false then 12 else 0
theorem zmw {w:World}{sv v:Value}{s:List Mes}{d:Nat}{x:M d}(hS:zaj w sv s)(root:Int)(h:zac d w v x)(hw:mwt d x≤1099511627776) :
  Calls Tryz.prog 49 #[sv,.int .i64 root,v] w fun e w'=>e= .returned (.bool (zaC s&&zae s d root x))∧Below w.heap.size w w':=by
 have HS:=hid hS
 have HM:=hid h
 have HW:=hid hw
 have hok:=zem s d
 unfold zfE at hok
 have HOK:=hid hok
 obtain⟨-,sa,sc,rfl,-⟩:=hS.open
 obtain⟨a1,n1,c1,a2,n2,c2,rfl⟩:=h.form
 have hB1:Below w.heap.size w (w.alloc (.cells #[.slice a1 n1 c1,.slice a2 n2 c2] 27)):=(Below.refl _ _).alloc (Nat.le_refl _) _
 have HB1:=hid hB1
 have hk:=Blk.new w [.slice a1 n1 c1,.slice a2 n2 c2] 27
 have HK:=hid hk
 obtain⟨b,HBB⟩:∃ b,Hid (zaC s=b):=⟨_,rfl⟩
 obtain⟨r,HR⟩:∃ r,Hid (zae s d root x=r):=⟨_,rfl⟩
 rw[HBB.out,HR.out]
 clear hok hS h hw hB1 hk
 cases b with
 | false =>
  go_enter Tryz.func49,Tryz.ntmps49
  go_wp2_with (go_at_call 48;refine (zct (HS.out.below HB1.out)).mono ?_;rintro e w1 ⟨rfl,hb1⟩;rw[HBB.out])
  go_ret
  exact⟨rfl,HB1.out.trans (hb1.mono HB1.out.size)⟩
 | true =>
  go_enter Tryz.func49,Tryz.ntmps49
  go_wp2_with fail
  refine (zct (HS.out.below HB1.out)).mono ?_
  rintro e w1 ⟨rfl,hb1⟩
  rw[HBB.out]
  have HK1:=hid (HK.out.below hb1)
  have x0:=HK1.out.cell 0 _ rfl
  have x1:=HK1.out.cell 1 _ rfl
  have lx:=HK1.out.lt
  have HB2:=hid (HB1.out.trans (hb1.mono HB1.out.size))
  clear hb1
  go_wp2_with fail
  refine (HOK.out _ root _ _ x (HS.out.below HB2.out) (HM.out.below HB2.out) HW.out).mono ?_
  rintro e w2 ⟨rfl,hb2⟩
  rw[HR.out]
  go_wp2_with fail
  go_ret
  exact⟨rfl,HB2.out.trans (hb2.mono HB2.out.size)⟩
theorem zmx {w:World}{sv:Value}{s:List Mes}(hS:zaj w sv s)(root:Int) :
  Calls Tryz.prog 30 #[sv,.int .i64 root] w fun e w'=>e= .returned (.int .i64 ((if zaC s=false then 9 else if root<0∨(s.length:Int)≤root then 2 else 0:Nat):Int))∧Below w.heap.size w w':=by
 have HS:=hid hS
 obtain⟨hsl,sa,sc,rfl,-⟩:=hS.open
 obtain⟨b,HBB⟩:∃ b,Hid (zaC s=b):=⟨_,rfl⟩
 rw[HBB.out]
 obtain⟨sn,HSN⟩:∃ n,Hid (n=s.length):=⟨_,rfl⟩
 rw[←HSN.out] at hsl HS ⊢
 clear hS
 cases b with
 | false =>
  go_enter Tryz.func30,Tryz.ntmps30
  go_wp2_with (go_at_call 68;refine (zeP HS.out).mono ?_;rintro e w1 ⟨rfl,hb1⟩;rw[HBB.out])
  go_ret
  exact⟨rfl,hb1⟩
 | true =>
  rw[if_neg (by decide)]
  by_cases h:root<0∨(sn:Int)≤root
  ·
   rw[if_pos h]
   rcases h with h|h
   all_goals
    go_enter Tryz.func30,Tryz.ntmps30
    go_wp2_with (go_at_call 68;refine (zeP HS.out).mono ?_;rintro e w1 ⟨rfl,hb1⟩;rw[HBB.out])
    go_ret
    exact⟨rfl,hb1⟩
  ·
   rw[if_neg h]
   have h1:0≤root:=by omega
   have h2:root<sn:=by omega
   go_enter Tryz.func30,Tryz.ntmps30
   go_wp2_with (go_at_call 68;refine (zeP HS.out).mono ?_;rintro e w1 ⟨rfl,hb1⟩;rw[HBB.out])
   go_ret
   exact⟨rfl,hb1⟩
theorem zn8 {w:World}{sv v1 v2:Value}{s:List Mes}{d g:Nat}{x:M d}(hS:zaj w sv s)(root:Int)(h:zac d w (.agg #[v1,v2]) x)(hw:mwt d x≤1099511627776)
  (g0:w.cell? ⟨g,0,none⟩=some v1) (g1:w.cell? ⟨g,1,none⟩=some v2) :
  Calls Tryz.prog 11 #[sv,.int .i64 root,.slice (some ⟨g,0,none⟩) 1 1] w fun e w'=>e= .returned (.int .i64 (zeW s root d x))∧Below w.heap.size w w':=by
 have HS:=hid hS
 have HM:=hid h
 have HW:=hid hw
 have HA:=hid (zmx hS root)
 obtain⟨hsl,sa,sc,rfl,-⟩:=hS.open
 obtain⟨a1,n1,c1,a2,n2,c2,he⟩:=h.form
 cases he
 obtain⟨m,HMC⟩:∃ m,Hid (m=zeW s root d x):=⟨_,rfl⟩
 rw[←HMC.out]
 by_cases hb:zaC s=false
 ·
  have HE:Hid (m=9):=by rw[Hid,HMC.out,zeW,if_pos hb]
  rw[if_pos hb] at HA
  clear hS h hw hb HMC
  go_enter Tryz.func11,Tryz.ntmps11
  go_wp2_with (go_at_call 30;refine HA.out.mono ?_;rintro e w1 ⟨rfl,hb1⟩)
  go_ret
  exact⟨by rw[HE.out];rfl,hb1⟩
 by_cases hr:root<0∨(s.length:Int)≤root
 ·
  have HE:Hid (m=2):=by rw[Hid,HMC.out,zeW,if_neg hb,if_pos hr]
  rw[if_neg hb,if_pos hr] at HA
  clear hS h hw hb HMC hr
  go_enter Tryz.func11,Tryz.ntmps11
  go_wp2_with (go_at_call 30;refine HA.out.mono ?_;rintro e w1 ⟨rfl,hb1⟩)
  go_ret
  exact⟨by rw[HE.out];rfl,hb1⟩
 ·
  rw[if_neg hb,if_neg hr] at HA
  have hok:=zdT (s:=s) (by simpa using hb) d
  unfold zgv at hok
  have HOK:=hid hok
  obtain⟨r,HR⟩:∃ r,Hid (zae s d root x=r):=⟨_,rfl⟩
  have HE:Hid (m=if r=false then 12 else 0):=by rw[Hid,HMC.out,zeW,if_neg hb,if_neg hr,HR.out]
  have hix:∀ W:World,(Instr.indexAt 40 (.slice (some ⟨g,0,none⟩) 1 1) (.int .i64 0)).run Tryz.prog W= .ok (.pointer (some ⟨g,0,none⟩)) W:=fun W=>by
   have:=zad Tryz.underlying40 zhj (a:=some ⟨g,0,none⟩) rfl 0 (len:=1) (by decide) (cap:=1) W
   simpa using this
  clear hS h hw hb HMC hr hok
  go_enter Tryz.func11,Tryz.ntmps11
  go_wp2_with (go_at_call 30;refine HA.out.mono ?_;rintro e w1 ⟨rfl,hb1⟩)
  have HB1:=hid hb1
  have k0:=zaa hb1 _ _ g0
  have k1:=zaa hb1 _ _ g1
  have lg:g<w1.heap.size:=World.block_lt_of_cell? w1 _ k0
  clear hb1
  go_loopw [8] (fun v8 wr=>∃ i:Nat,v8= .int .i64 i∧i≤1∧Hid (i=1→r=true)∧Hid (Below w1.heap.size w1 wr)) (fun v8 _=>1 - (intOf v8).toNat)
  case atStart=>exact⟨0,rfl,by omega,fun h=>absurd h (by decide),Below.refl _ _⟩
  case round =>
   obtain⟨i,rfl,hi,HI,HB⟩:=hrel
   have HBW:=hid (HB1.out.trans (HB.out.mono HB1.out.size))
   replace k0:=zaa HB.out _ _ k0
   replace k1:=zaa HB.out _ _ k1
   have lg:g<wr.heap.size:=World.block_lt_of_cell? wr _ k0
   by_cases h0:i=0
   ·
    subst h0
    go_wp2_with fail
    refine (HOK.out _ root _ _ x (HS.out.below HBW.out) (HM.out.below HBW.out) HW.out).mono ?_
    rintro e w2 ⟨rfl,hb2⟩
    rw[HR.out]
    have HB2:=hid (HB.out.trans (hb2.mono HB.out.size))
    clear hb2
    cases r with
    | false =>
     go_wp2_with fail
     go_ret
     exact⟨by rw[HE.out];rfl,HB1.out.trans (HB2.out.mono HB1.out.size)⟩
    | true =>
     go_wp2_with fail
     go_roundw
     case rel=>exact⟨1,by first|rfl|go_num,by omega,by simp[Hid],HB2.out⟩
     case measure=>simp[intOf]
   ·
    obtain rfl:i=1:=by omega
    have hr1:=HI.out rfl
    subst hr1
    go_wp2_with fail
    go_ret
    exact⟨by rw[HE.out];rfl,HBW.out⟩
end
section
open Go.RowKit
end
section
open Go.RowKit
end
section
open Go.RowKit
end
section
open Go.RowKit
end
end Go.Proofs.YtdpnmdkbdibkpaaGreatDoor
