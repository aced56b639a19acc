/- tree.right, tree.Right: rightB, for each depth. The meaning's weight is at most 2^40. darningref14.Many, Fits: fitsB, where Right tells rightB of the messages in it. The value's weight is at most 2^40. -/
import Derived.Test.YtdpnmdkbdibkpaaGreatDoorZ22
import Derived.StillTailTactics
namespace Go.Proofs.YtdpnmdkbdibkpaaGreatDoor
set_option maxRecDepth 100000
set_option maxHeartbeats 16000000
section
open Go.RowKit
theorem zj8 {w:World}{p q:Nat}{sv:Value}{s:List Mes}{r:Nat}(hp:w.cell? ⟨p,0,none⟩=some sv)(hq:w.cell? ⟨q,0,none⟩=some (.int .i64 r))(hS:zaj w sv s)(hr:r<s.length)(t:List UInt8)(ht:t.length≤1099511627776) :
  Calls Tryz.prog 94 #[zbA t,.pointer (some ⟨p,0,none⟩),.pointer (some ⟨q,0,none⟩)] w fun e w'=>e= .returned (.bool (!zaR (s.getD r .zero).fields t))∧Below w.heap.size w w':=by
 obtain⟨y,HY⟩:∃ y,Hid (zaR (s.getD r .zero).fields t=y):=⟨_,rfl⟩
 rw[HY.out]
 obtain⟨hsl,sa,sc,rfl,hsat⟩:=hS.open
 obtain⟨b,o,fv,ha,-,hc0,hc1,hF⟩:=hsat r hr
 have HF:=hid hF
 obtain⟨hfl,fa,fc,rfl,-⟩:=hF.open
 obtain⟨fl,HFL⟩:∃ n,Hid (n=(s.getD r .zero).fields.length):=⟨_,rfl⟩
 rw[←HFL.out] at hfl hc1 HF hF
 have hix:=zad Tryz.underlying23 zbV ha r hr (cap:=sc)
 have hbl:b<w.heap.size:=World.block_lt_of_cell? w _ hc0
 have hpl:p<w.heap.size:=World.block_lt_of_cell? w _ hp
 have hql:q<w.heap.size:=World.block_lt_of_cell? w _ hq
 have HT:=hid ht
 generalize (s.getD r .zero).name=nm at *
 have hST:zbA t= .string ⟨t.toArray⟩:=rfl
 rw[hST]
 have HS2:=hid (ziV hF nm t ht)
 rw[hST,HY.out] at HS2
 clear hST hS hsat hF ha ht
 go_enter Tryz.func94,Tryz.ntmps94
 go_wp2_with fail
 refine HS2.out.mono ?_
 rintro e w1 ⟨rfl,hb1⟩
 go_wp2_with fail
 go_ret
 exact⟨rfl,hb1⟩
theorem zlH {α:Type}(F:Fld→Val α→Bool)(fs:List Fld)(l:List (Val α))(k:Nat)(x:Val α)(last:Int)(h:l[k]?=some x) :
  zei F fs (l.drop k) last=if zak fs x.num<0∨x.num≤last∨F (fs.getD (zak fs x.num).toNat .zero) x=false then false else zei F fs (l.drop (k+1)) x.num:=by
 obtain⟨hk,rfl⟩:=List.getElem?_eq_some_iff.1 h
 rw[List.drop_eq_getElem_cons hk,zei]
theorem zhi {s:List Mes}{d:Nat}(ih:zpE s d):zfE s (d+1):=by
 intro w root v sv x hS h hw
 obtain⟨vv,uv,rfl,hV,hU⟩:=h
 have H3:=hid (zn5 w [sv] [.int .i64 root] [vv,uv] 23 3 27)
 have HS:=hid hS
 obtain⟨hsl,sa,sc,rfl,hsat⟩:=hS.open
 obtain⟨sn,HSN⟩:∃ n,Hid (n=s.length):=⟨_,rfl⟩
 rw[←HSN.out] at hsl H3 HS ⊢
 by_cases hroot:root<0∨(sn:Int)≤root
 ·
  have HF:Hid (zae s (d+1) root x=false):=by
   rw[Hid,zae,if_pos (by rw[←HSN.out];exact hroot)]
  obtain⟨-,va,vc,rfl,-,-⟩:=hV.open
  obtain⟨-,ua,uc,rfl,-,-⟩:=hU.open
  have h3:=H3.out _ rfl
  rw[HF.out]
  clear hV hU hsat hS H3 hw
  rcases hroot with hroot|hroot
  all_goals
   go_enter Tryz.func58,Tryz.ntmps58
   go_wp2_with fail
   go_ret
   exact⟨rfl,h3.2.2.2.2⟩
 ·
  obtain⟨r,rfl⟩:∃ r:Nat,root=r:=⟨root.toNat,by omega⟩
  have hr:r<s.length:=by rw[←HSN.out];omega
  obtain⟨b,o,fv,ha,-,hc0,hc1,hF⟩:=hsat r hr
  have HF:=hid hF
  obtain⟨hfl,fa,fc,rfl,hfat⟩:=hF.open
  obtain⟨fs,HFS⟩:∃ f,Hid (f=(s.getD r .zero).fields):=⟨_,rfl⟩
  rw[←HFS.out] at hfl hc1 HF hF hfat
  obtain⟨fl,HFL⟩:∃ n,Hid (n=fs.length):=⟨_,rfl⟩
  rw[←HFL.out] at hfl hc1 HF hF hfat
  have HY:Hid (zae s (d+1) r x=(zei (zbp (zae s d)) fs (M.vals x) 0&&(M.unk x).all (zaR fs))):=by
   rw[Hid,zae,if_neg (by rw[←HSN.out];exact hroot),HFS.out];rfl
  obtain⟨y,HYY⟩:∃ y,Hid (y=zae s (d+1) r x):=⟨_,rfl⟩
  rw[←HYY.out] at HY ⊢
  have HV:=hid hV
  have HU:=hid hU
  obtain⟨hvl,va,vc,rfl,-,hva⟩:=hV.open
  obtain⟨hul,ua,uc,rfl,-,-⟩:=hU.open
  obtain⟨vn,HVN⟩:∃ n,Hid (n=(M.vals x).length):=⟨_,rfl⟩
  obtain⟨un,HUN⟩:∃ n,Hid (n=(M.unk x).length):=⟨_,rfl⟩
  rw[←HVN.out] at hvl H3 HV ⊢
  rw[←HUN.out] at hul H3 HU ⊢
  have HWD:Hid ((∀ m∈M.vals x,vwt (mwt d) m≤1099511627776)∧∀ t∈M.unk x,t.length≤1099511627776):=by
   have h3:1+twt (M.unk x)+((M.vals x).map (vwt (mwt d))).sum≤1099511627776:=hw
   refine⟨fun m hm=>?_,fun t ht=>?_⟩
   ·
    have h1:=zau (vwt (mwt d)) (M.vals x) m hm
    omega
   ·
    have h1:=zau (fun t:List UInt8=>1+t.length) (M.unk x) t ht
    unfold twt at h3
    omega
  have HIH:=hid ih
  have HVA:=hid hva
  have HFA:=hid hfat
  have hix:=zad Tryz.underlying23 zbV ha r (by omega:r<sn) (cap:=sc)
  have hbl:b<w.heap.size:=World.block_lt_of_cell? w _ hc0
  generalize (s.getD r .zero).name=nm at *
  clear hV hU hsat hS hw hF hva hfat ih ha
  go_enter Tryz.func58,Tryz.ntmps58
  go_wp2_with fail
  have h3:=H3.out _ rfl
  clear H3
  obtain⟨hk1,hk2,hk3,hz1,hb1⟩:=h3
  have hd1:decide ((r:Int)<0)=false:=decide_eq_false (by omega)
  have hd2:decide (sn≤r)=false:=decide_eq_false (by omega)
  simp only[hd1,hd2,Bool.or_false]
  clear hd1 hd2
  generalize hW1:((w.alloc (.cells #[.slice sa sn sc] 23)).alloc (.cells #[.int .i64 r] 3)).alloc (.cells #[.slice va vn vc,.slice ua un uc] 27)=W1 at hk1 hk2 hk3 hz1 hb1 ⊢
  clear hW1
  obtain⟨B,HBB⟩:∃ B,Hid (B=w.heap.size):=⟨_,rfl⟩
  rw[←HBB.out] at hk1 hk2 hk3 hz1 ⊢
  have HK1:=hid hk1
  have HK2:=hid hk2
  have HK3:=hid hk3
  have HB1:=hid hb1
  clear hk1 hk2 hk3 hz1 hb1
  go_loopw [7,9,10,11,23] (fun v7 _ _ _ v23 wr=>∃ (i:Nat) (last:Int),v23= .int .i64 i∧v7= .int .i64 last∧i≤vn∧(-9223372036854775808≤last∧last≤9223372036854775807)∧Hid (zei (zbp (zae s d)) fs ((M.vals x).drop i) last=zei (zbp (zae s d)) fs (M.vals x) 0)∧Hid (Below W1.heap.size W1 wr)) (fun _ _ _ _ v23 _=>vn - (intOf v23).toNat)
  case atStart=>exact⟨0,0,rfl,rfl,by omega,by omega,rfl,Below.refl _ _⟩
  case round =>
   obtain⟨i,last,rfl,rfl,hi,hlast,HVB,HI⟩:=hrel
   have HBW:Hid (Below w.heap.size w wr):=HB1.out.trans (HI.out.mono HB1.out.size)
   have HX1:=hid (HK1.out.below HI.out)
   have HX2:=hid (HK2.out.below HI.out)
   have HX3:=hid (HK3.out.below HI.out)
   have l1:=HX1.out.lt
   have l2:=HX2.out.lt
   have l3:=HX3.out.lt
   have c1:=HX1.out.cell 0 _ rfl
   have c2:=HX2.out.cell 0 _ rfl
   have m0:=zaa HBW.out _ _ hc0
   have m1:=zaa HBW.out _ _ hc1
   have hblr:b<wr.heap.size:=World.block_lt_of_cell? wr _ m0
   by_cases hlt:i<vn
   ·
    have hmi:(M.vals x)[i]?=some ((M.vals x)[i]'(by rw[←HVN.out];exact hlt)):=List.getElem?_eq_getElem _
    generalize (M.vals x)[i]'(by rw[←HVN.out];exact hlt)=m at hmi
    have hva:=HVA.out
    obtain⟨b2,o2,v1,v2,v3,ha2,g0,g1,g2,g3,hM⟩:=hva i m hmi
    clear hva
    have hst:=hid (zlH (zbp (zae s d)) fs (M.vals x) i m last hmi)
    have HWM:=hid (HWD.out.1 m (List.mem_of_getElem? hmi))
    have HM:=hid hM
    have hnb:-9223372036854775808≤m.num∧m.num≤9223372036854775807:=by
     obtain⟨_,_,_,_,h,_⟩:=hM
     exact h
    obtain⟨mm,a1,n1,q1,a2,n2,q2,a3,n3,q3,he⟩:=hM.form
    cases he
    have hk:=zaa HBW.out
    replace g0:=hk _ _ g0
    replace g1:=hk _ _ g1
    replace g2:=hk _ _ g2
    replace g3:=hk _ _ g3
    have hix2:=zad Tryz.underlying24 zdd ha2 i hlt (cap:=vc)
    have hbl2:b2<wr.heap.size:=World.block_lt_of_cell? wr _ g0
    generalize hmn:m.num=mn at *
    have HMN:=hid hmn
    clear hmn hM hk ha2 hmi
    go_wp2_with fail
    have hX:=Blk.new wr [.int .i64 mn,.slice a1 n1 q1,.slice a2 n2 q2,.slice a3 n3 q3] 32
    have hB2:=(Below.refl wr.heap.size wr).alloc (Nat.le_refl _) (.cells #[.int .i64 mn,.slice a1 n1 q1,.slice a2 n2 q2,.slice a3 n3 q3] 32)
    generalize hW2:wr.alloc (.cells #[.int .i64 mn,.slice a1 n1 q1,.slice a2 n2 q2,.slice a3 n3 q3] 32)=W2 at hX hB2 ⊢
    clear hW2
    obtain⟨X,HXX⟩:∃ X,Hid (X=wr.heap.size):=⟨_,rfl⟩
    rw[←HXX.out] at hX ⊢
    have hk2:=zaa hB2
    have HB2:=hid hB2
    have HX:=hid hX
    have lx:X<W2.heap.size:=hX.lt
    have l1':B<W2.heap.size:=by have:=hB2.size;omega
    have l2':B+1<W2.heap.size:=by have:=hB2.size;omega
    have lb':b<W2.heap.size:=by have:=hB2.size;omega
    have k0:W2.drew.cell? ⟨B,0,none⟩=some (.slice sa sn sc)∧W2.drew.cell? ⟨B+1,0,none⟩=some (.int .i64 r)∧W2.drew.cell? ⟨b,o+r*2,none⟩=some (.string nm)∧W2.drew.cell? ⟨b,o+r*2+1,none⟩=some (.slice fa fl fc)∧W2.drew.cell? ⟨X,0,none⟩=some (.int .i64 mn):=⟨hk2 _ _ c1,hk2 _ _ c2,hk2 _ _ m0,hk2 _ _ m1,hX.cell 0 _ rfl⟩
    have HFW:=hid (HF.out.keep (w':=W2.drew) (fun p u hu=>hk2 p u (zaa HBW.out p u hu)))
    obtain⟨x1,x2,HXC,HBN⟩:∃ (x1:Int) (x2:Bool),Hid ((zak fs mn<0∧x2=false)∨∃ jn:Nat,jn<fl∧zak fs mn=jn∧x1=jn∧x2=true)∧Hid (Calls Tryz.prog 86 #[.agg #[.string nm,.slice fa fl fc],.int .i64 mn] W2.drew fun e w'=>e= .returned (.tuple #[.int .i64 x1,.bool x2])∧Below W2.drew.heap.size W2.drew w'):=by
     refine⟨_,_,?_,zcR HFW.out nm mn⟩
     rcases zfp (fun f:Fld=>decide (f.number=mn)) fs 0 with h|⟨jn,h,h1,h2⟩
     ·
      exact .inl ⟨by unfold zak;omega,decide_eq_false (by unfold zak;omega)⟩
     ·
      exact .inr ⟨jn,by rw[HFL.out];omega,h,by rw[if_pos (by unfold zak;omega)];exact h,decide_eq_true (by unfold zak;omega)⟩
    clear hB2 hX hk2 HFW
    go_region_held3 (fun w'=>w'.cell? ⟨B,0,none⟩=some (.slice sa sn sc)∧w'.cell? ⟨B+1,0,none⟩=some (.int .i64 r)∧w'.cell? ⟨b,o+r*2,none⟩=some (.string nm)∧w'.cell? ⟨b,o+r*2+1,none⟩=some (.slice fa fl fc)∧w'.cell? ⟨X,0,none⟩=some (.int .i64 mn)) (first|(with_reducible exact k0)|(with_reducible exact k1)|go_keep) (first|(go_at_call 86;(with_reducible refine (HBN.out).mono ?_);rintro e w4 ⟨rfl,hb4⟩;have k1:w4.cell? ⟨B,0,none⟩=some (.slice sa sn sc)∧w4.cell? ⟨B+1,0,none⟩=some (.int .i64 r)∧w4.cell? ⟨b,o+r*2,none⟩=some (.string nm)∧w4.cell? ⟨b,o+r*2+1,none⟩=some (.slice fa fl fc)∧w4.cell? ⟨X,0,none⟩=some (.int .i64 mn):=⟨zaa hb4 _ _ k0.1,zaa hb4 _ _ k0.2.1,zaa hb4 _ _ k0.2.2.1,zaa hb4 _ _ k0.2.2.2.1,zaa hb4 _ _ k0.2.2.2.2⟩))
    have HB4:Hid (Below W2.heap.size W2 w4):=(Below.refl W2.heap.size W2).drew.trans hb4
    have HXW:=hid (HX.out.below HB4.out)
    have HBA:Hid (Below W1.heap.size W1 w4):=HI.out.trans ((HB2.out.trans (HB4.out.mono HB2.out.size)).mono HI.out.size)
    clear hb4 l1' l2' lb' lx k0 l1 l2 l3 c1 c2 m0 m1 hblr hbl2 g0 g1 g2 g3 HX1 HX2 HX3
    have HX1:=hid (HK1.out.below HBA.out)
    have HX2:=hid (HK2.out.below HBA.out)
    have l1:=HX1.out.lt
    have l2:=HX2.out.lt
    have lx:=HXW.out.lt
    rcases HXC.out with ⟨hj,rfl⟩|⟨jn,hjl,hj,rfl,rfl⟩
    ·
     have HYF:Hid (y=false):=by
      have h1:=HVB.out
      rw[hst.out,if_pos (.inl hj)] at h1
      rw[Hid,HY.out,←h1];rfl
     clear HXC hj
     have x0:=HXW.out.cell 0 _ rfl
     go_wp2_with fail
     go_quiet (fail)
     go_wp2_with fail
     go_ret
     exact⟨by rw[HYF.out];rfl,zab (HB1.out.trans (HBA.out.mono HB1.out.size)) _⟩
    ·
     by_cases hle:mn≤last
     ·
      have HYF:Hid (y=false):=by
       have h1:=HVB.out
       rw[hst.out,if_pos (.inr (.inl hle))] at h1
       rw[Hid,HY.out,←h1];rfl
      clear HXC hj
      have x0:=HXW.out.cell 0 _ rfl
      go_wp2_with fail
      go_quiet (fail)
      go_wp2_with fail
      go_ret
      exact⟨by rw[HYF.out];rfl,zab (HB1.out.trans (HBA.out.mono HB1.out.size)) _⟩
     ·
      have hfa:=HFA.out
      obtain⟨b3,o3,ha3,hok,f0,f1,f2,f3,f4,f5⟩:=hfa jn hjl
      clear hfa
      obtain⟨⟨name,number,kind,rep,packed,of⟩,HFD⟩:∃ f,Hid (fs.getD jn .zero=f):=⟨_,rfl⟩
      rw[HFD.out] at f0 f1 f2 f3 f4 f5
      have HST2:Hid (zei (zbp (zae s d)) fs (M.vals x) 0=if zbp (zae s d) ⟨name,number,kind,rep,packed,of⟩ m=false then false else zei (zbp (zae s d)) fs ((M.vals x).drop (i+1)) mn):=by
       rw[Hid,←HVB.out,hst.out,hj,Int.toNat_natCast,HFD.out]
       by_cases hf:zbp (zae s d) ⟨name,number,kind,rep,packed,of⟩ m=false
       ·
        rw[if_pos (.inr (.inr hf)),if_pos hf]
       ·
        rw[if_neg hf,if_neg]
        rintro (h|h|h)
        ·
         omega
        ·
         exact hle h
        ·
         exact hf h
      have HBL:=hid (HB1.out.trans (HBA.out.mono HB1.out.size))
      have hk4:=zaa HBL.out
      replace f0:=hk4 _ _ f0
      replace f1:=hk4 _ _ f1
      replace f2:=hk4 _ _ f2
      replace f3:=hk4 _ _ f3
      replace f4:=hk4 _ _ f4
      replace f5:=hk4 _ _ f5
      have m0:=hk4 _ _ hc0
      have m1:=hk4 _ _ hc1
      have lb:b<w4.heap.size:=World.block_lt_of_cell? w4 _ m0
      have lb3:b3<w4.heap.size:=World.block_lt_of_cell? w4 _ f0
      have c1:=HX1.out.cell 0 _ rfl
      have c2:=HX2.out.cell 0 _ rfl
      have x0:=HXW.out.cell 0 _ rfl
      have x1:=HXW.out.cell 1 _ rfl
      have x2:=HXW.out.cell 2 _ rfl
      have x3:=HXW.out.cell 3 _ rfl
      have hix3:=zad Tryz.underlying62 zbW ha3 jn hjl (cap:=fc)
      have HFT:=hid (HIH.out w4.drew ⟨name,number,kind,rep,packed,of⟩ _ _ m (HS.out.below HBL.out.drew) (VMsg.below HM.out HBL.out.drew) HWM.out)
      clear ha3 hok hj HXC hk4
      obtain⟨y2,HY2⟩:∃ y2,Hid (zbp (zae s d) ⟨name,number,kind,rep,packed,of⟩ m=y2):=⟨_,rfl⟩
      rw[HY2.out] at HFT HST2
      go_wp2_with fail
      go_still_tail 19,(by kernel_rfl)
      have HB5:Hid (Below w4.heap.size w4 w4.drew):=(Below.refl _ _).drew
      have hX5:=HXW.out.below HB5.out
      have l1:B<w4.drew.heap.size:=l1
      have lx:X<w4.drew.heap.size:=lx
      change wpList _ _ _ _ _ w4.drew
      go_wp2_with fail
      refine HFT.out.mono ?_
      rintro e w5 ⟨rfl,hb5⟩
      have HB5:Hid (Below W1.heap.size W1 w5):=HBA.out.trans (((Below.refl w4.heap.size w4).drew.trans hb5).mono HBA.out.size)
      have HX5:=hid (HXW.out.below ((Below.refl w4.heap.size w4).drew.trans hb5))
      clear hb5
      cases y2 with
      | false =>
       have HYF:Hid (y=false):=by
        have h1:=HST2.out
        rw[if_pos rfl] at h1
        rw[Hid,HY.out,h1];rfl
       go_wp2_with fail
       go_ret
       exact⟨by rw[HYF.out];rfl,HB1.out.trans (HB5.out.mono HB1.out.size)⟩
      | true =>
       have x0:=HX5.out.cell 0 _ rfl
       have lx:=HX5.out.lt
       go_wp2_with fail
       go_roundw
       case rel=>exact⟨i+1,mn,by go_num,rfl,hlt,hnb,by rw[Hid,HST2.out,if_neg (by decide)],HB5.out⟩
       case measure=>simp[intOf];omega
   ·
    obtain rfl:i=vn:=by omega
    have HE:Hid (y=(M.unk x).all (zaR fs)):=by
     have h1:=HVB.out
     rw[List.drop_of_length_le (by rw[HVN.out];exact Nat.le_refl _)] at h1
     rw[Hid,HY.out,←h1];rfl
    have c3:=HX3.out.cell 1 _ rfl
    have HALL:Hid ((!(M.unk x).any fun t=> !zaR fs t)=(M.unk x).all (zaR fs)):=by rw[Hid,List.all_eq_not_any_not]
    go_wp2_with fail
    refine (zd3 (HU.out.keep (zaa HBW.out)) 94 _ (fun t=> !zaR fs t) (fun args w=>by simp[go_sem]) ?_).mono ?_
    ·
     intro z hz wr2 _ hb
     have hBB:=HBW.out.trans (hb.mono HBW.out.size)
     have:=zj8 (zaa hb _ _ c1) (zaa hb _ _ c2) (HS.out.below hBB) hr z (HWD.out.2 z hz)
     rw[←HFS.out] at this
     exact this
    ·
     rintro e w3 ⟨rfl,hb3⟩
     go_wp2_with fail
     go_ret
     exact⟨by rw[HE.out,←HALL.out];rfl,HBW.out.trans (hb3.mono HBW.out.size)⟩
theorem zem (s:List Mes):∀ d,zfE s d
 | 0=>fun _ _ _ _ _ _ h=>h.elim
 | d+1=>zhi (zj7 (zem s d))
end
section
open Go.RowKit
def zgv (s:List Mes)(d:Nat):Prop:=∀ (w:World) (root:Int) (v sv:Value) (x:M d),zaj w sv s→zac d w v x→mwt d x≤1099511627776 →
 Calls Tryz.prog 31 #[sv,.int .i64 root,v] w fun e w'=>e= .returned (.bool (zae s d root x))∧Below w.heap.size w w'
def zn6 (s:List Mes)(d:Nat):Prop:=∀ (w:World) (f:Fld) (v sv:Value) (x:Val (M d)),zaj w sv s→zat (zac d) w v x→vwt (mwt d) x≤1099511627776 →
 Calls Tryz.prog 14 #[sv,f.val,v] w fun e w'=>e= .returned (.bool (zbp (zae s d) f x))∧Below w.heap.size w w'
theorem zn7 {α:Type}(R:Int→α→Bool)(f:Fld)(x:Val α):zbp R f x =
  if (x.words.length+x.texts.length+x.subs.length=0∨1<x.words.length+x.texts.length+x.subs.length∧f.rep=false)∨zaU f.kind=false then false
  else (x.words.all fun w=>zaw f.kind&&decide (zaB f.kind w=w))&&(x.texts.all fun t=>decide (f.kind=16)||decide (f.kind=15)&&decide (zbf t=t.length))&&(x.subs.all fun y=>decide (f.kind=17)&&R f.of y):=by
 have hall:∀ {β:Type} (l:List β) (p:β→Bool),l.length≠0→(∀ a∈l,p a=false)→l.all p=false:=by
  intro β l p h1 h2
  cases l with
  | nil=>simp at h1
  | cons a t=>simp[h2 a (by simp)]
 unfold zbp
 by_cases h:x.words.length+x.texts.length+x.subs.length=0∨1<x.words.length+x.texts.length+x.subs.length∧f.rep=false
 ·
  rw[if_pos h,if_pos (.inl h)]
 ·
  rw[if_neg h]
  obtain⟨num,ws,ts,ss⟩:=x
  simp only at h ⊢
  by_cases hk:zaw f.kind=true
  ·
   have hk':1≤f.kind∧f.kind≤14:=of_decide_eq_true hk
   have hkr:zaU f.kind=true:=decide_eq_true (by omega)
   rw[if_pos hk,if_neg (by rintro (h'|h');exact h h';rw[hkr] at h';simp at h'),hk]
   by_cases h1:ts.length=0∧ss.length=0
   ·
    rw[decide_eq_true h1]
    obtain⟨h1,h2⟩:=h1
    rw[List.length_eq_zero_iff] at h1 h2
    subst h1;subst h2
    simp
   ·
    rw[decide_eq_false h1,Bool.false_and]
    rw[eq_comm,Bool.and_eq_false_iff,Bool.and_eq_false_iff]
    by_cases h2:ts.length=0
    ·
     exact .inr (hall _ _ (fun h3=>h1 ⟨h2,h3⟩) (fun a _=>by rw[decide_eq_false (by omega)];rfl))
    ·
     exact .inl (.inr (hall _ _ h2 (fun a _=>by rw[decide_eq_false (by omega),decide_eq_false (by omega)];rfl)))
  ·
   rw[if_neg hk]
   have hkf:zaw f.kind=false:=by simpa using hk
   have hk':¬ (1≤f.kind∧f.kind≤14):=of_decide_eq_false hkf
   rw[hkf]
   have hw:∀ {b c:Bool},ws.length≠0→((ws.all fun w=>false&&decide (zaB f.kind w=w))&&b&&c)=false:=by
    intro b c h1
    have:(ws.all fun w=>false&&decide (zaB f.kind w=w))=false:=hall ws _ h1 (fun _ _=>rfl)
    rw[this];rfl
   by_cases h17:f.kind=17
   ·
    rw[if_pos h17,if_neg (by rintro (h'|h');exact h h';unfold zaU at h';have:=of_decide_eq_false h';omega)]
    by_cases h1:ws.length=0∧ts.length=0
    ·
     rw[decide_eq_true h1]
     obtain⟨h1,h2⟩:=h1
     rw[List.length_eq_zero_iff] at h1 h2
     subst h1;subst h2
     simp[h17]
    ·
     rw[decide_eq_false h1,Bool.false_and]
     by_cases h2:ws.length=0
     ·
      rw[eq_comm,Bool.and_eq_false_iff,Bool.and_eq_false_iff]
      exact .inl (.inr (hall _ _ (fun h3=>h1 ⟨h2,h3⟩) (fun a _=>by rw[decide_eq_false (by omega),decide_eq_false (by omega)];rfl)))
     ·
      rw[hw h2]
   ·
    rw[if_neg h17]
    have hs:∀ {b:Bool},ss.length≠0→(b&&(ss.all fun y=>decide (f.kind=17)&&R f.of y))=false:=by
     intro b h1
     rw[hall ss _ h1 (fun _ _=>by rw[decide_eq_false h17];rfl),Bool.and_false]
    by_cases h15:f.kind=15
    ·
     rw[if_pos h15,if_neg (by rintro (h'|h');exact h h';unfold zaU at h';have:=of_decide_eq_false h';omega)]
     by_cases h1:ws.length=0∧ss.length=0
     ·
      rw[decide_eq_true h1]
      obtain⟨h1,h2⟩:=h1
      rw[List.length_eq_zero_iff] at h1 h2
      subst h1;subst h2
      simp[h15]
     ·
      rw[decide_eq_false h1,Bool.false_and]
      by_cases h2:ws.length=0
      ·
       rw[hs (fun h3=>h1 ⟨h2,h3⟩)]
      ·
       rw[hw h2]
    ·
     rw[if_neg h15]
     by_cases h16:f.kind=16
     ·
      rw[if_neg (by rintro (h'|h');exact h h';unfold zaU at h';have:=of_decide_eq_false h';omega)]
      by_cases h1:ws.length=0∧ss.length=0
      ·
       rw[decide_eq_true h1,decide_eq_true h16]
       obtain⟨h1,h2⟩:=h1
       rw[List.length_eq_zero_iff] at h1 h2
       subst h1;subst h2
       simp
      ·
       rw[decide_eq_false h1,Bool.and_false]
       by_cases h2:ws.length=0
       ·
        rw[hs (fun h3=>h1 ⟨h2,h3⟩)]
       ·
        rw[hw h2]
     ·
      rw[decide_eq_false h16,Bool.false_and,if_pos (.inr (decide_eq_false (by omega)))]
theorem zdu (num:Int)(a1 a2 a3:Option Addr)(n1 n2 n3 c1 c2 c3:Nat)(h1:n1≤140737488355328)(h2:n2≤140737488355328)(h3:n3≤140737488355328)(w:World) :
  Calls Tryz.prog 13 #[.agg #[.int .i64 num,.slice a1 n1 c1,.slice a2 n2 c2,.slice a3 n3 c3]] w fun e w'=>e= .returned (.int .i64 ((n1+n2+n3:Nat):Int))∧Below w.heap.size w w':=by
 go_enter Tryz.func13,Tryz.ntmps13
 go_wp2
 go_ret
 exact⟨zcG (zbC (by omega)),by (with_reducible repeat first|exact Below.refl _ _|refine pzA ?_ _|refine pzB ?_ _|refine zab ?_ _|refine Below.drew ?_)⟩
theorem zhj (w:World):(sizeOf 38).run Tryz.prog w= .ok 2 w:=by kernel_rfl
theorem zhk (w:World):(sizeOf 42).run Tryz.prog w= .ok 4 w:=by kernel_rfl
theorem zp7 (a b:Nat):((a:Int) == (b:Int))=decide (a=b):=by
 rw[Bool.eq_iff_iff]
 simp
 omega
theorem ziW {α:Type}(p:α→Bool)(l:List α)(k:Nat)(x:α)(h:l[k]?=some x):(l.take (k+1)).all p=((l.take k).all p&&p x):=by
 rw[List.take_add_one,h,List.all_append]
 simp
theorem zig {s:List Mes}{d:Nat}(ih:zgv s d):zn6 s d:=by
 intro w f v sv x hS h hw
 obtain⟨name,number,kind,rep,packed,of⟩:=f
 obtain⟨wv,tv,sv',rfl,hnum,hW,hT,hSu⟩:=h
 obtain⟨y,HY⟩:∃ y,Hid (y=zbp (zae s d) ⟨name,number,kind,rep,packed,of⟩ x):=⟨_,rfl⟩
 rw[←HY.out]
 have HS:=hid hS
 have HWD:=hid hW
 have HTX:=hid hT
 have HSU:=hid hSu
 have HWT:Hid (∀ z∈x.subs,mwt d z≤1099511627776):=fun z hz=>by
  have h1:=zau (mwt d) x.subs z hz
  unfold vwt at hw
  omega
 have HIH:=hid ih
 obtain⟨hwl,wa,wc,rfl,-,hwat⟩:=hW.open
 obtain⟨htl,ta,tc,rfl,-,htat⟩:=hT.open
 obtain⟨hsl,sa,sc,rfl,-,hsat⟩:=hSu.open
 obtain⟨hscl,ssa,ssc,rfl,-⟩:=hS.open
 obtain⟨wn,HWN⟩:∃ n,Hid (n=x.words.length):=⟨_,rfl⟩
 obtain⟨tn,HTN⟩:∃ n,Hid (n=x.texts.length):=⟨_,rfl⟩
 obtain⟨sn,HSN⟩:∃ n,Hid (n=x.subs.length):=⟨_,rfl⟩
 rw[←HWN.out] at HWD hwl ⊢
 rw[←HTN.out] at HTX htl ⊢
 rw[←HSN.out] at HSU hsl ⊢
 have HWA:=hid hwat
 have HTA:=hid htat
 have HSA:=hid hsat
 have HYE:Hid (y=if (wn+tn+sn=0∨1<wn+tn+sn∧rep=false)∨zaU kind=false then false
  else (x.words.all fun w=>zaw kind&&decide (zaB kind w=w))&&(x.texts.all fun t=>decide (kind=16)||decide (kind=15)&&decide (zbf t=t.length))&&(x.subs.all fun y=>decide (kind=17)&&zae s d of y)):=by
   rw[Hid,HY.out,HWN.out,HTN.out,HSN.out];exact zn7 _ _ _
 generalize x.num=num at *
 simp only[Fld.val]
 have H2:Hid (∀ W,W=((w.alloc (.cells #[.string name,.int .i64 number,.int .i64 kind,.bool rep,.bool packed,.int .i64 of] 51)).alloc (.cells #[.int .i64 num,.slice wa wn wc,.slice ta tn tc,.slice sa sn sc] 42)) →
   Blk W w.heap.size [.string name,.int .i64 number,.int .i64 kind,.bool rep,.bool packed,.int .i64 of] 51∧Blk W (w.heap.size+1) [.int .i64 num,.slice wa wn wc,.slice ta tn tc,.slice sa sn sc] 42∧Below w.heap.size w W):=by
  rintro W rfl
  refine⟨(Blk.new w _ _).alloc _,?_,((Below.refl w.heap.size w).alloc (Nat.le_refl _) _).alloc (by simp) _⟩
  have:=Blk.new (w.alloc (.cells #[.string name,.int .i64 number,.int .i64 kind,.bool rep,.bool packed,.int .i64 of] 51)) [.int .i64 num,.slice wa wn wc,.slice ta tn tc,.slice sa sn sc] 42
  rw[show (w.alloc (.cells #[.string name,.int .i64 number,.int .i64 kind,.bool rep,.bool packed,.int .i64 of] 51)).heap.size=w.heap.size+1 by simp] at this
  exact this
 clear ih hW hT hSu hS hw HY hwat htat hsat
 go_enter Tryz.func14,Tryz.ntmps14
 go_wp2_with fail
 have h2:=H2.out _ rfl
 clear H2
 obtain⟨hk1,hk2,hb1⟩:=h2
 refine (zdu num wa ta sa wn tn sn wc tc sc hwl htl hsl _).mono ?_
 rintro e w1 ⟨rfl,hb2⟩
 replace hk1:=hk1.below hb2
 replace hk2:=hk2.below hb2
 replace hb1:=hb1.trans (hb2.mono hb1.size)
 clear hb2
 have hml:Hid (∀ W:World,Calls Tryz.prog 13 #[.agg #[.int .i64 num,.slice wa wn wc,.slice ta tn tc,.slice sa sn sc]] W fun e w'=>e= .returned (.int .i64 ((wn+tn+sn:Nat):Int))∧Below W.heap.size W w'):=zdu num wa ta sa wn tn sn wc tc sc hwl htl hsl
 obtain⟨n,HNN⟩:∃ n,Hid (n=wn+tn+sn):=⟨_,rfl⟩
 have hnl:n≤1000000000000000:=by rw[HNN.out];omega
 rw[←HNN.out] at hml HYE ⊢
 by_cases h0:n=0
 ·
  have HF:Hid (y=false):=by rw[Hid,HYE.out,if_pos (.inl (.inl h0))]
  go_wp2_with fail
  go_ret
  exact⟨by rw[HF.out];rfl,hb1⟩
 by_cases hB:1<n∧rep=false
 ·
  have HF:Hid (y=false):=by rw[Hid,HYE.out,if_pos (.inl (.inr hB))]
  obtain⟨hB,rfl⟩:=hB
  have k0:=hk1.cell 3 _ rfl
  have l1:=hk1.lt
  have l2:=hk2.lt
  have x0:=hk2.cell 0 _ rfl
  have x1:=hk2.cell 1 _ rfl
  have x2:=hk2.cell 2 _ rfl
  have x3:=hk2.cell 3 _ rfl
  go_wp2_with (go_at_call 13;refine (hml.out _).mono ?_;rintro e w3 ⟨rfl,hb3⟩;replace hk1:=hk1.below hb3;have k3:=hk1.cell 3 _ rfl;have l3:=hk1.lt)
  go_ret
  exact⟨by rw[HF.out];rfl,hb1.trans (hb3.mono hb1.size)⟩
 have hr1:n=1∨(1<n∧rep=true):=by
  by_cases h:1<n
  ·
   refine .inr ⟨h,?_⟩
   cases rep
   ·
    exact absurd ⟨h,rfl⟩ hB
   ·
    rfl
  ·
   exact .inl (by omega)
 by_cases hkr:zaU kind=false
 ·
  have HF:Hid (y=false):=by rw[Hid,HYE.out,if_pos (.inr hkr)]
  have HKR:=hid hkr
  clear hkr hB
  rcases hr1 with hr1|⟨hr1,rfl⟩
  all_goals
   have l1:=hk1.lt
   have l2:=hk2.lt
   have x0:=hk2.cell 0 _ rfl
   have x1:=hk2.cell 1 _ rfl
   have x2:=hk2.cell 2 _ rfl
   have x3:=hk2.cell 3 _ rfl
   go_wp2_with (first|(go_at_call 13;refine (hml.out _).mono ?_;rintro e w3 ⟨rfl,hb3⟩;replace hk1:=hk1.below hb3;have k2:=hk1.cell 2 _ rfl;have k3:=hk1.cell 3 _ rfl;have l3:=hk1.lt)|(go_at_call 34;refine (zci kind _).mono ?_;rintro e w4 ⟨rfl,rfl⟩;rw[HKR.out]))
   go_ret
   exact⟨by rw[HF.out];rfl,hb1.trans (hb3.mono hb1.size)⟩
 ·
  have hkr':zaU kind=true:=by simpa using hkr
  have HKR:=hid hkr'
  have hnf:¬ ((n=0∨1<n∧rep=false)∨zaU kind=false):=by
   rintro ((h|h)|h)
   ·
    exact h0 h
   ·
    exact hB h
   ·
    exact hkr h
  obtain⟨c16,HC16⟩:∃ b,Hid (b=decide (kind=16)):=⟨_,rfl⟩
  obtain⟨c15,HC15⟩:∃ b,Hid (b=decide (kind=15)):=⟨_,rfl⟩
  obtain⟨c17,HC17⟩:∃ b,Hid (b=decide (kind=17)):=⟨_,rfl⟩
  obtain⟨kn,HKN⟩:∃ b,Hid (zaw kind=b):=⟨_,rfl⟩
  have HYF:Hid (y=((x.words.all fun w=>kn&&decide (zaB kind w=w))&&(x.texts.all fun t=>c16||c15&&decide (zbf t=t.length))&&(x.subs.all fun y=>c17&&zae s d of y))):=by
   rw[Hid,HYE.out,if_neg hnf,HKN.out,←HC16.out,←HC15.out,←HC17.out]
  clear HYE hnf hkr hkr' hB
  rcases hr1 with hr1|⟨hr1,rfl⟩
  all_goals
   have l1:=hk1.lt
   have l2:=hk2.lt
   have x0:=hk2.cell 0 _ rfl
   have x1:=hk2.cell 1 _ rfl
   have x2:=hk2.cell 2 _ rfl
   have x3:=hk2.cell 3 _ rfl
   go_wp2_with (first|(go_at_call 13;refine (hml.out _).mono ?_;rintro e w3 ⟨rfl,hb3⟩;replace hk1:=hk1.below hb3;have k2:=hk1.cell 2 _ rfl;have k3:=hk1.cell 3 _ rfl;have l3:=hk1.lt)|(go_at_call 34;refine (zci kind _).mono ?_;rintro e w4 ⟨rfl,rfl⟩;rw[HKR.out]))
   have HK1:=hid hk1
   have HK2:=hid (hk2.below hb3)
   have HB1:=hid (hb1.trans (hb3.mono hb1.size))
   clear hk1 hk2 hb1 hb3 x0 x1 x2 x3 l1 l2 l3 k2 k3 hml
   have hd0:((n:Int) == 0)=false:=by rw[Bool.eq_false_iff];simp;omega
   have hd1:decide (n=0)=false:=decide_eq_false h0
   try simp only[hd0]
   clear hd0 hd1
   go_loopw [7,8] (fun v7 v8 wr=>∃ (i:Nat) (b:Bool),v8= .int .i64 i∧v7= .bool b∧i≤wn∧Hid (b=(x.words.take i).all fun w=>kn&&decide (zaB kind w=w))∧Hid (Below w3.heap.size w3 wr)) (fun _ v8 _=>wn - (intOf v8).toNat)
   case atStart=>exact⟨0,true,rfl,rfl,by omega,rfl,Below.refl _ _⟩
   case round =>
    obtain⟨i,b,rfl,rfl,hi,HA,HI⟩:=hrel
    have HF1:=hid (HK1.out.below HI.out)
    have HF2:=hid (HK2.out.below HI.out)
    have HBW:=hid (HB1.out.trans (HI.out.mono HB1.out.size))
    have l1:=HF1.out.lt
    have l2:=HF2.out.lt
    have k2:=HF1.out.cell 2 _ rfl
    have x1:=HF2.out.cell 1 _ rfl
    by_cases hlt:i<wn
    ·
     have hxi:x.words[i]?=some (x.words[i]'(by rw[←HWN.out];exact hlt)):=List.getElem?_eq_getElem _
     generalize x.words[i]'(by rw[←HWN.out];exact hlt)=z at hxi
     have hwa:=HWA.out
     obtain⟨hz64,b2,o2,ha2,g0⟩:=hwa i z hxi
     clear hwa
     have hU:zgK z= .int .u64 z:=rfl
     rw[hU] at g0
     replace g0:=zaa HBW.out _ _ g0
     have hbl:b2<wr.heap.size:=World.block_lt_of_cell? wr _ g0
     have hix:=zag Tryz.underlying29 ze8 ha2 i hlt (cap:=wc)
     have HT:=hid (ziW (fun w=>kn&&decide (zaB kind w=w)) x.words i z hxi)
     rw[←HA.out] at HT
     obtain⟨cz,HCZ⟩:∃ c,Hid (c=zaB kind z):=⟨_,rfl⟩
     rw[←HCZ.out] at HT
     have HCA:Hid (kn=true→∀ W:World,Calls Tryz.prog 36 #[.int .i64 kind,.int .u64 z] W fun e w'=>e= .returned (.int .u64 cz)∧W=w'):=by
      intro h W
      rw[HCZ.out]
      exact zkI (HKN.out.trans h) z W
     clear hU ha2 hxi hz64
     cases b with
     | false =>
      go_wp2_with fail
      go_quiet (fail)
      go_wp2_with fail
      go_roundw
      case rel=>exact⟨i+1,false,by go_num,rfl,hlt,by rw[Hid,HT.out];rfl,zab HI.out _⟩
      case measure=>simp[intOf];omega
     | true =>
      cases kn with
      | false =>
       go_wp2_with fail
       go_quiet ((go_at_call 35;exact zep (by have:=zb4 kind;rw[HKN.out] at this;exact this _)))
       go_wp2_with fail
       go_roundw
       case rel=>exact⟨i+1,false,by go_num,rfl,hlt,by rw[Hid,HT.out];rfl,zab HI.out _⟩
       case measure=>simp[intOf];omega
      | true =>
       have HCB:=hid (HCA.out rfl)
       go_wp2_with fail
       go_quiet (first|(go_at_call 35;exact zep (by have:=zb4 kind;rw[HKN.out] at this;exact this _))|(go_at_call 36;exact zep (HCB.out _)))
       go_wp2_with fail
       go_roundw
       case rel=>exact⟨i+1,_,by go_num,rfl,hlt,by rw[Hid,HT.out,Bool.true_and,Bool.true_and];exact zp7 _ _,zab HI.out _⟩
       case measure=>simp[intOf];omega
    ·
     obtain rfl:i=wn:=by omega
     rw[List.take_of_length_le (by rw[HWN.out];exact Nat.le_refl _)] at HA
     have HYG:Hid (y=((b&&(x.texts.all fun t=>c16||c15&&decide (zbf t=t.length)))&&(x.subs.all fun y=>c17&&zae s d of y))):=by
      rw[Hid,HA.out];exact HYF.out
     clear HYF HA k2 hlt
     have x2:=HF2.out.cell 2 _ rfl
     go_wp2_with fail
     clear x1 x2 l1 l2
     go_loopw [7,9] (fun v7 v9 wr2=>∃ (i:Nat) (b2:Bool),v9= .int .i64 i∧v7= .bool b2∧i≤tn∧Hid (b2=(b&&(x.texts.take i).all fun t=>c16||c15&&decide (zbf t=t.length)))∧Hid (Below w3.heap.size w3 wr2)) (fun _ v9 _=>tn - (intOf v9).toNat)
     case atStart=>exact⟨0,b,rfl,rfl,by omega,by simp[Hid],HI.out⟩
     case round =>
      clear HI HF1 HF2 HBW
      obtain⟨j,b2,rfl,rfl,hj,HA,HI⟩:=hrel
      have HF1:=hid (HK1.out.below HI.out)
      have HF2:=hid (HK2.out.below HI.out)
      have HBW:=hid (HB1.out.trans (HI.out.mono HB1.out.size))
      have l1:=HF1.out.lt
      have l2:=HF2.out.lt
      have k2:=HF1.out.cell 2 _ rfl
      have x2:=HF2.out.cell 2 _ rfl
      by_cases hlt:j<tn
      ·
       have hxi:x.texts[j]?=some (x.texts[j]'(by rw[←HTN.out];exact hlt)):=List.getElem?_eq_getElem _
       generalize x.texts[j]'(by rw[←HTN.out];exact hlt)=z at hxi
       have hta:=HTA.out
       obtain⟨hzl,b3,o3,ha3,g0⟩:=hta j z hxi
       clear hta
       have hU:zbA z= .string ⟨z.toArray⟩:=rfl
       rw[hU] at g0
       replace g0:=zaa HBW.out _ _ g0
       have hbl:b3<wr.heap.size:=World.block_lt_of_cell? wr _ g0
       have hix:=zag Tryz.underlying25 zcp ha3 j hlt (cap:=tc)
       have HT:Hid ((b&&(x.texts.take (j+1)).all fun t=>c16||c15&&decide (zbf t=t.length))=(b2&&(c16||c15&&decide (zbf z=z.length)))):=by
        rw[Hid,ziW _ _ _ _ hxi,←Bool.and_assoc,←HA.out]
       obtain⟨gz,cz,wz,hcv,hbz,hby⟩:=zfh wr z hzl
       have HBZ:=hid hbz
       have HBY:=hid hby
       obtain⟨zn,HZN⟩:∃ n,Hid (n=z.length):=⟨_,rfl⟩
       rw[←HZN.out] at hcv HBY
       clear hU ha3 hxi hzl hbz hby
       cases b2 with
       | false =>
        go_wp2_with fail
        go_roundw
        case rel=>exact⟨j+1,false,by go_num,rfl,hlt,by rw[Hid,HT.out];rfl,HI.out⟩
        case measure=>simp[intOf];omega
       | true =>
        by_cases h16:kind=16
        ·
         have HE16:=hid (HC16.out.trans (decide_eq_true h16))
         subst h16
         go_wp2_with fail
         go_roundw
         case rel=>exact⟨j+1,true,by go_num,rfl,hlt,by rw[Hid,HT.out,HE16.out];rfl,HI.out⟩
         case measure=>simp[intOf];omega
        ·
         have HE16:=hid (HC16.out.trans (decide_eq_false h16))
         by_cases h15:kind=15
         ·
          have HE15:=hid (HC15.out.trans (decide_eq_true h15))
          subst h15
          go_wp2_with (go_at_call 37;refine (zkw HBY.out).mono ?_;rintro e w5 ⟨rfl,hb5⟩)
          go_roundw
          case rel=>exact⟨j+1,_,by go_num,rfl,hlt,by rw[Hid,HT.out,HE16.out,HE15.out,←HZN.out];rfl,HI.out.trans ((HBZ.out.trans (hb5.mono HBZ.out.size)).mono HI.out.size)⟩
          case measure=>simp[intOf];omega
         ·
          have HE15:=hid (HC15.out.trans (decide_eq_false h15))
          have hb16:(kind == 16)=false:=by rw[Bool.eq_false_iff];simp;exact h16
          go_wp2_with fail
          go_roundw
          case rel=>exact⟨j+1,_,by go_num,rfl,hlt,by rw[Hid,HT.out,HE16.out,HE15.out];first|rfl|exact hb16,HI.out⟩
          case measure=>simp[intOf];omega
      ·
       obtain rfl:j=tn:=by omega
       rw[List.take_of_length_le (by rw[HTN.out];exact Nat.le_refl _)] at HA
       have HYH:Hid (y=(b2&&(x.subs.all fun y=>c17&&zae s d of y))):=by
        rw[Hid,HA.out];exact HYG.out
       clear HYG HA k2 hlt
       have x3:=HF2.out.cell 3 _ rfl
       go_wp2_with fail
       clear x2 x3 l1 l2
       go_loopw [7,10] (fun v7 v10 wr2=>∃ (i:Nat) (b3:Bool),v10= .int .i64 i∧v7= .bool b3∧i≤sn∧Hid (b3=(b2&&(x.subs.take i).all fun y=>c17&&zae s d of y))∧Hid (Below w3.heap.size w3 wr2)) (fun _ v10 _=>sn - (intOf v10).toNat)
       case atStart=>exact⟨0,b2,rfl,rfl,by omega,by simp[Hid],HI.out⟩
       case round =>
        clear HI HF1 HF2 HBW
        obtain⟨q,b3,rfl,rfl,hq,HA,HI⟩:=hrel
        have HF1:=hid (HK1.out.below HI.out)
        have HF2:=hid (HK2.out.below HI.out)
        have HBW:=hid (HB1.out.trans (HI.out.mono HB1.out.size))
        have l1:=HF1.out.lt
        have l2:=HF2.out.lt
        have k2:=HF1.out.cell 2 _ rfl
        have k5:=HF1.out.cell 5 _ rfl
        have x3:=HF2.out.cell 3 _ rfl
        by_cases hlt:q<sn
        ·
         have hxi:x.subs[q]?=some (x.subs[q]'(by rw[←HSN.out];exact hlt)):=List.getElem?_eq_getElem _
         generalize x.subs[q]'(by rw[←HSN.out];exact hlt)=z at hxi
         have hsa:=HSA.out
         obtain⟨b4,o4,u1,u2,ha4,g0,g1,hM⟩:=hsa q z hxi
         clear hsa
         have hHM:=hM.below HBW.out
         have HWZ:=hid (HWT.out z (List.mem_of_getElem? hxi))
         replace g0:=zaa HBW.out _ _ g0
         replace g1:=zaa HBW.out _ _ g1
         have hbl:b4<wr.heap.size:=World.block_lt_of_cell? wr _ g0
         have hix:=zad Tryz.underlying40 zhj ha4 q hlt (cap:=sc)
         obtain⟨rz,HRZ⟩:∃ r,Hid (zae s d of z=r):=⟨_,rfl⟩
         have HT:Hid ((b2&&(x.subs.take (q+1)).all fun y=>c17&&zae s d of y)=(b3&&(c17&&rz))):=by
          rw[Hid,ziW _ _ _ _ hxi,←Bool.and_assoc,←HA.out,HRZ.out]
         have HCR:=hid (HIH.out wr.drew of _ _ z (HS.out.below HBW.out.drew) (hHM.below (Below.refl wr.heap.size wr).drew) HWZ.out)
         rw[HRZ.out] at HCR
         clear ha4 hxi hM hHM
         cases b3 with
         | false =>
          go_wp2_with fail
          go_quiet (fail)
          go_wp2_with fail
          go_roundw
          case rel=>exact⟨q+1,false,by go_num,rfl,hlt,by rw[Hid,HT.out];rfl,zab HI.out _⟩
          case measure=>simp[intOf];omega
         | true =>
          by_cases h17:kind=17
          ·
           have HE17:=hid (HC17.out.trans (decide_eq_true h17))
           subst h17
           go_wp2_with fail
           go_still_tail 15,(by kernel_rfl)
           change wpList _ _ _ _ _ wr.drew
           go_wp2_with fail
           refine HCR.out.mono ?_
           rintro e w5 ⟨rfl,hb5⟩
           go_wp2_with fail
           go_roundw
           case rel=>exact⟨q+1,_,by go_num,rfl,hlt,by rw[Hid,HT.out,HE17.out];rfl,HI.out.trans (((Below.refl wr.heap.size wr).drew.trans hb5).mono HI.out.size)⟩
           case measure=>simp[intOf];omega
          ·
           have HE17:=hid (HC17.out.trans (decide_eq_false h17))
           have hb17:(kind == 17)=false:=by rw[Bool.eq_false_iff];simp;exact h17
           go_wp2_with fail
           go_quiet (fail)
           go_wp2_with fail
           go_roundw
           case rel=>exact⟨q+1,_,by go_num,rfl,hlt,by rw[Hid,HT.out,HE17.out];first|rfl|exact hb17,zab HI.out _⟩
           case measure=>simp[intOf];omega
        ·
         obtain rfl:q=sn:=by omega
         rw[List.take_of_length_le (by rw[HSN.out];exact Nat.le_refl _)] at HA
         have HYI:Hid (y=b3):=by rw[Hid,HA.out];exact HYH.out
         clear HYH HA k2 k5 hlt
         go_wp2_with fail
         go_ret
         exact⟨by rw[HYI.out];rfl,HBW.out⟩
end
end Go.Proofs.YtdpnmdkbdibkpaaGreatDoor
