/- norm.field: what a field writes of its records (nfield), of contracts of norm.form for the messages in it. Bytes are at most 2^30, what is written at most 2^37. slices.DeleteFunc of views in memory of the call's own; view.those, view.Of. At most 2^40 views. -/
import Derived.Test.YtpckoeicbjfnhaaGreatDoorY43
import Derived.Deep.CutBlock
import Derived.Laws.IdiomCopy
namespace Go.Proofs.YtpckoeicbjfnhaaGreatDoor
set_option maxRecDepth 100000
set_option maxHeartbeats 16000000
section
open Go.RowKit
def zo3 (s:List Mes)(d:Nat):Prop:=∀ (w:World) (sv bv:Value) (m:Nat) (l:List UInt8),zap w sv s→m<s.length→zal w bv l→l.length≤1073741824→(zdb s d m l).2=0 →
 Calls Tryz.prog 55 #[sv,.int .i64 (m:Int),bv] w fun e w'=>∃ v',e= .returned v'∧Own w' w.heap.size v' (zbv s d m l)∧Below w.heap.size w w'
structure NF (s:List Mes)(d m:Nat)(f:Fld)(l:List UInt8)(xs:List VW)(base:Nat)(w:World)(sv ov bv v:Value)(out:List UInt8):Prop where
 of0:0≤f.of
 ofl:f.of<s.length
 num:1≤f.number∧f.number≤536870911
 ne:xs≠[]
 recs:zbz (zpr s d) f l xs
 S:zap w sv s
 O:Own w base ov out
 base:base≤w.heap.size
 B:zal w bv l
 V:zhp w v xs
 bd:∀ x∈xs,x.r.at'≤x.r.to∧x.r.to≤l.length
 thin:∀ x∈xs,zd5 x
 sum:zbt xs≤l.length
 len:l.length≤1073741824
 olen:out.length+30*zbt xs≤137438953472
theorem zlK {w wr:World}{vb vo:Nat}{xs:List VW}(h:∀ (k:Nat) (x:VW),xs[k]?=some x→∃ b o,some (⟨vb,vo,none⟩:Addr)=some ⟨b,o,none⟩∧∀ (j:Nat) (u:Value),x.cells[j]?=some u→w.cell? ⟨b,o+k*7+j,none⟩=some u)(hb:Below w.heap.size w wr){k:Nat}{x:VW}(hx:xs[k]?=some x) :
  ∀ (j:Nat) (u:Value),x.cells[j]?=some u→wr.cell? ⟨vb,vo+k*7+j,none⟩=some u:=by
 obtain⟨b,o,e,hc⟩:=h k x hx
 cases e
 exact fun j u hu=>zaa hb _ _ (hc j u hu)
theorem zqm {s:List Mes}(hs:zaw s=true){d m:Nat}{f:Fld}(hrec:∀ d',d=d'+1→zo3 s d'){l:List UInt8}{xs:List VW}{base:Nat}{w:World}{sv ov bv v:Value}{out:List UInt8}(h:NF s d m f l xs base w sv ov bv v out) :
  Calls Tryz.prog 90 #[ov,sv,f.val,bv,v] w fun e w'=>∃ v',e= .returned v'∧Own w' base v' (out++zbo s d f l xs)∧Below w.heap.size w w':=by
 have HN:=hid h
 obtain⟨-,sa,sc,rfl,-⟩:=h.S.open
 obtain⟨-,va,vcap,rfl,-⟩:=h.B.open
 obtain⟨oa,on,oc,rfl⟩:=zaS h.O
 obtain⟨xa,xc,rfl,hxl,hxc⟩:=h.V
 obtain⟨p,xl,hpx,-⟩:=zmV h.ne
 obtain⟨sn,HSN⟩:∃ n,Hid (n=s.length):=⟨_,rfl⟩
 obtain⟨ln,HLN⟩:∃ n,Hid (n=l.length):=⟨_,rfl⟩
 obtain⟨xn,HXN⟩:∃ n,Hid (n=xs.length):=⟨_,rfl⟩
 obtain⟨pn,HPN⟩:∃ n,Hid (n=p.length):=⟨_,rfl⟩
 have hxpn:xn=pn+1:=by rw[HXN.out,HPN.out,hpx,List.length_append];rfl
 have hlast:xs[pn]?=some xl:=by rw[hpx,HPN.out];simp
 rw[←HSN.out,←HLN.out,←HXN.out] at HN
 rw[←HXN.out] at hxl
 rw[←HSN.out,←HLN.out,←HXN.out]
 obtain⟨nm,HNM⟩:∃ nm:Nat,Hid (f.number=nm):=⟨f.number.toNat,by have:=h.num;show _=_;omega⟩
 have HPX:=hid hpx
 have HRE:=hid hrec
 have hlm:=hxc pn xl hlast
 obtain⟨vb,vo,haa,hvc⟩:=hlm
 subst haa
 have HXC:=hid hxc
 have n0:=hvc 0 _ rfl
 have n1:=hvc 1 _ rfl
 have n2:=hvc 2 _ rfl
 have n3:=hvc 3 _ rfl
 have n4:=hvc 4 _ rfl
 have n5:=hvc 5 _ rfl
 have n6:=hvc 6 _ rfl
 rw[Nat.add_zero] at n0
 have hbl:=h.bd xl (by rw[hpx];simp)
 have hkr:=h.recs.kind
 have HKR:=hid hkr
 have hpn1:(xn:Int) - 1=(pn:Int):=by omega
 have hpnx:pn<xn:=by omega
 obtain⟨O,HO⟩:∃ O,Hid (O=w.heap.size):=⟨_,rfl⟩
 obtain⟨W2,HW2⟩:∃ W,Hid (W=(w.alloc (.cells #[.slice oa on oc] 47)).alloc (.cells #[.string f.name,.int .i64 f.number,.int .i64 f.kind,.bool f.rep,.bool f.packed,.int .i64 f.of] 73)):=⟨_,rfl⟩
 have hb2:Below w.heap.size w W2:=by rw[HW2.out];exact ((Below.refl _ _).alloc (Nat.le_refl _) _).alloc (by simp) _
 have hz2:W2.heap.size=O+1+1:=by rw[HW2.out,HO.out];simp
 have hkO:Blk W2 O [.slice oa on oc] 47:=by rw[HW2.out,HO.out];exact (Blk.new w [.slice oa on oc] _).alloc _
 have hkF:Blk W2 (O+1) f.cells 73:=by
  have e:(w.alloc (.cells #[.slice oa on oc] 47)).heap.size=w.heap.size+1:=by simp
  rw[HW2.out,HO.out,←e]
  exact Blk.new (w.alloc (.cells #[.slice oa on oc] 47)) [.string f.name,.int .i64 f.number,.int .i64 f.kind,.bool f.rep,.bool f.packed,.int .i64 f.of] _
 have hP2:zgN base O out (.slice oa on oc) W2:=⟨hkO,h.O.below_of hb2,fun b e=>by have:=(World.ownsRow.lt h.O b e).2;rw[HO.out];omega⟩
 have m0:=zaa hb2 _ _ n0
 have m1:=zaa hb2 _ _ n1
 have m2:=zaa hb2 _ _ n2
 have m3:=zaa hb2 _ _ n3
 have m4:=zaa hb2 _ _ n4
 have m5:=zaa hb2 _ _ n5
 have m6:=zaa hb2 _ _ n6
 obtain⟨⟨x1,x2,x3,x4,x5⟩,xk,xrun⟩:=xl
 simp only at m0 m1 m2 m3 m4 m5 m6 hbl
 obtain⟨W3,HW3⟩:∃ W,Hid (W=W2.alloc (.cells #[.int .i64 x1,.int .i64 x2,.int .i64 x3,.int .i64 x4,.int .i64 x5,.int .i64 xk,.bool xrun] 212)):=⟨_,rfl⟩
 have hb3:Below W2.heap.size W2 W3:=by rw[HW3.out];exact (Below.refl _ _).alloc (Nat.le_refl _) _
 have hkL:Blk W3 (O+1+1) [.int .i64 x1,.int .i64 x2,.int .i64 x3,.int .i64 x4,.int .i64 x5,.int .i64 xk,.bool xrun] 212:=by rw[HW3.out,←hz2];exact Blk.new W2 [.int .i64 x1,.int .i64 x2,.int .i64 x3,.int .i64 x4,.int .i64 x5,.int .i64 xk,.bool xrun] _
 have HP3:=hid (hP2.later hb3)
 have HF3:=hid (hkF.below hb3)
 have HL3:=hid hkL
 have HB3:=hid (hb2.trans (hb3.mono hb2.size))
 have HZ2:=hid hz2
 have HBL:=hid hbl
 have c2:=(hkF.below hb3).cell 2 _ rfl
 have lF:=(hkF.below hb3).lt
 obtain⟨Q,HQ⟩:∃ Q:Ending→World→Prop,Hid (Q=fun e w'=>∃ v',e= .returned v'∧Own w' base v' (out++zbo s d f l xs)∧Below w.heap.size w w'):=⟨_,rfl⟩
 rw[←HQ.out]
 have HXPN:=hid hxpn
 clear hxpn h hxc hvc n0 n1 n2 n3 n4 n5 n6 hb2 hb3 hkO hkF hkL hP2 hrec hkr hpx hlast hbl
 rw[show f.val= .agg #[.string f.name,.int .i64 f.number,.int .i64 f.kind,.bool f.rep,.bool f.packed,.int .i64 f.of] from rfl]
 go_enter Tryz.func90,Tryz.ntmps90
 go_upto_region 1 with fail
 rw[←HW2.out,←HO.out]
 go_upto_region 2 with fail
 rw[←HW3.out]
 clear m0 m1 m2 m3 m4 m5 m6
 obtain⟨kw,HKW⟩:∃ kw,Hid (kw=zas f.kind):=⟨_,rfl⟩
 have HW0:=hid (zc3 f.kind W3)
 rw[HKR.out,if_pos rfl,←HKW.out] at HW0
 go_upto_region 5 with (go_at_call 126;refine HW0.out.mono ?_;rintro e W4 ⟨rfl,hb4⟩)
 have HP4:=hid (HP3.out.later hb4)
 have HF4:=hid (HF3.out.below hb4)
 have HL4:=hid (HL3.out.below hb4)
 have HB4:=hid (HB3.out.trans (hb4.mono HB3.out.size))
 have HTG2:Hid (zcg (nm:Int) 2=true):=by
  have h1:=HN.out.num
  rw[HNM.out] at h1
  show decide _=true
  exact decide_eq_true ⟨h1.1,h1.2,by omega⟩
 have HEND:Hid (∀ (wn:World) (ov':Value) (X:List UInt8),zgN base O (out++X) ov' wn→zbM O (.slice oa on oc) W4 wn→X=zbo s d f l xs→Q (.returned ov') wn):=by
  intro wn ov' X hP hS hX
  rw[HQ.out]
  refine⟨_,rfl,by rw[←hX];exact hP.own,HB4.out.trans (hS.below (by rw[HO.out];exact Nat.le_refl _) HB4.out.size)⟩
 clear c2 lF hb4 HP3 HF3 HL3 HB3 HW0 HQ
 cases hk:zac f.kind with
 | true =>
  have HK:=hid hk
  have HN0:=hid (fun W=>zaQ f.kind W)
  simp only[HK.out] at HN0
  cases hr:f.rep with
  | true =>
   have HRP:=hid hr
   have c2:=HF4.out.cell 2 _ rfl
   have c3:=HF4.out.cell 3 _ rfl
   rw[hr] at c3
   have lF:=HF4.out.lt
   clear hk hr
   go_upto_region 6 with (go_at_call 129;refine (HN0.out _).mono ?_;rintro e W5 ⟨rfl,hb5⟩;have g3:=zaa hb5 _ _ c3;have HB5:=hid hb5;clear hb5)
   have HB05:=hid (HB4.out.trans (HB5.out.mono HB4.out.size))
   have HP5:=hid (HP4.out.later HB5.out)
   have hkf5:=HF4.out.below HB5.out
   have HF5:=hid hkf5
   have hnb:=(zm6 HK.out (HN.out.B.below HB05.out) (by have:=HN.out.len;omega) (HN.out.V.keep (zaa HB05.out)) (fun x hx=>HN.out.bd x hx) (by
    have h1:=zf6 (f:=f) (l:=l) HN.out.thin
    have h2:=HN.out.sum
    have h3:=HN.out.len
    rw[show counts f xs=xs from by unfold counts;rw[if_pos HRP.out]] at h1
    omega))
   rw[show f.val= .agg #[.string f.name,.int .i64 f.number,.int .i64 f.kind,.bool f.rep,.bool f.packed,.int .i64 f.of] from rfl] at hnb
   have HNB:=hid hnb
   clear hnb
   have HKB:Hid ((zbR f.kind (xs.flatMap (zam f l))).length≤10737418240):=by
    have h1:=zf6 (f:=f) (l:=l) HN.out.thin
    have h2:=HN.out.sum
    have h3:=HN.out.len
    rw[show counts f xs=xs from by unfold counts;rw[if_pos HRP.out]] at h1
    have hp:=zeo f.kind (xs.flatMap (zam f l)) fun y hy=>by
     obtain⟨z,-,hz⟩:=List.mem_flatMap.1 hy
     exact zed hz
    show _≤_
    omega
   have HNV:Hid (zbo s d f l xs=if (zbR f.kind (xs.flatMap (zam f l))).length=0 then [] else zcj f.number 2 (zbR f.kind (xs.flatMap (zam f l)))):=zje HK.out HRP.out
   obtain⟨kp,HKP⟩:∃ kp,Hid (kp=zbR f.kind (xs.flatMap (zam f l))):=⟨_,rfl⟩
   rw[←HKP.out] at HNB HKB HNV
   obtain⟨kn,HKN⟩:∃ n,Hid (n=kp.length):=⟨_,rfl⟩
   have q0:=hkf5.cell 0 _ rfl
   have q1:=hkf5.cell 1 _ rfl
   have q2:=hkf5.cell 2 _ rfl
   have q3:=hkf5.cell 3 _ rfl
   have q4:=hkf5.cell 4 _ rfl
   have q5:=hkf5.cell 5 _ rfl
   have lF5:=hkf5.lt
   clear c2 c3 lF g3 hkf5 hpn1 hpnx
   go_upto_region 7 with (go_at_call 130;refine HNB.out.mono ?_;rintro e W6 ⟨v6,rfl,hO6,hb6⟩;obtain⟨a6,c6,rfl⟩:=zdT hO6;rw[←HKN.out])
   have HP6:=hid (HP5.out.later hb6)
   have HF6:=hid (HF5.out.below hb6)
   have HS6:Hid (zbM O (.slice oa on oc) W4 W6):=(zbM.of HB5.out).trans (ov':=.slice oa on oc) (zbM.of hb6)
   have hby:=hO6.bytes (by have:=HKB.out;omega)
   rw[←HKN.out] at hby
   have HBY:=hid hby
   clear hb6 hO6 hby q0 q1 q2 q3 q4 q5 lF5 HNB
   by_cases hkn:kn=0
   ·
    subst hkn
    have hbx:=HP6.out.box
    have b0:=hbx.cell 0 _ rfl
    have l0:=hbx.lt
    have HE:=hid (HEND.out W6 (.slice oa on oc) [] (by rw[List.append_nil];exact HP6.out) HS6.out (by rw[HNV.out,←HKN.out,if_pos rfl]))
    clear hbx
    go_wp2_with fail
    exact HE.out
   ·
    have hk0:(0:Int)<(kn:Int):=by omega
    have HPC:=hid (zgO HP6.out (Nat.le_trans HN.out.base (by have:=HB05.out.size;have:=HS6.out.size;have:=HB4.out.size;omega)) HF6.out nm 2 HNM.out HTG2.out (by have:=HN.out.olen;omega) HBY.out (by have:=HKB.out;omega) (zgF _))
    clear hkn
    go_wp2_with (go_at_call 127;refine HPC.out.mono ?_;rintro e W7 ⟨rfl,ov7,hP7,hs7⟩;obtain⟨a7,n7,c7,rfl⟩:=zaS hP7.own;have b0:=hP7.box.cell 0 _ rfl;have l0:=hP7.box.lt;have HP7:=hid hP7;have HS7:=hid hs7;clear hP7 hs7)
    exact HEND.out W7 _ _ HP7.out (HS6.out.trans HS7.out) (by rw[HNV.out,if_neg (by rw[←HKN.out];omega)];rw[HNM.out];rfl)
  | false =>
   have HRP:=hid hr
   have c2:=HF4.out.cell 2 _ rfl
   have c3:=HF4.out.cell 3 _ rfl
   rw[hr] at c3
   have lF:=HF4.out.lt
   have HTGW:Hid (zcg (nm:Int) (kw:Int)=true):=by
    have h1:=HN.out.num
    rw[HNM.out] at h1
    have h2:=zgu HK.out
    show decide _=true
    exact decide_eq_true ⟨h1.1,h1.2,by rw[HKW.out];omega⟩
   clear hk hr hpn1 hpnx
   go_upto_region 9 with (go_at_call 129;refine (HN0.out _).mono ?_;rintro e W5 ⟨rfl,hb5⟩;have g3:=zaa hb5 _ _ c3;have HB5:=hid hb5;clear hb5)
   have g2:=zaa HB5.out _ _ c2
   have gl:=(HF4.out.below HB5.out).lt
   clear c2 c3 lF g3
   go_upto_region 10 with (go_at_call 129;refine (HN0.out _).mono ?_;rintro e W6 ⟨rfl,hb6⟩;have HB6:=hid hb6;clear hb6)
   have HB46:=hid (HB5.out.trans (HB6.out.mono HB5.out.size))
   have HB06:=hid (HB4.out.trans (HB46.out.mono HB4.out.size))
   obtain⟨pa,pc,hcut,-,hby⟩:=(HN.out.B.below HB06.out.drew).cut HLN.out x4 x5 HBL.out.1 (by have:=HBL.out.2;have:=HLN.out;omega)
   obtain⟨y,HY⟩:∃ y,Hid (y=(l.drop x4).take (x5 - x4)):=⟨_,rfl⟩
   rw[←HY.out] at hby
   have HYV:Hid (y=zah l ⟨⟨x1,x2,x3,x4,x5⟩,xk,xrun⟩):=HY.out
   obtain⟨zw,HZW⟩:∃ zw,Hid (zw=zdd f.kind y):=⟨_,rfl⟩
   obtain⟨z1,z2⟩:=zw
   have HRD:=hid (zdx HK.out hby)
   rw[←HZW.out] at HRD
   have HZL:Hid (z1<2 ^ 64):=by have:=zh2 f.kind y;rw[←HZW.out] at this;exact this
   have HSP:=hid (fun W=>zjY HK.out z1 HZL.out W)
   have hkl6:=HL4.out.below HB46.out
   have hkf6:=HF4.out.below HB46.out
   have q0:=And.intro (show W6.drew.cell? ⟨O+1,2,none⟩=some (.int .i64 f.kind) from hkf6.cell 2 _ rfl) (And.intro (show W6.drew.cell? ⟨O+1+1,3,none⟩=some (.int .i64 x4) from hkl6.cell 3 _ rfl) (show W6.drew.cell? ⟨O+1+1,4,none⟩=some (.int .i64 x5) from hkl6.cell 4 _ rfl))
   have lL6:=hkl6.lt
   have lF6:=hkf6.lt
   clear g2 gl hkl6 hkf6 hby
   go_region_held3 (fun w'=>w'.cell? ⟨O+1,2,none⟩=some (.int .i64 f.kind)∧w'.cell? ⟨O+1+1,3,none⟩=some (.int .i64 x4)∧w'.cell? ⟨O+1+1,4,none⟩=some (.int .i64 x5)) (first|(with_reducible exact q0)|(with_reducible exact q1)|go_keep) (first|(go_at_call 131;(with_reducible refine HRD.out.mono ?_);rintro e W7 ⟨rfl,hb7⟩;have q1:=And.intro (zaa hb7 _ _ q0.1) (And.intro (zaa hb7 _ _ q0.2.1) (zaa hb7 _ _ q0.2.2));have HB7:=hid hb7;clear hb7))
   have HB47:Hid (Below W4.heap.size W4 W7):=zag (HB46.out.trans ((Below.refl W6.heap.size W6).drew.mono HB46.out.size)) HB7.out HB46.out.size
   have HP7:=hid (HP4.out.later HB47.out)
   have HF7:=hid (HF4.out.below HB47.out)
   have lF7:=HF7.out.lt
   have k2:=q1.1
   clear q0 q1 lL6 lF6 hcut
   go_upto_region 12 with (go_at_call 132;refine (HSP.out _).mono ?_;rintro e W8 ⟨v8,rfl,hO8,hb8⟩;obtain⟨a8,n8,c8,rfl⟩:=zaS hO8)
   have HP8:=hid (HP7.out.later hb8)
   have HF8:=hid (HF7.out.below hb8)
   have HS8:Hid (zbM O (.slice oa on oc) W4 W8):=(zbM.of HB47.out).trans (ov':=.slice oa on oc) (zbM.of hb8)
   have HKL:Hid ((zeQ f.kind z1).length≤10):=zg1 f.kind HZL.out
   have HBY:=hid (hO8.bytes (by have:=HKL.out;omega))
   have HFT:Hid (zcI (kw:Int) (zeQ f.kind z1)=true):=by rw[HKW.out];exact zgr HK.out HZL.out
   have HPC:=hid (zgO HP8.out (Nat.le_trans HN.out.base (by have:=HB4.out.size;have:=HS8.out.size;omega)) HF8.out nm kw HNM.out HTGW.out (by have:=HN.out.olen;omega) HBY.out (by have:=HKL.out;omega) HFT.out)
   clear hb8 hO8 k2 lF7
   go_wp2_with (go_at_call 127;refine HPC.out.mono ?_;rintro e W9 ⟨rfl,ov9,hP9,hs9⟩;obtain⟨a9,n9,c9,rfl⟩:=zaS hP9.own;have b0:=hP9.box.cell 0 _ rfl;have l0:=hP9.box.lt;have HP9:=hid hP9;have HS9:=hid hs9;clear hP9 hs9)
   refine HEND.out W9 _ _ HP9.out (HS8.out.trans HS9.out) ?_
   have hrc:=HN.out.recs
   rw[HPX.out] at hrc
   rw[HPX.out,zkA hrc HK.out HRP.out,←HYV.out,←HZW.out,HNM.out,HKW.out]
 | false =>
  have HK:=hid hk
  have HN0:=hid (fun W=>zaQ f.kind W)
  simp only[HK.out] at HN0
  obtain rfl:kw=2:=by rw[HKW.out];exact zoH HKR.out HK.out
  by_cases h17:f.kind=17
  ·
   have H17:=hid h17
   have h17b:(f.kind == 17)=true:=by simpa using h17
   obtain⟨o,HOF⟩:∃ o:Nat,Hid (f.of=(o:Int)):=⟨f.of.toNat,by have:=HN.out.of0;show _=_;omega⟩
   have HOL:Hid (o<sn):=by have h:=HN.out.ofl;rw[HOF.out] at h;show _<_;have:=HSN.out;omega
   have HON:Hid (f.of.toNat=o):=by have:=HOF.out;show _=_;omega
   obtain⟨d',HD,-⟩:∃ d',Hid (d=d'+1)∧True:=by
    have h1:=(HN.out.recs.sub H17.out).1
    obtain⟨x0,hx0⟩:=List.exists_mem_of_ne_nil _ HN.out.ne
    obtain⟨d',e,-⟩:=h1 x0 hx0
    exact⟨d',e,trivial⟩
   have HFO:=hid (HRE.out d' HD.out)
   have c2:=HF4.out.cell 2 _ rfl
   have c3:=HF4.out.cell 3 _ rfl
   have c5:=HF4.out.cell 5 _ rfl
   rw[HOF.out] at c5
   have lF:=HF4.out.lt
   cases hr:f.rep with
   | true =>
    have HRP:=hid hr
    rw[hr] at c3
    have HFCELL:Hid (∀ W,Below W4.heap.size W4 W→W.cell? ⟨O+1,2,none⟩=some (.int .i64 f.kind)∧W.cell? ⟨O+1,3,none⟩=some (.bool true)∧O+1<W.heap.size):=fun W hb=>⟨zaa hb _ _ c2,zaa hb _ _ c3,Nat.lt_of_lt_of_le lF hb.size⟩
    have HC5:=hid c5
    obtain⟨g,HG⟩:∃ g:VW→List UInt8,Hid (g=fun x=>zcj f.number 2 (zbv s d' o (zah l x))):=⟨_,rfl⟩
    have HSUB:Hid (∀ x∈xs,(zdb s d' o (zah l x)).2=0∧(zah l x).length≤1073741824∧(zbv s d' o (zah l x)).length≤30*(zah l x).length∧(g x).length≤30*zc9 x):=fun x hx=>by
     obtain⟨d2,e2,hv⟩:=(HN.out.recs.sub H17.out).1 x hx
     obtain rfl:d2=d':=by have:=HD.out;omega
     rw[HON.out] at hv
     have ht:=HN.out.thin x hx
     have hvl:=zbi l x
     have hs1:=zeI hx
     have h3:=HN.out.sum
     have h4:=HN.out.len
     have hnum:=HN.out.num
     unfold zd5 at ht
     have h5:=zcF hs d2 o (zah l x) (by have:=HOL.out;have:=HSN.out;omega) hv (by omega)
     have h6:=zcu (n:=f.number) (wire:=2) ⟨by omega,hnum.2⟩ (by omega) (t:=zbv s d2 o (zah l x)) (by omega)
     refine⟨hv,by omega,h5,?_⟩
     rw[HG.out]
     show (zcj f.number 2 (zbv s d2 o (zah l x))).length≤_
     omega
    have HLEN:Hid (∀ k,(out++(xs.take k).flatMap g).length≤549755813888):=fun k=>by
     have h1:=zcw g xs k
     have h2:=zcX g xs fun x hx=>(HSUB.out x hx).2.2.2
     have h5:=HN.out.olen
     rw[List.length_append]
     omega
    have HNV:Hid (zbo s d f l xs=xs.flatMap g):=by
     show _=_
     have h:=HN.out.recs
     rw[HD.out] at h ⊢
     rw[zjf h H17.out HRP.out HN.out.of0,HG.out,HON.out]
    clear hk hr h17 hpn1 hpnx
    go_upto_region 9 with (go_at_call 129;refine (HN0.out _).mono ?_;rintro e W5 ⟨rfl,hb5⟩;have HB5:=hid hb5;clear hb5)
    obtain⟨e2,e3,le⟩:=HFCELL.out _ HB5.out
    clear c2 c3 lF c5
    go_upto_region 13 with (go_at_call 129;refine (HN0.out _).mono ?_;rintro e W6 ⟨rfl,hb6⟩;have HB6:=hid hb6;clear hb6)
    have HB46:=hid (HB5.out.trans (HB6.out.mono HB5.out.size))
    have HB06:=hid (HB4.out.trans (HB46.out.mono HB4.out.size))
    obtain⟨f2,f3,lf⟩:=HFCELL.out _ HB46.out
    clear e2 e3 le
    go_upto_region 22 with fail
    clear f2 f3 lf
    go_wp2_with fail
    go_loopw [138] (fun v138 wr=>∃ k:Nat,v138= .int .i64 (k:Int)∧k≤xn∧Hid (∃ ov',zgN base O (out++(xs.take k).flatMap g) ov' wr∧zbM O (.slice oa on oc) W4 wr)) (fun v138 _=>xn - (intOf v138).toNat)
    case atStart=>exact⟨0,rfl,by omega,_,by simpa using HP4.out.later HB46.out,zbM.of HB46.out⟩
    case round =>
     obtain⟨k,rfl,hkx,HI⟩:=hrel
     obtain⟨ov',hP,hS⟩:=HI.out
     have HPk:=hid hP
     have HSk:=hid hS
     have hB0:Below w.heap.size w wr:=HB4.out.trans (hS.below (by rw[HO.out];exact Nat.le_refl _) HB4.out.size)
     obtain⟨oa',on',oc',rfl⟩:=zaS hP.own
     clear hP hS HI
     by_cases hlt:k<xn
     ·
      obtain⟨x,hx⟩:∃ x,xs[k]?=some x:=⟨_,List.getElem?_eq_getElem (by rw[←HXN.out];exact hlt)⟩
      have hvc:=zlK HXC.out hB0 hx
      have n0:=hvc 0 _ rfl
      have n1:=hvc 1 _ rfl
      have n2:=hvc 2 _ rfl
      have n3:=hvc 3 _ rfl
      have n4:=hvc 4 _ rfl
      have n5:=hvc 5 _ rfl
      have n6:=hvc 6 _ rfl
      rw[Nat.add_zero] at n0
      obtain⟨hx1,hx2⟩:=HN.out.bd x (List.mem_of_getElem? hx)
      have hsub:=HSUB.out x (List.mem_of_getElem? hx)
      have HTK:Hid ((xs.take (k+1)).flatMap g=(xs.take k).flatMap g++g x):=zfh _ hx
      have HGX:Hid (g x=zcj f.number 2 (zbv s d' o (zah l x))):=by rw[HG.out];exact Eq.refl _
      obtain⟨⟨y1,y2,y3,y4,y5⟩,yk,yrun⟩:=x
      simp only at n0 n1 n2 n3 n4 n5 n6 hx1 hx2
      obtain⟨W7,HW7⟩:∃ W,Hid (W=wr.alloc (.cells #[.int .i64 y1,.int .i64 y2,.int .i64 y3,.int .i64 y4,.int .i64 y5,.int .i64 yk,.bool yrun] 212)):=⟨_,rfl⟩
      obtain⟨VB,HVB⟩:∃ VB,Hid (VB=wr.heap.size):=⟨_,rfl⟩
      have hb7:Below wr.heap.size wr W7:=by rw[HW7.out];exact (Below.refl _ _).alloc (Nat.le_refl _) _
      have hv7:Blk W7 VB [.int .i64 y1,.int .i64 y2,.int .i64 y3,.int .i64 y4,.int .i64 y5,.int .i64 yk,.bool yrun] 212:=by rw[HW7.out,HVB.out];exact Blk.new wr [.int .i64 y1,.int .i64 y2,.int .i64 y3,.int .i64 y4,.int .i64 y5,.int .i64 yk,.bool yrun] _
      have HB07:=hid (hB0.trans (hb7.mono hB0.size))
      obtain⟨pa,pc,hcut,-,hby⟩:=(HN.out.B.below HB07.out.drew).cut HLN.out y4 y5 hx1 (by have:=HLN.out;omega)
      obtain⟨y,HY⟩:∃ y,Hid (y=(l.drop y4).take (y5 - y4)):=⟨_,rfl⟩
      rw[←HY.out] at hby
      have HYV:Hid (zah l ⟨⟨y1,y2,y3,y4,y5⟩,yk,yrun⟩=y):=HY.out.symm
      rw[HYV.out] at HGX hsub
      have HFC:=hid (HFO.out W7.drew _ _ o y (HN.out.S.below HB07.out.drew) (by have:=HOL.out;have:=HSN.out;omega) hby hsub.2.1 hsub.1)
      have HFL:Hid ((zbv s d' o y).length≤549755813888):=by have:=hsub.2.2.1;have:=hsub.2.1;show _≤_;omega
      have HP7:Hid (zgN base O (out++(xs.take k).flatMap g) (.slice oa' on' oc') W7.drew):=(HPk.out.later hb7).later (Below.refl _ _).drew
      have HS7:Hid (zbM O (.slice oa on oc) W4 W7.drew):=(HSk.out.trans (ov':=.slice oa on oc) (zbM.of hb7)).trans (ov':=.slice oa on oc) (zbM.of (Below.refl _ _).drew)
      have HF7:=hid (HS7.out.blk HF4.out (by omega))
      have hvd:=hv7.below (Below.refl _ _).drew
      have HVO:Hid (VB≠O):=by have:=HP7.out.box.lt;have h:=HPk.out.box.lt;show _≠_;rw[HVB.out];omega
      have q0:=And.intro (show W7.drew.cell? ⟨O+1,5,none⟩=some (.int .i64 (o:Int)) from HS7.out.cell (by omega) HC5.out) (And.intro (show W7.drew.cell? ⟨VB,3,none⟩=some (.int .i64 y4) from hvd.cell 3 _ rfl) (show W7.drew.cell? ⟨VB,4,none⟩=some (.int .i64 y5) from hvd.cell 4 _ rfl))
      have lV:=hvd.lt
      have lF7:=HF7.out.lt
      have lV':VB<W7.heap.size:=hv7.lt
      have lF7':O+1<W7.heap.size:=lF7
      clear hvc hx hb7 hv7 hvd hby hB0 hsub
      go_upto_region 25 with fail
      rw[←HW7.out,←HVB.out]
      clear n0 n1 n2 n3 n4 n5 n6
      go_region_held3 (fun w'=>w'.cell? ⟨O+1,5,none⟩=some (.int .i64 (o:Int))∧w'.cell? ⟨VB,3,none⟩=some (.int .i64 y4)∧w'.cell? ⟨VB,4,none⟩=some (.int .i64 y5)) (first|(with_reducible exact q0)|(with_reducible exact q1)|(with_reducible exact q2)|go_keep) (first
       | (go_at_call 55;(with_reducible refine HFC.out.mono ?_);rintro e W8 ⟨v8,rfl,hO8,hb8⟩;obtain⟨a8,n8,c8,rfl⟩:=zaS hO8;have q1:=And.intro (zaa hb8 _ _ q0.1) (And.intro (zaa hb8 _ _ q0.2.1) (zaa hb8 _ _ q0.2.2));have HB8:=hid hb8;have HPC:=hid (zm5 (HP7.out.later hb8) (Nat.le_trans HN.out.base (by have:=HB07.out.drew.size;have:=hb8.size;omega)) (HF7.out.below hb8) nm HNM.out HTG2.out (HLEN.out k) (hO8.bytes (by have:=HFL.out;omega)) (by have:=HFL.out;omega));clear hb8 hO8)
       | (go_at_call 127;(with_reducible refine HPC.out.mono ?_);rintro e W9 ⟨rfl,ov9,hP9,hs9⟩;obtain⟨a9,n9,c9,rfl⟩:=zaS hP9.own;have q2:=And.intro (hs9.cell (by omega) q1.1) (And.intro (hs9.cell HVO.out q1.2.1) (hs9.cell HVO.out q1.2.2));have HP9:=hid hP9;have HS9:=hid hs9;clear hP9 hs9))
      have HE:Hid (zgN base O (out++(xs.take (k+1)).flatMap g) (.slice a9 n9 c9) W9∧zbM O (.slice oa on oc) W4 W9):=by
       refine⟨?_,(HS7.out.trans (ov':=.slice oa on oc) (zbM.of HB8.out)).trans HS9.out⟩
       have h:=HP9.out
       rw[HTK.out,←List.append_assoc,HGX.out]
       exact h
      clear q0 q1 q2
      go_wp2_with fail
      go_roundw
      case rel=>exact⟨k+1,by go_num,by omega,_,HE.out⟩
      case measure=>simp[intOf];omega
     ·
      obtain rfl:k=xn:=by omega
      have hbx:=HPk.out.box
      have b0:=hbx.cell 0 _ rfl
      have l0:=hbx.lt
      have HE:=hid (HEND.out wr (.slice oa' on' oc') _ HPk.out HSk.out (by rw[HXN.out,List.take_length];exact HNV.out.symm))
      clear hbx hB0
      go_wp2_with fail
      exact HE.out
   | false =>
    have HRP:=hid hr
    rw[hr] at c3
    have HFCELL:Hid (∀ W,Below W4.heap.size W4 W→W.cell? ⟨O+1,2,none⟩=some (.int .i64 f.kind)∧W.cell? ⟨O+1,3,none⟩=some (.bool false)∧W.cell? ⟨O+1,5,none⟩=some (.int .i64 (o:Int))∧O+1<W.heap.size):=fun W hb=>⟨zaa hb _ _ c2,zaa hb _ _ c3,zaa hb _ _ c5,Nat.lt_of_lt_of_le lF hb.size⟩
    have HNV:Hid (zbo s d f l xs=zcj f.number 2 (zbv s d' o (xs.flatMap (zah l)))∧(zdb s d' o (xs.flatMap (zah l))).2=0∧(xs.flatMap (zah l)).length≤1073741824∧(zbv s d' o (xs.flatMap (zah l))).length≤549755813888):=by
     have h:=HN.out.recs
     obtain⟨d2,e2,hv⟩:=(h.sub H17.out).2 HRP.out HN.out.ne
     obtain rfl:d2=d':=by have:=HD.out;omega
     rw[HD.out] at h
     rw[HON.out] at hv
     have h1:=zhm (l:=l) HN.out.thin
     have h3:=HN.out.sum
     have h4:=HN.out.len
     have h5:=zcF hs d2 o (xs.flatMap (zah l)) (by have:=HOL.out;have:=HSN.out;omega) hv (by omega)
     refine⟨?_,hv,by omega,by omega⟩
     rw[HD.out,zkB h H17.out HRP.out HN.out.ne HN.out.of0,HON.out]
    have HALLL:Hid (∀ k,((xs.take k).flatMap (zah l)).length≤1073741824):=fun k=>by
     have h1:=zcw (zah l) xs k
     have:=HNV.out.2.2.1
     omega
    clear hk hr h17 hpn1 hpnx
    go_upto_region 9 with (go_at_call 129;refine (HN0.out _).mono ?_;rintro e W5 ⟨rfl,hb5⟩;have HB5:=hid hb5;clear hb5)
    obtain⟨e2,e3,-,le⟩:=HFCELL.out _ HB5.out
    clear c2 c3 lF c5
    go_upto_region 13 with (go_at_call 129;refine (HN0.out _).mono ?_;rintro e W6 ⟨rfl,hb6⟩;have HB6:=hid hb6;clear hb6)
    have HB46:=hid (HB5.out.trans (HB6.out.mono HB5.out.size))
    have HB06:=hid (HB4.out.trans (HB46.out.mono HB4.out.size))
    obtain⟨f2,f3,-,lf⟩:=HFCELL.out _ HB46.out
    clear e2 e3 le
    go_upto_region 15 with fail
    clear f2 f3 lf
    go_wp2_with fail
    go_loopw [20,109] (fun v20 v109 wr=>∃ (k:Nat) (ba:Option Addr) (bn bc:Nat),v109= .int .i64 (k:Int)∧v20= .slice ba bn bc∧k≤xn∧Hid (Own wr W4.heap.size (.slice ba bn bc) ((xs.take k).flatMap (zah l))∧Below W4.heap.size W4 wr)) (fun _ v109 _=>xn - (intOf v109).toNat)
    case atStart=>exact⟨0,none,0,0,rfl,rfl,by omega,zfZ _ _,HB46.out⟩
    case round =>
     obtain⟨k,ba,bn,bc,rfl,rfl,hkx,HI⟩:=hrel
     have hB0:Below w.heap.size w wr:=HB4.out.trans (HI.out.2.mono HB4.out.size)
     by_cases hlt:k<xn
     ·
      obtain⟨x,hx⟩:∃ x,xs[k]?=some x:=⟨_,List.getElem?_eq_getElem (by rw[←HXN.out];exact hlt)⟩
      have hvc:=zlK HXC.out hB0 hx
      have n0:=hvc 0 _ rfl
      have n1:=hvc 1 _ rfl
      have n2:=hvc 2 _ rfl
      have n3:=hvc 3 _ rfl
      have n4:=hvc 4 _ rfl
      have n5:=hvc 5 _ rfl
      have n6:=hvc 6 _ rfl
      rw[Nat.add_zero] at n0
      obtain⟨hx1,hx2⟩:=HN.out.bd x (List.mem_of_getElem? hx)
      have HTK:Hid ((xs.take (k+1)).flatMap (zah l)=(xs.take k).flatMap (zah l)++zah l x):=zfh _ hx
      obtain⟨⟨y1,y2,y3,y4,y5⟩,yk,yrun⟩:=x
      simp only at n0 n1 n2 n3 n4 n5 n6 hx1 hx2
      obtain⟨W7,HW7⟩:∃ W,Hid (W=wr.alloc (.cells #[.int .i64 y1,.int .i64 y2,.int .i64 y3,.int .i64 y4,.int .i64 y5,.int .i64 yk,.bool yrun] 212)):=⟨_,rfl⟩
      obtain⟨VB,HVB⟩:∃ VB,Hid (VB=wr.heap.size):=⟨_,rfl⟩
      have hb7:Below wr.heap.size wr W7:=by rw[HW7.out];exact (Below.refl _ _).alloc (Nat.le_refl _) _
      have hv7:Blk W7 VB [.int .i64 y1,.int .i64 y2,.int .i64 y3,.int .i64 y4,.int .i64 y5,.int .i64 yk,.bool yrun] 212:=by rw[HW7.out,HVB.out];exact Blk.new wr [.int .i64 y1,.int .i64 y2,.int .i64 y3,.int .i64 y4,.int .i64 y5,.int .i64 yk,.bool yrun] _
      have HB07:=hid (hB0.trans (hb7.mono hB0.size))
      obtain⟨pa,pc,hcut,-,hby⟩:=(HN.out.B.below HB07.out).cut HLN.out y4 y5 hx1 (by have:=HLN.out;omega)
      obtain⟨y,HY⟩:∃ y,Hid (y=(l.drop y4).take (y5 - y4)):=⟨_,rfl⟩
      rw[←HY.out] at hby
      have HYV:Hid (zah l ⟨⟨y1,y2,y3,y4,y5⟩,yk,yrun⟩=y):=HY.out.symm
      rw[HYV.out] at HTK
      have HYL:Hid (y.length≤1073741824):=by have h:=HN.out.len;show _≤_;rw[HY.out,List.length_take,List.length_drop];omega
      have hO7:=HI.out.1.below_of hb7
      have hB47:=HI.out.2.trans (hb7.mono HI.out.2.size)
      obtain⟨v8,w8,hr8,hO8,hg8,-⟩:=zbh hO7 hby (by have:=HALLL.out k;have:=HYL.out;omega) (by have:=hB47.size;omega)
      obtain⟨a8,n8,c8,rfl⟩:=zaS hO8
      have HR8:=hid hr8
      have HE8:Hid (Own w8 W4.heap.size (.slice a8 n8 c8) ((xs.take (k+1)).flatMap (zah l))∧Below W4.heap.size W4 w8):=⟨by rw[HTK.out];exact hO8,hB47.grown hg8 hB47.size fun q e=>(World.ownsRow.lt hO7 q e).1⟩
      have d3:=hv7.cell 3 _ rfl
      have d4:=hv7.cell 4 _ rfl
      have lV:=hv7.lt
      clear hvc hx hb7 hv7 hby hB0 hO7 hB47 hr8 hO8 hg8 HI
      go_upto_region 18 with fail
      rw[←HW7.out,←HVB.out]
      clear n0 n1 n2 n3 n4 n5 n6
      go_wp2_with (at_builtin;refine zad rfl _ _ _ rfl _ _ rfl rfl HR8.out ?_)
      go_roundw
      case rel=>exact⟨k+1,_,_,_,by go_num,rfl,by omega,HE8.out⟩
      case measure=>simp[intOf];omega
     ·
      obtain rfl:k=xn:=by omega
      have hO:=HI.out.1
      rw[HXN.out,List.take_length] at hO
      obtain⟨-,-,g5,lg⟩:=HFCELL.out _ HI.out.2
      have HFC:=hid (HFO.out wr _ _ o _ (HN.out.S.below hB0) (by have:=HOL.out;have:=HSN.out;omega) (hO.bytes (by have:=HNV.out.2.2.1;omega)) HNV.out.2.2.1 HNV.out.2.1)
      have HPr:=hid (HP4.out.later HI.out.2)
      have HFr:=hid (HF4.out.below HI.out.2)
      have HBr:=hid HI.out.2
      have HBs:Hid (base≤wr.heap.size):=Nat.le_trans HN.out.base hB0.size
      clear hO hB0 HI
      go_wp2_with (first
       | (go_at_call 55;refine HFC.out.mono ?_;rintro e W8 ⟨v8,rfl,hO8,hb8⟩;obtain⟨a8,n8,c8,rfl⟩:=zaS hO8;have HB8:=hid hb8;have HPC:=hid (zm5 (HPr.out.later hb8) (Nat.le_trans HBs.out hb8.size) (HFr.out.below hb8) nm HNM.out HTG2.out (by have:=HN.out.olen;omega) (hO8.bytes (by have:=HNV.out.2.2.2;omega)) (by have:=HNV.out.2.2.2;omega));clear hb8 hO8)
       | (go_at_call 127;refine HPC.out.mono ?_;rintro e W9 ⟨rfl,ov9,hP9,hs9⟩;obtain⟨a9,n9,c9,rfl⟩:=zaS hP9.own;have b0:=hP9.box.cell 0 _ rfl;have l0:=hP9.box.lt;have HP9:=hid hP9;have HS9:=hid hs9;clear hP9 hs9))
      exact HEND.out W9 _ _ HP9.out (((zbM.of HBr.out).trans (ov':=.slice oa on oc) (zbM.of HB8.out)).trans HS9.out) HNV.out.1.symm
  ·
   have H17:=hid h17
   have h17b:(f.kind == 17)=false:=by simpa using h17
   cases hr:f.rep with
   | true =>
    have HRP:=hid hr
    have c2:=HF4.out.cell 2 _ rfl
    have c3:=HF4.out.cell 3 _ rfl
    rw[hr] at c3
    have lF:=HF4.out.lt
    have HFCELL:Hid (∀ W,Below W4.heap.size W4 W→W.cell? ⟨O+1,2,none⟩=some (.int .i64 f.kind)∧W.cell? ⟨O+1,3,none⟩=some (.bool true)∧O+1<W.heap.size):=fun W hb=>⟨zaa hb _ _ c2,zaa hb _ _ c3,Nat.lt_of_lt_of_le lF hb.size⟩
    have HLEN:Hid (∀ k,(out++(xs.take k).flatMap (fun x=>zcj f.number 2 (zah l x))).length≤549755813888):=fun k=>by
     have h1:=zcw (fun x=>zcj f.number 2 (zah l x)) xs k
     have h2:=zcX (fun x=>zcj f.number 2 (zah l x)) xs fun x hx=>by
      have ht:=HN.out.thin x hx
      have hv:=zbi l x
      have hs:=zeI hx
      have h3:=HN.out.sum
      have h4:=HN.out.len
      have hnum:=HN.out.num
      unfold zd5 at ht
      have:=zcu (n:=f.number) (wire:=2) ⟨by omega,hnum.2⟩ (by omega) (t:=zah l x) (by omega)
      omega
     have h5:=HN.out.olen
     rw[List.length_append]
     omega
    clear hk hr h17 hpn1 hpnx
    go_upto_region 9 with (go_at_call 129;refine (HN0.out _).mono ?_;rintro e W5 ⟨rfl,hb5⟩;have HB5:=hid hb5;clear hb5)
    obtain⟨e2,e3,le⟩:=HFCELL.out _ HB5.out
    clear c2 c3 lF
    go_upto_region 13 with (go_at_call 129;refine (HN0.out _).mono ?_;rintro e W6 ⟨rfl,hb6⟩;have HB6:=hid hb6;clear hb6)
    have HB46:=hid (HB5.out.trans (HB6.out.mono HB5.out.size))
    have HB06:=hid (HB4.out.trans (HB46.out.mono HB4.out.size))
    obtain⟨f2,f3,lf⟩:=HFCELL.out _ HB46.out
    clear e2 e3 le
    go_upto_region 28 with fail
    clear f2 f3 lf
    go_wp2_with fail
    go_loopw [163] (fun v163 wr=>∃ k:Nat,v163= .int .i64 (k:Int)∧k≤xn∧Hid (∃ ov',zgN base O (out++(xs.take k).flatMap (fun x=>zcj f.number 2 (zah l x))) ov' wr∧zbM O (.slice oa on oc) W4 wr)) (fun v163 _=>xn - (intOf v163).toNat)
    case atStart=>exact⟨0,rfl,by omega,_,by simpa using HP4.out.later HB46.out,zbM.of HB46.out⟩
    case round =>
     obtain⟨k,rfl,hkx,HI⟩:=hrel
     obtain⟨ov',hP,hS⟩:=HI.out
     have HPk:=hid hP
     have HSk:=hid hS
     have hB0:Below w.heap.size w wr:=HB4.out.trans (hS.below (by rw[HO.out];exact Nat.le_refl _) HB4.out.size)
     obtain⟨oa',on',oc',rfl⟩:=zaS hP.own
     clear hP hS HI
     by_cases hlt:k<xn
     ·
      obtain⟨x,hx⟩:∃ x,xs[k]?=some x:=⟨_,List.getElem?_eq_getElem (by rw[←HXN.out];exact hlt)⟩
      have hvc:=zlK HXC.out hB0 hx
      have n0:=hvc 0 _ rfl
      have n1:=hvc 1 _ rfl
      have n2:=hvc 2 _ rfl
      have n3:=hvc 3 _ rfl
      have n4:=hvc 4 _ rfl
      have n5:=hvc 5 _ rfl
      have n6:=hvc 6 _ rfl
      rw[Nat.add_zero] at n0
      obtain⟨hx1,hx2⟩:=HN.out.bd x (List.mem_of_getElem? hx)
      have HTK:Hid ((xs.take (k+1)).flatMap (fun x=>zcj f.number 2 (zah l x))=(xs.take k).flatMap (fun x=>zcj f.number 2 (zah l x))++zcj f.number 2 (zah l x)):=zfh _ hx
      obtain⟨⟨y1,y2,y3,y4,y5⟩,yk,yrun⟩:=x
      simp only at n0 n1 n2 n3 n4 n5 n6 hx1 hx2
      obtain⟨W7,HW7⟩:∃ W,Hid (W=wr.alloc (.cells #[.int .i64 y1,.int .i64 y2,.int .i64 y3,.int .i64 y4,.int .i64 y5,.int .i64 yk,.bool yrun] 212)):=⟨_,rfl⟩
      obtain⟨VB,HVB⟩:∃ VB,Hid (VB=wr.heap.size):=⟨_,rfl⟩
      have hb7:Below wr.heap.size wr W7:=by rw[HW7.out];exact (Below.refl _ _).alloc (Nat.le_refl _) _
      have hv7:Blk W7 VB [.int .i64 y1,.int .i64 y2,.int .i64 y3,.int .i64 y4,.int .i64 y5,.int .i64 yk,.bool yrun] 212:=by rw[HW7.out,HVB.out];exact Blk.new wr [.int .i64 y1,.int .i64 y2,.int .i64 y3,.int .i64 y4,.int .i64 y5,.int .i64 yk,.bool yrun] _
      have HB07:=hid (hB0.trans (hb7.mono hB0.size))
      obtain⟨pa,pc,hcut,-,hby⟩:=(HN.out.B.below HB07.out).cut HLN.out y4 y5 hx1 (by have:=HLN.out;omega)
      obtain⟨y,HY⟩:∃ y,Hid (y=(l.drop y4).take (y5 - y4)):=⟨_,rfl⟩
      rw[←HY.out] at hby
      have HYV:Hid (zah l ⟨⟨y1,y2,y3,y4,y5⟩,yk,yrun⟩=y):=HY.out.symm
      rw[HYV.out] at HTK
      have HYL:Hid (y.length≤1073741824):=by have h:=HN.out.len;show _≤_;rw[HY.out,List.length_take,List.length_drop];omega
      have HP7:=hid (HPk.out.later hb7)
      have HS7:Hid (zbM O (.slice oa on oc) W4 W7):=HSk.out.trans (ov':=.slice oa on oc) (zbM.of hb7)
      have HF7:=hid (HS7.out.blk HF4.out (by omega))
      have d3:=hv7.cell 3 _ rfl
      have d4:=hv7.cell 4 _ rfl
      have lV:=hv7.lt
      have HPC:=hid (zgO HP7.out (Nat.le_trans HN.out.base HB07.out.size) HF7.out nm 2 HNM.out HTG2.out (HLEN.out k) hby (by have:=HYL.out;omega) (zgF _))
      clear hvc hx hb7 hv7 hby hB0
      go_upto_region 31 with fail
      rw[←HW7.out,←HVB.out]
      clear n0 n1 n2 n3 n4 n5 n6
      go_wp2_with (go_at_call 127;refine HPC.out.mono ?_;rintro e W9 ⟨rfl,ov9,hP9,hs9⟩;obtain⟨a9,n9,c9,rfl⟩:=zaS hP9.own;have HP9:=hid hP9;have HS9:=hid hs9;clear hP9 hs9)
      go_roundw
      case rel=>exact⟨k+1,by go_num,by omega,_,by rw[HTK.out,←List.append_assoc,HNM.out];have h:=HP9.out;rw[HNM.out] at h;exact h,HS7.out.trans HS9.out⟩
      case measure=>simp[intOf];omega
     ·
      obtain rfl:k=xn:=by omega
      have hbx:=HPk.out.box
      have b0:=hbx.cell 0 _ rfl
      have l0:=hbx.lt
      have HE:=hid (HEND.out wr (.slice oa' on' oc') _ HPk.out HSk.out (by rw[HXN.out,List.take_length];exact (zhI HN.out.recs HK.out H17.out HRP.out).symm))
      clear hbx hB0
      go_wp2_with fail
      exact HE.out
   | false =>
    have HRP:=hid hr
    have c2:=HF4.out.cell 2 _ rfl
    have c3:=HF4.out.cell 3 _ rfl
    rw[hr] at c3
    have lF:=HF4.out.lt
    have HFCELL:Hid (∀ W,Below W4.heap.size W4 W→W.cell? ⟨O+1,2,none⟩=some (.int .i64 f.kind)∧W.cell? ⟨O+1,3,none⟩=some (.bool false)∧O+1<W.heap.size):=fun W hb=>⟨zaa hb _ _ c2,zaa hb _ _ c3,Nat.lt_of_lt_of_le lF hb.size⟩
    clear hk hr h17 hpn1 hpnx
    go_upto_region 9 with (go_at_call 129;refine (HN0.out _).mono ?_;rintro e W5 ⟨rfl,hb5⟩;have HB5:=hid hb5;clear hb5)
    obtain⟨e2,e3,le⟩:=HFCELL.out _ HB5.out
    clear c2 c3 lF
    go_upto_region 13 with (go_at_call 129;refine (HN0.out _).mono ?_;rintro e W6 ⟨rfl,hb6⟩;have HB6:=hid hb6;clear hb6)
    have HB46:=hid (HB5.out.trans (HB6.out.mono HB5.out.size))
    have HB06:=hid (HB4.out.trans (HB46.out.mono HB4.out.size))
    obtain⟨f2,f3,lf⟩:=HFCELL.out _ HB46.out
    clear e2 e3 le
    obtain⟨pa,pc,hcut,-,hby⟩:=(HN.out.B.below HB06.out).cut HLN.out x4 x5 HBL.out.1 (by have:=HBL.out.2;have:=HLN.out;omega)
    obtain⟨y,HY⟩:∃ y,Hid (y=(l.drop x4).take (x5 - x4)):=⟨_,rfl⟩
    rw[←HY.out] at hby
    have HYV:Hid (y=zah l ⟨⟨x1,x2,x3,x4,x5⟩,xk,xrun⟩):=HY.out
    have HYL:Hid (y.length≤1073741824):=by have h:=HN.out.len;show _≤_;rw[HY.out,List.length_take,List.length_drop];omega
    have HP6:=hid (HP4.out.later HB46.out)
    have HF6:=hid (HF4.out.below HB46.out)
    have hkl6:=HL4.out.below HB46.out
    have d3:=hkl6.cell 3 _ rfl
    have d4:=hkl6.cell 4 _ rfl
    have lL:=hkl6.lt
    have HPC:=hid (zgO HP6.out (Nat.le_trans HN.out.base HB06.out.size) HF6.out nm 2 HNM.out HTG2.out (by have:=HN.out.olen;omega) hby (by have:=HYL.out;omega) (zgF _))
    clear hby hkl6
    go_wp2_with (go_at_call 127;refine HPC.out.mono ?_;rintro e W9 ⟨rfl,ov9,hP9,hs9⟩;obtain⟨a9,n9,c9,rfl⟩:=zaS hP9.own;have b0:=hP9.box.cell 0 _ rfl;have l0:=hP9.box.lt;have HP9:=hid hP9;have HS9:=hid hs9;clear hP9 hs9)
    refine HEND.out W9 _ _ HP9.out ((zbM.of HB46.out).trans HS9.out) ?_
    have hrc:=HN.out.recs
    rw[HPX.out] at hrc
    rw[HPX.out,zjg hrc HK.out H17.out HRP.out,←HYV.out,HNM.out]
    rfl
end
section
open Go.RowKit
def zlL (w:World)(base:Nat)(v:Value)(l:List VW):Prop:=w.ownsRow base 212 7 v l.length (l.flatMap VW.cells)
theorem zqn {l:List VW}:∀ {rows:List (List Value)},rows.length=l.length→(∀ (i:Nat) (r:List Value) (x:VW),rows[i]?=some r→l[i]?=some x→r=x.cells)→rows.flatten=l.flatMap VW.cells:=by
 induction l with
 | nil=>intro rows h _;rw[List.eq_nil_of_length_eq_zero h];rfl
 | cons x t ih =>
  intro rows h hr
  match rows,h with
  | r::rs,h =>
   rw[List.flatten_cons,List.flatMap_cons,hr 0 r x rfl rfl,ih (by simpa using h) fun i r' x' h1 h2=>hr (i+1) r' x' (by simpa using h1) (by simpa using h2)]
theorem zrZ {w:World}{base:Nat}{v:Value}{l:List VW}(h:zaf znz 212 7 0 base w v l):zlL w base v l:=by
 obtain⟨rows,h1,h2,h3,h4⟩:=h
 unfold zlL
 rw[←zqn h1 fun i r x hr hx=>h4 w (fun _ _ _ _=>rfl) i r x hr hx]
 exact h3
theorem zjm {w:World}{base:Nat}{v:Value}{l:List VW}(h:zlL w base v l):zaf znz 212 7 0 base w v l:=by
 refine⟨l.map VW.cells,by simp,?_,?_,fun _ _ i r x hr hx=>?_⟩
 ·
  intro r hr
  obtain⟨x,-,rfl⟩:=List.mem_map.1 hr
  rfl
 ·
  rw[←List.flatMap_def];exact h
 ·
  rw[List.getElem?_map,hx] at hr
  exact (Option.some.inj hr).symm
theorem zlL.below_of {w w':World}{base:Nat}{v:Value}{l:List VW}(h:zlL w base v l)(hb:Below w.heap.size w w'):zlL w' base v l:=
 zaL h fun b _cur _ he=>hb.block b (Array.getElem?_eq_some_iff.1 he).1
theorem zlL.form {w:World}{base:Nat}{v:Value}{l:List VW}(h:zlL w base v l):∃ a c,v= .slice a l.length c:=(zjm h).form
end
end Go.Proofs.YtpckoeicbjfnhaaGreatDoor
