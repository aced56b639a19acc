/- darninglaw24.DiffNothing returns true. No condition. -/
import Derived.Test.YtpckoeicbjfnhaaGreatDoorY12
import Derived.Test.YtpckoeicbjfnhaaGreatDoorY32
import Derived.Test.YtpckoeicbjfnhaaGreatDoorY43
import Derived.Test.YtpckoeicbjfnhaaGreatDoorY46
import Derived.Deep.CutRange
namespace Go.Proofs.YtpckoeicbjfnhaaGreatDoor
set_option maxRecDepth 100000
set_option maxHeartbeats 16000000
section
open Go.RowKit
structure zsX (s:List Mes)(root d:Int)(a b:List UInt8)(X:List (List Int))(t:Bool)(Na Nb:List UInt8)(n1 n2 n3:Nat):Prop where
 va:(zaP s root a d).2=0
 vb:(zaP s root b d).2=0
 back:zbg s root b a d=(0,X,t)
 forms:zbg s root Na Nb d=(0,X,t)
 same:decide (Na=Nb)=(decide (X.length=0) && !t)
 la:Na.length≤1073741824
 lb:Nb.length≤1073741824
 sum:n1+n2+n3=X.length
 cnt:∀ m1 m2 m3:Nat,(zdJ s root a b d=0→(m1,m2,m3)=zcv (tof s d.toNat root.toNat a) (tof s d.toNat root.toNat b) (zaX s (d.toNat+1) (d.toNat+1) root (tof s d.toNat root.toNat a) (tof s d.toNat root.toNat b)))→m1=n1∧m2=n2∧m3=n3
 cnt2:∀ m1 m2 m3:Nat,(zdJ s root b a d=0→(m1,m2,m3)=zcv (tof s d.toNat root.toNat b) (tof s d.toNat root.toNat a) (zaX s (d.toNat+1) (d.toNat+1) root (tof s d.toNat root.toNat b) (tof s d.toNat root.toNat a)))→m1=n2∧m2=n1∧m3=n3
 codes:zdJ s root a b d=0∧zdJ s root b a d=0
theorem zod {s:List Mes}{root d:Int}{a b:List UInt8}{X:List (List Int)}{t:Bool}(h:zbg s root a b d=(0,X,t))(hla:a.length≤1500)(hlb:b.length≤1500){w:World}{vs va vb:Value}(hS:zap w vs s)(ha:zal w va a)(hb:zal w vb b) :
  ∃ n1 n2 n3,zsX s root d a b X t (zbv s d.toNat root.toNat a) (zbv s d.toNat root.toNat b) n1 n2 n3:=by
 obtain⟨v1,v2,-⟩:=zqb (by rw[h])
 obtain⟨g1,⟨g2,g3⟩,-,g4⟩:=za7 v1
 obtain⟨-,-,-,g5⟩:=za7 v2
 have hb1:zdJ s root a b d=0:=by rw[zgJ v1,v2]
 have hb2:zdJ s root b a d=0:=by rw[zgJ v2,v1]
 obtain⟨e',w',-,⟨a1,m1,c1,a2,m2,c2,b1,k1,e1,b2,k2,e2,-,-,hM⟩,-⟩:=(zi0 hS ha hb (by omega) (by omega) root d) []
 obtain⟨hM1,hM2⟩:=hM hb1
 obtain⟨p1,p2,p3,p4,p5,p6,p7⟩:=zlJ v1 v2 (by omega) (by omega) hM1 hM2
 have l1:=zcF g1 d.toNat root.toNat a (by omega) g4 (by omega)
 have l2:=zcF g1 d.toNat root.toNat b (by omega) g5 (by omega)
 rw[h] at p1 p2 p3 p4 p5 p6 p7
 have hX:zaX s (d.toNat+1) (d.toNat+1) root (tof s d.toNat root.toNat a) (tof s d.toNat root.toNat b)=X:=by
  have:=zh9 v1 v2
  rw[h] at this
  injection this with _ h2
  injection h2 with h2 _
  exact h2.symm
 have hX2:zaX s (d.toNat+1) (d.toNat+1) root (tof s d.toNat root.toNat b) (tof s d.toNat root.toNat a)=X:=by rw[zhe,hX]
 refine⟨_,_,_,v1,v2,p1,p2,p3,by omega,by omega,p7,fun m1 m2 m3 hm=>?_,fun m1 m2 m3 hm=>?_,hb1,hb2⟩
 ·
  have:=hm hb1
  rw[hX] at this
  injection this with h1 h2
  injection h2 with h2 h3
  exact⟨h1,h2,h3⟩
 ·
  have:=hm hb2
  rw[hX2] at this
  have h1:m1=(zcv (tof s d.toNat root.toNat b) (tof s d.toNat root.toNat a) X).1:=by rw[←this]
  have h2:m2=(zcv (tof s d.toNat root.toNat b) (tof s d.toNat root.toNat a) X).2.1:=by rw[←this]
  have h3:m3=(zcv (tof s d.toNat root.toNat b) (tof s d.toNat root.toNat a) X).2.2:=by rw[←this]
  exact⟨h1.trans p5,h2.trans p4,h3.trans p6⟩
theorem zhr {w:World}{vs av bv:Value}{s:List Mes}{x y:List UInt8}(hS:zap w vs s)(ha:zal w av x)(hb:zal w bv y)(root d:Int) :
  Calls Tryz.prog 6 #[vs,.int .i64 root,av,bv,.int .i64 d] w fun e w'=>e= .returned (.bool true)∧Below w.heap.size w w':=by
 have HS:=hid hS
 have HA:=hid ha
 have HB:=hid hb
 obtain⟨-,sa,sc,rfl,-⟩:=hS.open
 obtain⟨hxl,a,ac,rfl,-⟩:=ha.open
 obtain⟨hyl,b,bc,rfl,-⟩:=hb.open
 obtain⟨sn,HSN⟩:∃ n,Hid (n=s.length):=⟨_,rfl⟩
 obtain⟨nx,HNX⟩:∃ n,Hid (n=x.length):=⟨_,rfl⟩
 obtain⟨ny,HNY⟩:∃ n,Hid (n=y.length):=⟨_,rfl⟩
 rw[←HSN.out] at HS ⊢
 rw[←HNX.out] at HA hxl ⊢
 rw[←HNY.out] at HB hyl ⊢
 obtain⟨R,HR⟩:∃ R:Ending→World→Prop,Hid (R=fun e w'=>e= .returned (.bool true)∧Below w.heap.size w w'):=⟨_,rfl⟩
 rw[←HR.out]
 have HTRUE:Hid (∀ w',Below w.heap.size w w'→R (.returned (.bool true)) w'):=fun w' hb=>by rw[HR.out];exact⟨rfl,hb⟩
 have HW1:=hid fun (W:World) (hW:Below w.heap.size w W) (h1:x.length≤1073741824) (h2:y.length≤1073741824)=>zgL (HS.out.below hW) (HA.out.below hW) (HB.out.below hW) h1 h2 root d
 have HCD:=hid (zqc s root x y d)
 have HLT:=hid fun (h1:x.length≤1073741824) (h2:y.length≤1073741824)=>(zja (s:=s) (root:=root) (d:=d) h1 h2).1
 obtain⟨c1,HC1⟩:∃ c,Hid (c=zbg s root x y d):=⟨_,rfl⟩
 unfold zdI at HW1
 rw[←HC1.out] at HW1 HCD HLT
 obtain⟨e1,X,t1⟩:=c1
 simp only at HW1 HCD HLT
 clear hS ha hb HR
 go_enter Tryz.func6,Tryz.ntmps6
 go_wp2_with fail
 refine (zoc _).mono ?_
 rintro e w1 ⟨rfl,hb1⟩
 have HB1:=hid hb1
 clear hb1
 go_wp2_with fail
 refine (zqJ (HS.out.keep (zaa HB1.out))).mono ?_
 rintro e w2 ⟨⟨fw,rfl⟩,hb2⟩
 have HB2:=hid (HB1.out.trans (hb2.mono HB1.out.size))
 clear hb2
 cases fw with
 | false =>
  go_wp2_with fail
  exact HTRUE.out _ HB2.out
 | true =>
  by_cases hlong:(1500:Int)<nx+ny
  ·
   go_wp2_with fail
   exact HTRUE.out _ HB2.out
  ·
   have hlx:x.length≤1500:=by have:=HNX.out;omega
   have hly:y.length≤1500:=by have:=HNY.out;omega
   have HLL:=hid (And.intro hlx hly)
   have HO1:=hid (HW1.out w2 HB2.out (by omega) (by omega))
   have hL:=HLT.out (by omega) (by omega)
   clear hlx hly
   go_upto_region 6 with (go_at_call 16;refine HO1.out.mono ?_;rintro e w3 ⟨v3,rfl,hN3,hb3⟩;obtain⟨xa,xc,rfl⟩:∃ xa xc,v3= .slice xa X.length xc:=(by obtain⟨-,xa,xc,h,-⟩:=hN3.here.open;exact⟨xa,xc,h⟩);obtain⟨xn,HXN⟩:∃ n,Hid (n=X.length):=⟨_,rfl⟩;rw[←HXN.out] at hN3 ⊢;unfold zbF)
   obtain⟨V3,HV3⟩:∃ W,Hid (W=w3.alloc (.cells #[.slice xa xn xc] 33)):=⟨_,rfl⟩
   obtain⟨P3,HP3⟩:∃ W,Hid (W=w3.heap.size):=⟨_,rfl⟩
   rw[←HV3.out,←HP3.out]
   have hb3':Below w3.heap.size w3 V3:=by rw[HV3.out];(with_reducible repeat first|exact Below.refl _ _|refine pzA ?_ _|refine pzB ?_ _|refine zab ?_ _|refine Below.drew ?_)
   have HK3:Hid (Blk V3 P3 [.slice xa xn xc] 33):=by rw[HV3.out,HP3.out];exact Blk.new w3 [.slice xa xn xc] _
   have HX3:=hid (hN3.here.below hb3')
   have HB3:=hid (HB2.out.trans ((hb3.trans (hb3'.mono hb3.size)).mono HB2.out.size))
   rw[←HXN.out] at hL
   clear hN3 hb3 hb3' HO1 HW1 HLT
   have x0:=HK3.out.cell 0 _ rfl
   have xl:=HK3.out.lt
   have hc1:=HCD.out
   by_cases h1:e1=0
   ·
    subst h1
    obtain⟨n1,n2,n3,hNL⟩:=zod (w:=V3) HC1.out.symm HLL.out.1 HLL.out.2 (HS.out.below HB3.out) (HA.out.below HB3.out) (HB.out.below HB3.out)
    obtain⟨Na,HNA⟩:∃ N,Hid (N=zbv s d.toNat root.toNat x):=⟨_,rfl⟩
    obtain⟨Nb,HNB⟩:∃ N,Hid (N=zbv s d.toNat root.toNat y):=⟨_,rfl⟩
    rw[←HNA.out,←HNB.out] at hNL
    have HNL:=hid hNL
    have HSM:=hid (zr2 (HS.out.below HB3.out) (HA.out.below HB3.out) (HB.out.below HB3.out) (by have:=HLL.out;omega) (by have:=HLL.out;omega) root d hNL.va hNL.vb)
    rw[←HNA.out,←HNB.out,hNL.same] at HSM
    obtain⟨sm,HSMB⟩:∃ b,Hid (b=(decide (X.length=0) && !t1)):=⟨_,rfl⟩
    rw[←HSMB.out] at HSM
    have HCN:=hid fun (W:World) (hW:Below V3.heap.size V3 W)=>zkG (HS.out.below (HB3.out.trans (hW.mono HB3.out.size))) (HA.out.below (HB3.out.trans (hW.mono HB3.out.size))) (HB.out.below (HB3.out.trans (hW.mono HB3.out.size))) (by have:=HLL.out;omega) (by have:=HLL.out;omega) root d
    have HCN2:=hid fun (W:World) (hW:Below V3.heap.size V3 W)=>zkG (HS.out.below (HB3.out.trans (hW.mono HB3.out.size))) (HB.out.below (HB3.out.trans (hW.mono HB3.out.size))) (HA.out.below (HB3.out.trans (hW.mono HB3.out.size))) (by have:=HLL.out;omega) (by have:=HLL.out;omega) root d
    unfold zjk at HCN HCN2
    rw[hNL.codes.1] at HCN
    rw[hNL.codes.2] at HCN2
    have HW2:=hid fun (W:World) (hW:Below V3.heap.size V3 W)=>zgL (HS.out.below (HB3.out.trans (hW.mono HB3.out.size))) (HB.out.below (HB3.out.trans (hW.mono HB3.out.size))) (HA.out.below (HB3.out.trans (hW.mono HB3.out.size))) (by have:=HLL.out;omega) (by have:=HLL.out;omega) root d
    unfold zdI at HW2
    rw[hNL.back] at HW2
    simp only at HW2
    have HF1:=hid fun (W:World) (hW:Below V3.heap.size V3 W)=>zgQ (HS.out.below (HB3.out.trans (hW.mono HB3.out.size))) (HA.out.below (HB3.out.trans (hW.mono HB3.out.size))) (by have:=HLL.out;omega) root d hNL.va
    have HF2:=hid fun (W:World) (hW:Below V3.heap.size V3 W)=>zgQ (HS.out.below (HB3.out.trans (hW.mono HB3.out.size))) (HB.out.below (HB3.out.trans (hW.mono HB3.out.size))) (by have:=HLL.out;omega) root d hNL.vb
    rw[←HNA.out] at HF1
    rw[←HNB.out] at HF2
    have HW3:=hid fun (W:World) (u1 u2:Value) (hW:Below V3.heap.size V3 W) (hu1:zal W u1 Na) (hu2:zal W u2 Nb)=>zgL (HS.out.below (HB3.out.trans (hW.mono HB3.out.size))) hu1 hu2 hNL.la hNL.lb root d
    unfold zdI at HW3
    rw[hNL.forms] at HW3
    simp only at HW3
    have hsum:=hNL.sum
    rw[←HXN.out] at hsum
    clear hNL HNA HNB HCD hc1 HC1
    go_upto_region 9 with (go_at_call 24;refine HSM.out.mono ?_;rintro e w4 ⟨rfl,hb4⟩)
    have HB34:=hid hb4
    have HO2:=hid (HW2.out w4 HB34.out)
    clear hb4 x0 xl HSM HW2
    go_upto_region 10 with (go_at_call 16;refine HO2.out.mono ?_;rintro e w5 ⟨v5,rfl,hN5,hb5⟩;obtain⟨ya,yc,rfl⟩:∃ xa xc,v5= .slice xa X.length xc:=(by obtain⟨-,xa,xc,h,-⟩:=hN5.here.open;exact⟨xa,xc,h⟩);rw[←HXN.out] at hN5 ⊢;unfold zbF)
    obtain⟨V5,HV5⟩:∃ W,Hid (W=w5.alloc (.cells #[.slice ya xn yc] 33)):=⟨_,rfl⟩
    obtain⟨P5,HP5⟩:∃ W,Hid (W=w5.heap.size):=⟨_,rfl⟩
    rw[←HV5.out,←HP5.out]
    have hb5':Below w5.heap.size w5 V5:=by rw[HV5.out];(with_reducible repeat first|exact Below.refl _ _|refine pzA ?_ _|refine pzB ?_ _|refine zab ?_ _|refine Below.drew ?_)
    have HK5:Hid (Blk V5 P5 [.slice ya xn yc] 33):=by rw[HV5.out,HP5.out];exact Blk.new w5 [.slice ya xn yc] _
    have HY5:=hid (hN5.here.below hb5')
    have HB35:=hid (HB34.out.trans ((hb5.trans (hb5'.mono hb5.size)).mono HB34.out.size))
    have HO3:=hid (HF1.out V5 HB35.out)
    clear hN5 hb5 hb5' HO2 HF1
    go_upto_region 11 with (go_at_call 25;refine HO3.out.mono ?_;rintro e w6 ⟨v6,rfl,hO6,hb6⟩;obtain⟨a6,c6,rfl⟩:=zdT hO6)
    have HA6:=hid (hO6.bytes (by have:=HNL.out.la;omega))
    have HB56:=hid hb6
    have HB36:=hid (HB35.out.trans (hb6.mono HB35.out.size))
    have HO4:=hid (HF2.out w6 HB36.out)
    obtain⟨na,HLNA⟩:∃ n,Hid (n=Na.length):=⟨_,rfl⟩
    rw[←HLNA.out] at HA6 ⊢
    clear hO6 hb6 HO3 HF2
    go_upto_region 12 with (go_at_call 25;refine HO4.out.mono ?_;rintro e w7 ⟨v7,rfl,hO7,hb7⟩;obtain⟨a7,c7,rfl⟩:=zdT hO7)
    have HA7:=hid (hO7.bytes (by have:=HNL.out.lb;omega))
    have HB57:=hid (HB56.out.trans (hb7.mono HB56.out.size))
    have HB37:=hid (HB36.out.trans (hb7.mono HB36.out.size))
    have HO5:=hid (HW3.out w7 _ _ HB37.out (HA6.out.below hb7) HA7.out)
    obtain⟨nb,HLNB⟩:∃ n,Hid (n=Nb.length):=⟨_,rfl⟩
    rw[←HLNB.out] at HO5 ⊢
    clear hO7 hb7 HO4 HW3 HA7 HA6
    go_upto_region 13 with (go_at_call 16;refine HO5.out.mono ?_;rintro e w8 ⟨v8,rfl,hN8,hb8⟩;obtain⟨za,zc,rfl⟩:∃ xa xc,v8= .slice xa X.length xc:=(by obtain⟨-,xa,xc,h,-⟩:=hN8.here.open;exact⟨xa,xc,h⟩);rw[←HXN.out] at hN8 ⊢;unfold zbF)
    obtain⟨V8,HV8⟩:∃ W,Hid (W=w8.alloc (.cells #[.slice za xn zc] 33)):=⟨_,rfl⟩
    obtain⟨P8,HP8⟩:∃ W,Hid (W=w8.heap.size):=⟨_,rfl⟩
    rw[←HV8.out,←HP8.out]
    have hb8':Below w8.heap.size w8 V8:=by rw[HV8.out];(with_reducible repeat first|exact Below.refl _ _|refine pzA ?_ _|refine pzB ?_ _|refine zab ?_ _|refine Below.drew ?_)
    have HK8:Hid (Blk V8 P8 [.slice za xn zc] 33):=by rw[HV8.out,HP8.out];exact Blk.new w8 [.slice za xn zc] _
    have HZ8:=hid (hN8.here.below hb8')
    have HB78:=hid (hb8.trans (hb8'.mono hb8.size))
    have HB58:=hid (HB57.out.trans (HB78.out.mono HB57.out.size))
    have HB38:=hid (HB37.out.trans (HB78.out.mono HB37.out.size))
    have HO6:=hid (HCN.out V8 HB38.out)
    clear hN8 hb8 hb8' HO5 HCN
    go_upto_region 14 with (go_at_call 19;refine HO6.out.mono ?_;rintro e w9 ⟨k1,k2,k3,rfl,hb9,hc9,-⟩;rw[show ((0:Nat):Int)=0 from rfl])
    obtain⟨rfl,rfl,rfl⟩:=HNL.out.cnt k1 k2 k3 fun _=>hc9 (by first|rfl|trivial)
    have HB89:=hid hb9
    have HB39:=hid (HB38.out.trans (hb9.mono HB38.out.size))
    have HO7:=hid (HCN2.out w9 HB39.out)
    clear hb9 hc9 HO6 HCN2
    have HX9:=hid (HX3.out.below HB39.out)
    have HY9:=hid (HY5.out.below (HB58.out.trans (HB89.out.mono HB58.out.size)))
    have HZ9:=hid (HZ8.out.below HB89.out)
    have HK39:=hid (HK3.out.below HB39.out)
    have HK59:=hid (HK5.out.below (HB58.out.trans (HB89.out.mono HB58.out.size)))
    have HK89:=hid (HK8.out.below HB89.out)
    have HB09:=hid (HB3.out.trans (HB39.out.mono HB3.out.size))
    have HLEN:Hid (decide (X.length=0)=decide (xn=0)):=by rw[HXN.out];rfl
    rw[HLEN.out] at HSMB
    have e5:(((k1:Int)+k2+k3) == (xn:Int))=true:=by rw[←hsum];simp
    have q1:((k1:Int) == k1)=true:=by simp
    have q2:((k2:Int) == k2)=true:=by simp
    have q3:((k3:Int) == k3)=true:=by simp
    have q4:(t1 == t1)=true:=by simp
    have HARM:Hid (∀ W,Below w9.heap.size w9 W→Calls Tryz.prog 13 #[.slice xa xn xc,.slice ya xn yc] W fun e w'=>e= .returned (.bool true)∧zfC W w'):=fun W hW=>by
     have h:=zkr (HX9.out.below hW) (HY9.out.below hW)
     rw[decide_eq_true (rfl:X=X)] at h
     exact h
    have HARM2:Hid (∀ W,Below w9.heap.size w9 W→Calls Tryz.prog 13 #[.slice xa xn xc,.slice za xn zc] W fun e w'=>e= .returned (.bool true)∧zfC W w'):=fun W hW=>by
     have h:=zkr (HX9.out.below hW) (HZ9.out.below hW)
     rw[decide_eq_true (rfl:X=X)] at h
     exact h
    clear HX3 HY5 HZ8 HK3 HK5 HK8 HB3 HB34 HB35 HB36 HB37 HB38 HB39 HB56 HB57 HB58 HB78 HB89 HX9 HY9 HZ9
    go_wp2_with fail
    refine HO7.out.mono ?_
    rintro e w10 ⟨m1,m2,m3,rfl,hb10,hc10,-⟩
    obtain⟨rfl,rfl,rfl⟩:=HNL.out.cnt2 m1 m2 m3 fun _=>hc10 (by first|rfl|trivial)
    have HB10:=hid hb10
    have h3:=HK39.out
    have h5:=HK59.out
    have h8:=HK89.out
    have HC10:Hid (∀ W,Below w9.heap.size w9 W→W.cell? ⟨P3,0,none⟩=some (.slice xa xn xc)∧W.cell? ⟨P5,0,none⟩=some (.slice ya xn yc)∧W.cell? ⟨P8,0,none⟩=some (.slice za xn zc)∧P3<W.heap.size∧P5<W.heap.size∧P8<W.heap.size):=fun W hW =>
     ⟨(h3.below hW).cell 0 _ rfl,(h5.below hW).cell 0 _ rfl,(h8.below hW).cell 0 _ rfl,(h3.below hW).lt,(h5.below hW).lt,(h8.below hW).lt⟩
    obtain⟨a3,a5,a8,l3,l5,l8⟩:=HC10.out w10 hb10
    rw[show ((0:Nat):Int)=0 from rfl]
    clear hb10 hc10 h3 h5 h8 HO7 HK39 HK59 HK89 HNL
    clear HS HA HB HSN HNX HNY HXN HLNA HLNB HB1 HB2 HLL hlong HLEN hxl hyl
    by_cases hx0:xn=0
    ·
     subst hx0
     have e5':(((m2:Int)+m1+m3) == 0)=true:=by rw[beq_iff_eq];omega
     clear e5
     cases t1 with
     | true =>
      have hsm:=HSMB.out
      subst hsm
      go_wp2_with (first
       | (go_at_call 13;(with_reducible refine (HARM.out w10 HB10.out).mono ?_);rintro e w11 ⟨rfl,hd11⟩;have HB11:=hid (HB10.out.trans (hd11.below.mono HB10.out.size));obtain⟨a3,a5,a8,l3,l5,l8⟩:=HC10.out w11 HB11.out;clear hd11)
       | (go_at_call 13;(with_reducible refine (HARM2.out w11 HB11.out).mono ?_);rintro e w12 ⟨rfl,hd12⟩;have HB12:=hid (HB11.out.trans (hd12.below.mono HB11.out.size));obtain⟨a3,a5,a8,l3,l5,l8⟩:=HC10.out w12 HB12.out;clear hd12))
      exact HTRUE.out _ (HB09.out.trans (HB12.out.mono HB09.out.size))
     | false =>
      have hsm:=HSMB.out
      subst hsm
      go_wp2_with (first
       | (go_at_call 13;(with_reducible refine (HARM.out w10 HB10.out).mono ?_);rintro e w11 ⟨rfl,hd11⟩;have HB11:=hid (HB10.out.trans (hd11.below.mono HB10.out.size));obtain⟨a3,a5,a8,l3,l5,l8⟩:=HC10.out w11 HB11.out;clear hd11)
       | (go_at_call 13;(with_reducible refine (HARM2.out w11 HB11.out).mono ?_);rintro e w12 ⟨rfl,hd12⟩;have HB12:=hid (HB11.out.trans (hd12.below.mono HB11.out.size));obtain⟨a3,a5,a8,l3,l5,l8⟩:=HC10.out w12 HB12.out;clear hd12))
      exact HTRUE.out _ (HB09.out.trans (HB12.out.mono HB09.out.size))
    ·
     have e6:((xn:Int) == 0)=false:=by simpa using hx0
     have hsm:sm=false:=by rw[HSMB.out,decide_eq_false hx0];rfl
     subst hsm
     go_wp2_with (first
      | (go_at_call 13;(with_reducible refine (HARM.out w10 HB10.out).mono ?_);rintro e w11 ⟨rfl,hd11⟩;have HB11:=hid (HB10.out.trans (hd11.below.mono HB10.out.size));obtain⟨a3,a5,a8,l3,l5,l8⟩:=HC10.out w11 HB11.out;clear hd11)
      | (go_at_call 13;(with_reducible refine (HARM2.out w11 HB11.out).mono ?_);rintro e w12 ⟨rfl,hd12⟩;have HB12:=hid (HB11.out.trans (hd12.below.mono HB11.out.size));obtain⟨a3,a5,a8,l3,l5,l8⟩:=HC10.out w12 HB12.out;clear hd12))
     exact HTRUE.out _ (HB09.out.trans (HB12.out.mono HB09.out.size))
   ·
    have hbad:=zrS (s:=s) (root:=root) (a:=x) (b:=y) (d:=d) (by rw[←HC1.out];exact h1)
    rw[←HC1.out] at hbad
    have hx0:X=[]:=by
     injection hbad
    have hn0:xn=0:=by rw[HXN.out,hx0];rfl
    subst hn0
    have e1':((e1:Int) != 0)=true:=by simpa using h1
    have e2':((e1:Int) == 0)=false:=by simpa using h1
    clear hbad hx0
    go_wp2_with fail
    exact HTRUE.out _ HB3.out
end
end Go.Proofs.YtpckoeicbjfnhaaGreatDoor
