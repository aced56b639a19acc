/- darninglaw24.DiffTrees returns true. The meanings weigh at most 2^38 each. -/
import Derived.Test.YtpckoeicbjfnhaaGreatDoorZ12
import Derived.Test.YtpckoeicbjfnhaaGreatDoorZ14
import Derived.Test.YtpckoeicbjfnhaaGreatDoorZ32
import Derived.Test.YtpckoeicbjfnhaaGreatDoorZ35
import Derived.Test.YtpckoeicbjfnhaaGreatDoorZ38
import Derived.Test.YtpckoeicbjfnhaaGreatDoorZ41
namespace Go.Proofs.YtpckoeicbjfnhaaGreatDoor
set_option maxRecDepth 100000
set_option maxHeartbeats 16000000
section
open Go.RowKit
theorem ziC {s:List Mes}{root:Int}{a b:Nat}{x:M a}{y:M b}:(zbw s root a b x y).1=zb2 s root a b x y:=by
 unfold zbw zb2
 split
 ·
  rfl
 ·
  split
  ·
   rfl
  ·
   split <;> rfl
theorem zls {s:List Mes}{root:Int}{a b:Nat}{x:M a}{y:M b}(h:zb2 s root a b x y≠0):zbw s root a b x y=(zb2 s root a b x y,[],false):=by
 unfold zbw zb2 at *
 split
 ·
  simp_all
 ·
  split
  ·
   simp_all
  ·
   split
   ·
    simp_all
   ·
    simp_all
theorem zmw {s:List Mes}{root:Int}{a b:Nat}{x:M a}{y:M b}(h:(zbw s root a b x y).1=0):zar s=true∧zak s a root x=true∧zak s b root y=true∧zbw s root a b x y=(0,za4 s a b root x y,!zit a b x y):=by
 unfold zbw at *
 split
 ·
  rename_i h1;rw[if_pos h1] at h;cases h
 ·
  rename_i h1
  rw[if_neg h1] at h
  split
  ·
   rename_i h2;rw[if_pos h2] at h;cases h
  ·
   rename_i h2
   rw[if_neg h2] at h
   split
   ·
    rename_i h3;rw[if_pos h3] at h;cases h
   ·
    rename_i h3
    have h4:(zak s a root x&&zak s b root y)=true:=by simpa using h3
    rw[Bool.and_eq_true] at h4
    exact⟨by simpa using h1,h4.1,h4.2,rfl⟩
theorem zid {w:World}{vs vx vy:Value}{s:List Mes}{d e:Nat}{x:M d}{y:M e}(hS:zal w vs s)(root:Int)(hx:zan d w vx x)(hy:zan e w vy y)(hwx:mwt d x≤274877906944)(hwy:mwt e y≤274877906944) :
  Calls Tryz.prog 3 #[vs,.int .i64 root,vx,vy] w fun e' w'=>e'= .returned (.bool true)∧Below w.heap.size w w':=by
 have HS:=hid hS
 have HX:=hid hx
 have HY:=hid hy
 have HWX:=hid hwx
 have HWY:=hid hwy
 obtain⟨xa,xn,xc,ua,un,uc,rfl⟩:=hx.form
 obtain⟨ya,yn,yc,ub,um,ud,rfl⟩:=hy.form
 obtain⟨-,sa,sc,rfl,-⟩:=hS.open
 obtain⟨sn,HSN⟩:∃ n,Hid (n=s.length):=⟨_,rfl⟩
 rw[←HSN.out] at HS ⊢
 obtain⟨R,HR⟩:∃ R:Ending→World→Prop,Hid (R=fun e w'=>e= .returned (.bool true)∧Below w.heap.size w w'):=⟨_,rfl⟩
 rw[←HR.out]
 have HTRUE:Hid (∀ w',Below w.heap.size w w'→R (.returned (.bool true)) w'):=fun w' hb=>by rw[HR.out];exact⟨rfl,hb⟩
 obtain⟨B,HB⟩:∃ B,Hid (B=w.heap.size):=⟨_,rfl⟩
 obtain⟨W0,HW0⟩:∃ W,Hid (W=((w.alloc (.cells #[.slice xa xn xc,.slice ua un uc] 27)).alloc (.cells #[.slice ya yn yc,.slice ub um ud] 27))):=⟨_,rfl⟩
 have hb0:Below w.heap.size w W0:=by rw[HW0.out];(with_reducible repeat first|exact Below.refl _ _|refine pzA ?_ _|refine pzB ?_ _|refine zab ?_ _|refine Below.drew ?_)
 have hk0:Blk W0 B [.slice xa xn xc,.slice ua un uc] 27:=by rw[HW0.out,HB.out];exact (Blk.new w [.slice xa xn xc,.slice ua un uc] _).alloc _
 have hk1:Blk W0 (B+1) [.slice ya yn yc,.slice ub um ud] 27:=by rw[HW0.out,HB.out];exact Blk.new' _ [.slice ya yn yc,.slice ub um ud] _ _ (by simp)
 have HBK:=hid (And.intro hk0 hk1)
 have HB0:=hid hb0
 obtain⟨z,HZ⟩:∃ z,Hid (z=szM 71 d x):=⟨_,rfl⟩
 have hz:z≤5000+1099511627776:=by
  rw[HZ.out]
  exact Nat.le_trans (zoW 71 d x) (by omega)
 obtain⟨z2,HZ2⟩:∃ z,Hid (z=szM 71 e y):=⟨_,rfl⟩
 have hz2:z2≤5000+1099511627776:=by
  rw[HZ2.out]
  exact Nat.le_trans (zoW 71 e y) (by omega)
 clear hS hx hy hwx hwy hb0 hk0 hk1 HR
 go_enter Tryz.func3,Tryz.ntmps3
 go_upto_region 1 with fail
 rw[←HW0.out,←HB.out]
 go_wp2_with fail
 refine (zmt _).mono ?_
 rintro e' w1 ⟨rfl,hb1⟩
 have HB1:=hid hb1
 have HB01:=hid (HB0.out.trans (hb1.mono HB0.out.size))
 clear hb1
 go_wp2_with fail
 refine (zoT (HS.out.keep (zaa HB01.out))).mono ?_
 rintro e' w2 ⟨⟨fw,rfl⟩,hb2⟩
 have HB2:=hid (HB01.out.trans (hb2.mono HB01.out.size))
 have HB02:=hid (HB1.out.trans (hb2.mono HB1.out.size))
 clear hb2
 have hkx:=HBK.out.1.below HB02.out
 have x0:=hkx.cell 0 _ rfl
 have x1:=hkx.cell 1 _ rfl
 have xl:=hkx.lt
 clear hkx
 cases fw with
 | false =>
  go_wp2_with fail
  exact HTRUE.out _ HB2.out
 | true =>
  have HSX:Hid (∀ W,Below w.heap.size w W→Calls Tryz.prog 9 #[.agg #[.slice xa xn xc,.slice ua un uc],.int .i64 70] W fun e w'=>e= .returned (.int .i64 (z:Int))∧Below W.heap.size W w'):=fun W hW=>by
   rw[HZ.out]
   exact ziW 71 d (by omega) W _ x (HX.out.below hW) (by have:=HWX.out;omega)
  have HSY:Hid (∀ W,Below w.heap.size w W→Calls Tryz.prog 9 #[.agg #[.slice ya yn yc,.slice ub um ud],.int .i64 70] W fun e w'=>e= .returned (.int .i64 (z2:Int))∧Below W.heap.size W w'):=fun W hW=>by
   rw[HZ2.out]
   exact ziW 71 e (by omega) W _ y (HY.out.below hW) (by have:=HWY.out;omega)
  by_cases hl1:(2000:Int)<z
  ·
   go_wp2_with (go_at_call 9;refine (HSX.out w2 HB2.out).mono ?_;rintro e' w3 ⟨rfl,hb3⟩;have HB3:=hid (HB2.out.trans (hb3.mono HB2.out.size));clear hb3)
   exact HTRUE.out _ HB3.out
  ·
   by_cases hl2:(2000:Int)<z2
   ·
    go_wp2_with (first
     | (go_at_call 9;(with_reducible refine (HSX.out w2 HB2.out).mono ?_);rintro e' w3 ⟨rfl,hb3⟩;have HB3:=hid (HB2.out.trans (hb3.mono HB2.out.size));have HB03:=hid (HB02.out.trans (hb3.mono HB02.out.size));have hky:=HBK.out.2.below HB03.out;have y0:=hky.cell 0 _ rfl;have y1:=hky.cell 1 _ rfl;have yl:=hky.lt;clear hb3 hky)
     | (go_at_call 9;(with_reducible refine (HSY.out w3 HB3.out).mono ?_);rintro e' w4 ⟨rfl,hb4⟩;have HB4:=hid (HB3.out.trans (hb4.mono HB3.out.size));clear hb4))
    exact HTRUE.out _ HB4.out
   ·
    go_upto_region 5 with (first
     | (go_at_call 9;(with_reducible refine (HSX.out w2 HB2.out).mono ?_);rintro e' w3 ⟨rfl,hb3⟩;have HB3:=hid (HB2.out.trans (hb3.mono HB2.out.size));have HB03:=hid (HB02.out.trans (hb3.mono HB02.out.size));have hky:=HBK.out.2.below HB03.out;have y0:=hky.cell 0 _ rfl;have y1:=hky.cell 1 _ rfl;have yl:=hky.lt;clear hb3 hky)
     | (go_at_call 9;(with_reducible refine (HSY.out w3 HB3.out).mono ?_);rintro e' w4 ⟨rfl,hb4⟩;have HB4:=hid (HB3.out.trans (hb4.mono HB3.out.size));have HB04:=hid (HB03.out.trans (hb4.mono HB03.out.size));clear hb4))
    clear x0 x1 xl y0 y1 yl HSX HSY HB1 HB01 HB2 HB02 HB3 HB03
    have hkx:=HBK.out.1.below HB04.out
    have hky:=HBK.out.2.below HB04.out
    have x0:=hkx.cell 0 _ rfl
    have x1:=hkx.cell 1 _ rfl
    have xl:=hkx.lt
    have y0:=hky.cell 0 _ rfl
    have y1:=hky.cell 1 _ rfl
    have yl:=hky.lt
    clear hkx hky
    obtain⟨c,HC⟩:∃ c,Hid (c=zbw s root d e x y):=⟨_,rfl⟩
    have HT:=hid (zjo (HS.out.below HB4.out) root (HX.out.below HB4.out) (HY.out.below HB4.out) (by have h1:=HWX.out;have h2:=HWY.out;omega))
    rw[←HC.out] at HT
    obtain⟨code,ws,st⟩:=c
    unfold zeE at HT
    go_upto_region 6 with (go_at_call 10;refine HT.out.mono ?_;rintro e' w5 ⟨v5,rfl,hN5,hb5⟩;obtain⟨la,lc,rfl⟩:∃ la lc,v5= .slice la ws.length lc:=(by obtain⟨-,la,lc,h,-⟩:=hN5.here.open;exact⟨la,lc,h⟩);obtain⟨ln,HLN⟩:∃ n,Hid (n=ws.length):=⟨_,rfl⟩;rw[←HLN.out] at hN5 ⊢;unfold zby)
    obtain⟨V5,HV5⟩:∃ W,Hid (W=w5.alloc (.cells #[.slice la ln lc] 33)):=⟨_,rfl⟩
    obtain⟨P5,HP5⟩:∃ W,Hid (W=w5.heap.size):=⟨_,rfl⟩
    rw[←HV5.out,←HP5.out]
    have hb5':Below w5.heap.size w5 V5:=by rw[HV5.out];(with_reducible repeat first|exact Below.refl _ _|refine pzA ?_ _|refine pzB ?_ _|refine zab ?_ _|refine Below.drew ?_)
    have HK5:Hid (Blk V5 P5 [.slice la ln lc] 33):=by rw[HV5.out,HP5.out];exact Blk.new w5 [.slice la ln lc] _
    have HN5:=hid (hN5.here.below hb5')
    have HB45:=hid (hb5.trans (hb5'.mono hb5.size))
    have HB5:=hid (HB4.out.trans (HB45.out.mono HB4.out.size))
    have HB05:=hid (HB04.out.trans (HB45.out.mono HB04.out.size))
    have HXC:Hid (∀ W,Below V5.heap.size V5 W→W.cell? ⟨B,0,none⟩=some (.slice xa xn xc)∧W.cell? ⟨B,1,none⟩=some (.slice ua un uc)∧W.cell? ⟨B+1,0,none⟩=some (.slice ya yn yc)∧W.cell? ⟨B+1,1,none⟩=some (.slice ub um ud)):=fun W hW=>by
     have h1:=HBK.out.1.below (HB05.out.trans (hW.mono HB05.out.size))
     have h2:=HBK.out.2.below (HB05.out.trans (hW.mono HB05.out.size))
     exact⟨h1.cell 0 _ rfl,h1.cell 1 _ rfl,h2.cell 0 _ rfl,h2.cell 1 _ rfl⟩
    clear hN5 hb5 hb5' HT x0 x1 xl y0 y1 yl
    refine zic (fun w'=>Below V5.heap.size V5 w') 6 ⟨4,12,[.slice none 0 0,.slice none 0 0],39⟩ ⟨5,13,[.slice none 0 0,.slice none 0 0],39⟩ [(0,0),(2,0),(1,1),(3,1)] [(6,2,0),(7,2,0)] (by kernel_rfl) rfl rfl rfl (by kernel_rfl) (fun _ _ dst _ _ h=>by cases dst <;> exact h) ⟨_,rfl,rfl,rfl,fun a w=>by kernel_rfl⟩ ⟨_,rfl,rfl,rfl,fun a w=>by kernel_rfl⟩ (by decide) (fun w w' h hb=>h.trans (hb.mono h.size)) V5.heap.size (fun w h=>h.size) (Below.refl _ _).drew (fun OPS _=>?_)
    simp only[List.map_cons,List.map_nil,List.filterMap_cons,List.filterMap_nil,List.getElem?_cons_succ,List.getElem?_cons_zero]
    refine⟨.agg #[.slice xa xn xc,.slice ua un uc],fun u u2 w hw=>?_,?_⟩
    ·
     obtain⟨c0,c1,c2,c3⟩:=HXC.out w hw
     unfold zg3
     simp only[Act.put,pzC,pzD,pzE]
     go_simp
     all_goals rfl
    simp only[Act.put,pzC,pzD,pzE]
    refine⟨.agg #[.slice ya yn yc,.slice ub um ud],fun u u2 w hw=>?_,?_⟩
    ·
     obtain⟨c0,c1,c2,c3⟩:=HXC.out w hw
     unfold zg3
     simp only[Act.put,pzC,pzD,pzE]
     go_simp
     all_goals rfl
    simp only[Act.put,pzC,pzD,pzE]
    intro u u2 w6 hV6 K HKK
    have HOF1:=hid (zgj V5 d w6 _ x (HX.out.below HB5.out) hV6 (by have:=HWX.out;omega))
    have HV6:=hid hV6
    clear hV6
    unfold zg3
    simp only[Act.put,pzC,pzD,pzE]
    go_wp2_with fail
    refine HOF1.out.mono ?_
    rintro e' w7 ⟨v7,rfl,hb7,hm7⟩
    obtain⟨p1,q1,r1,p2,q2,r2,rfl⟩:=hm7.here.form
    go_wp2_with fail
    refine HKK.out (.agg #[.slice p1 q1 r1,.slice p2 q2 r2]) w7 (fun W=>Below V5.heap.size V5 W∧w7.heap.size≤W.heap.size∧ze6 V5.heap.size w6.heap.size w7.heap.size W (fun W2=>zan d W2 (.agg #[.slice p1 q1 r1,.slice p2 q2 r2]) x)) (fun W W' h hb=>⟨h.1.trans (hb.mono h.1.size),Nat.le_trans h.2.1 hb.size,h.2.2.below h.1.size h.2.1 hb⟩) (fun W h=>h.1) (fun W h=>h.2.1) ⟨HV6.out.trans (hb7.mono HV6.out.size),Nat.le_refl _,znd hm7⟩ hb7 ?_
    simp only[Act.put,pzC,pzD,pzE]
    clear HOF1 HV6 hb7 hm7 HKK
    intro u u2 w8 hV8 K HKK
    have HV8:=hid hV8
    have HOF2:=hid (zgj V5 e w8 _ y (HY.out.below HB5.out) hV8.1 (by have:=HWY.out;omega))
    clear hV8
    unfold zg3
    simp only[Act.put,pzC,pzD,pzE]
    go_wp2_with fail
    refine HOF2.out.mono ?_
    rintro e' w9 ⟨v9,rfl,hb9,hm9⟩
    obtain⟨p3,q3,r3,p4,q4,r4,rfl⟩:=hm9.here.form
    go_wp2_with fail
    refine HKK.out (.agg #[.slice p3 q3 r3,.slice p4 q4 r4]) w9 (fun W=>Below V5.heap.size V5 W∧w9.heap.size≤W.heap.size∧w7.heap.size≤W.heap.size∧ze6 V5.heap.size w6.heap.size w7.heap.size W (fun W2=>zan d W2 (.agg #[.slice p1 q1 r1,.slice p2 q2 r2]) x)∧ze6 V5.heap.size w8.heap.size w9.heap.size W (fun W2=>zan e W2 (.agg #[.slice p3 q3 r3,.slice p4 q4 r4]) y)) (fun W W' h hb=>⟨h.1.trans (hb.mono h.1.size),Nat.le_trans h.2.1 hb.size,Nat.le_trans h.2.2.1 hb.size,h.2.2.2.1.below h.1.size h.2.2.1 hb,h.2.2.2.2.below h.1.size h.2.1 hb⟩) (fun W h=>⟨h.1,h.2.2.1,h.2.2.2.1⟩) (fun W h=>h.2.1) ⟨HV8.out.1.trans (hb9.mono HV8.out.1.size),Nat.le_refl _,Nat.le_trans HV8.out.2.1 hb9.size,HV8.out.2.2.below HV8.out.1.size HV8.out.2.1 hb9,znd hm9⟩ hb9 ?_
    simp only[Act.put,pzC,pzD,pzE]
    clear HOF2 HV8 hb9 hm9 HKK
    intro P1 P2 w10 hV10 hne hP1 hP2 hR1 hR2 hk1 hk2
    unfold zg3 zrG
    simp only[Act.put,pzC,pzD,pzE]
    have hV11:(fun W=>Below V5.heap.size V5 W∧w9.heap.size≤W.heap.size∧w7.heap.size≤W.heap.size∧ze6 V5.heap.size w6.heap.size w7.heap.size W (fun W2=>zan d W2 (.agg #[.slice p1 q1 r1,.slice p2 q2 r2]) x)∧ze6 V5.heap.size w8.heap.size w9.heap.size W (fun W2=>zan e W2 (.agg #[.slice p3 q3 r3,.slice p4 q4 r4]) y)) ((w10.setCell ⟨P1,0,none⟩ (.slice p1 q1 r1)).setCell ⟨P1,1,none⟩ (.slice p2 q2 r2)):=
     ⟨(hV10.1.setCell hP1 _).setCell hP1 _,by simpa using hV10.2.1,by simpa using hV10.2.2.1,(hV10.2.2.2.1.set hP1 (hR1 (w6.heap.size,w7.heap.size) (by simp)) _).set hP1 (hR1 (w6.heap.size,w7.heap.size) (by simp)) _,(hV10.2.2.2.2.set hP1 (hR1 (w8.heap.size,w9.heap.size) (by simp)) _).set hP1 (hR1 (w8.heap.size,w9.heap.size) (by simp)) _⟩
    have HV11:=hid hV11
    have c0:=hk1.cell 0 _ rfl
    have c1:=hk1.cell 1 _ rfl
    have f0:=hk1.free 0
    have f1:=hk1.free 1
    have l1:=hk1.lt
    obtain⟨W11,HW11⟩:∃ W,Hid (W=(w10.setCell ⟨P1,0,none⟩ (.slice p1 q1 r1)).setCell ⟨P1,1,none⟩ (.slice p2 q2 r2)):=⟨_,rfl⟩
    have hk1':Blk W11 P1 [.slice p1 q1 r1,.slice p2 q2 r2] 39:=by rw[HW11.out];exact (hk1.set 0 (.slice p1 q1 r1)).set 1 (.slice p2 q2 r2)
    have hk2':Blk W11 P2 [.slice none 0 0,.slice none 0 0] 39:=by rw[HW11.out];exact Blk.set_other (Blk.set_other hk2 _ _ (fun h=>hne h.symm)) _ _ (fun h=>hne h.symm)
    rw[←HW11.out] at HV11
    obtain⟨W12,HW12⟩:∃ W,Hid (W=(W11.setCell ⟨P2,0,none⟩ (.slice p3 q3 r3)).setCell ⟨P2,1,none⟩ (.slice p4 q4 r4)):=⟨_,rfl⟩
    have hk3:Blk W12 P2 [.slice p3 q3 r3,.slice p4 q4 r4] 39:=by rw[HW12.out];exact (hk2'.set 0 (.slice p3 q3 r3)).set 1 (.slice p4 q4 r4)
    have hk4:Blk W12 P1 [.slice p1 q1 r1,.slice p2 q2 r2] 39:=by rw[HW12.out];exact Blk.set_other (Blk.set_other hk1' _ _ hne) _ _ hne
    have hV12:(fun W=>Below V5.heap.size V5 W∧w9.heap.size≤W.heap.size∧w7.heap.size≤W.heap.size∧ze6 V5.heap.size w6.heap.size w7.heap.size W (fun W2=>zan d W2 (.agg #[.slice p1 q1 r1,.slice p2 q2 r2]) x)∧ze6 V5.heap.size w8.heap.size w9.heap.size W (fun W2=>zan e W2 (.agg #[.slice p3 q3 r3,.slice p4 q4 r4]) y)) W12:=by
     have h:=HV11.out
     rw[HW12.out]
     exact⟨(h.1.setCell hP2 _).setCell hP2 _,by simpa using h.2.1,by simpa using h.2.2.1,(h.2.2.2.1.set hP2 (hR2 (w6.heap.size,w7.heap.size) (by simp)) _).set hP2 (hR2 (w6.heap.size,w7.heap.size) (by simp)) _,(h.2.2.2.2.set hP2 (hR2 (w8.heap.size,w9.heap.size) (by simp)) _).set hP2 (hR2 (w8.heap.size,w9.heap.size) (by simp)) _⟩
    have HV12:=hid hV12
    have HK34:=hid (And.intro hk4 hk3)
    have HK2':=hid hk2'
    clear hV11 hV12 hk1 hk2 hk1' hk2' hk3 hk4 hR1 hR2 hV10 hP1 hP2 hne
    refine seqH2 (fun K12 HK12=>?_)
    go_wp2_with fail
    rw[←HW11.out]
    refine HK12.out _ _ HV11.out ?_
    clear HK12 K12 c0 c1 f0 f1 l1
    intro _
    have c0:=HK2'.out.cell 0 _ rfl
    have c1:=HK2'.out.cell 1 _ rfl
    have f0:=HK2'.out.free 0
    have f1:=HK2'.out.free 1
    have l1:=HK2'.out.lt
    refine seqH2 (fun K12 HK12=>?_)
    go_wp2_with fail
    rw[←HW12.out]
    refine HK12.out _ _ HV12.out ?_
    clear HK12 K12 c0 c1 f0 f1 l1
    intro _
    refine zkf ?_
    obtain⟨hB512,-,-,hKX,hKY⟩:=HV12.out
    have HMX:=hid hKX.here
    have HMY:=hid hKY.here
    have HB12:=hid (HB5.out.trans (hB512.mono HB5.out.size))
    have HBV:=hid hB512
    clear hB512 hKX hKY HV12 HV11 HK2' HW12 HW11
    have c0:=HK34.out.1.cell 0 _ rfl
    have c1:=HK34.out.1.cell 1 _ rfl
    have cl:=HK34.out.1.lt
    have e0:=HK34.out.2.cell 0 _ rfl
    have e1:=HK34.out.2.cell 1 _ rfl
    have el:=HK34.out.2.lt
    obtain⟨W13,HW13⟩:∃ W,Hid (W=W12.alloc (.cells #[.slice p1 q1 r1,.slice p2 q2 r2,.slice p3 q3 r3,.slice p4 q4 r4] 39)):=⟨_,rfl⟩
    obtain⟨G,HG⟩:∃ G,Hid (G=W12.heap.size):=⟨_,rfl⟩
    have hb13:Below W12.heap.size W12 W13:=by rw[HW13.out];(with_reducible repeat first|exact Below.refl _ _|refine pzA ?_ _|refine pzB ?_ _|refine zab ?_ _|refine Below.drew ?_)
    have hg:Blk W13 G [.slice p1 q1 r1,.slice p2 q2 r2,.slice p3 q3 r3,.slice p4 q4 r4] 39:=by rw[HW13.out,HG.out];exact Blk.new W12 [.slice p1 q1 r1,.slice p2 q2 r2,.slice p3 q3 r3,.slice p4 q4 r4] _
    have HB013:=hid (HB12.out.trans (hb13.mono HB12.out.size))
    have HMAY:=hid (zos (HS.out.below HB013.out) root (HMX.out.below hb13) (HMY.out.below hb13) (by have:=HWX.out;omega) (by have:=HWY.out;omega) (hg.cell 0 _ rfl) (hg.cell 1 _ rfl) (hg.cell 2 _ rfl) (hg.cell 3 _ rfl))
    obtain⟨mc,HMC⟩:∃ m,Hid (m=zb2 s root d e x y):=⟨_,rfl⟩
    rw[←HMC.out] at HMAY
    have HCODE:Hid (code=mc):=by
     have h1:=ziC (s:=s) (root:=root) (x:=x) (y:=y)
     rw[←HC.out,←HMC.out] at h1
     exact h1
    have hmc:mc≤12:=by
     rw[HMC.out];unfold zb2
     split
     ·
      omega
     ·
      split
      ·
       omega
      ·
       split <;> omega
    have HB1213:=hid hb13
    clear hb13 hg
    go_upto_region 7 with fail
    go_upto_region 8 with (go_at_call 12;rw[←HW13.out,←HG.out];refine HMAY.out.mono ?_;rintro e' w14 ⟨rfl,hb14⟩)
    clear c0 c1 cl e0 e1 el
    have HB14:=hid (HB013.out.trans (hb14.mono HB013.out.size))
    have HB1214:=hid (HB1213.out.trans (hb14.mono HB1213.out.size))
    have HK5':=hid (HK5.out.below (HBV.out.trans (HB1214.out.mono HBV.out.size)))
    have x0:=HK5'.out.cell 0 _ rfl
    have xl:=HK5'.out.lt
    clear hb14
    have hcm:=HCODE.out
    subst hcm
    by_cases hm:code=0
    ·
     subst hm
     obtain⟨g1,g2,g3,g4⟩:=zmw (by rw[←HC.out])
     rw[←HC.out] at g4
     obtain⟨hws,hst⟩:ws=za4 s d e root x y∧st= !zit d e x y:=by
      injection g4 with _ h2
      injection h2 with h2 h3
      exact⟨h2,h3⟩
     have HWS:=hid hws
     have HST:=hid hst
     obtain⟨W15,HW15⟩:∃ W,Hid (W=w14.drew):=⟨_,rfl⟩
     have hbd:Below w14.heap.size w14 W15:=by rw[HW15.out];exact (Below.refl _ _).drew
     have HB15:=hid (HB14.out.trans (hbd.mono HB14.out.size))
     have HB1215:=hid (HB1214.out.trans (hbd.mono HB1214.out.size))
     have HRW:=hid (zor g1 d e W15 _ _ _ root x y (HS.out.below HB15.out) (HMX.out.below HB1215.out) (HMY.out.below HB1215.out) g2 g3 (by have h1:=HWX.out;have h2:=HWY.out;omega))
     rw[←hws] at HRW
     have HN15:=hid ((HN5.out.below (HBV.out)).below HB1215.out)
     have HST2:Hid (∀ W,Below W15.heap.size W15 W→Calls Tryz.prog 15 #[.agg #[.slice p1 q1 r1,.slice p2 q2 r2],.agg #[.slice p3 q3 r3,.slice p4 q4 r4]] W fun e' w'=>e'= .returned (.bool st)∧Below W.heap.size W w'):=fun W hW=>by
      rw[HST.out]
      exact zia ((HMX.out.below HB1215.out).below hW) ((HMY.out.below HB1215.out).below hW)
     have hk1:=HK34.out.1.below HB1215.out
     have hk2:=HK34.out.2.below HB1215.out
     have hq:W15.cell? ⟨P5,0,none⟩=some (.slice la ln lc)∧W15.cell? ⟨P1,0,none⟩=some (.slice p1 q1 r1)∧W15.cell? ⟨P1,1,none⟩=some (.slice p2 q2 r2)∧W15.cell? ⟨P2,0,none⟩=some (.slice p3 q3 r3)∧W15.cell? ⟨P2,1,none⟩=some (.slice p4 q4 r4):=⟨(HK5'.out.below hbd).cell 0 _ rfl,hk1.cell 0 _ rfl,hk1.cell 1 _ rfl,hk2.cell 0 _ rfl,hk2.cell 1 _ rfl⟩
     have HQ0:=hid hq
     clear hws hst g1 g2 g3 g4 hbd hk1 hk2 x0 xl HMAY HC
     go_upto_region 10 with fail
     refine zeJ (fun w'=>w'.cell? ⟨P5,0,none⟩=some (.slice la ln lc)∧w'.cell? ⟨P1,0,none⟩=some (.slice p1 q1 r1)∧w'.cell? ⟨P1,1,none⟩=some (.slice p2 q2 r2)∧w'.cell? ⟨P2,0,none⟩=some (.slice p3 q3 r3)∧w'.cell? ⟨P2,1,none⟩=some (.slice p4 q4 r4)) (fun _=>True) 10 [(0,0,0),(1,0,0),(2,0,0),(3,0,0),(4,4,68),(5,4,68),(6,4,68),(7,4,68),(8,4,68),(9,4,68),(10,6,68),(11,6,68),(12,0,0),(13,0,0),(14,4,78),(15,4,78),(16,4,78),(17,6,78),(18,4,78),(19,0,0),(20,0,0)] (by kernel_rfl) rfl rfl (by kernel_rfl) (fun _ _ dst _ _ h=>by cases dst <;> exact h) (by rw[←HW15.out];exact hq) trivial (fun OPS2 _=>?_)
     clear hq
     rw[←HW15.out]
     simp only[List.map_cons,List.map_nil,List.filterMap_cons,List.filterMap_nil,List.getElem?_cons_succ,List.getElem?_cons_zero]
     refine zfx (v:=?v60) ?hy60 ?hr60
     case hy60=>(intro w hw;go_simp;all_goals rfl)
     simp only[Act.put,pzC,pzD,pzE]
     refine zfx (v:=?v61) ?hy61 ?hr61
     case hy61=>(intro w hw;go_simp;all_goals rfl)
     simp only[Act.put,pzC,pzD,pzE]
     refine zfx (v:=?v62) ?hy62 ?hr62
     case hy62=>(intro w hw;go_simp;all_goals rfl)
     simp only[Act.put,pzC,pzD,pzE]
     refine zfx (v:=?v63) ?hy63 ?hr63
     case hy63=>(intro w hw;go_simp;all_goals rfl)
     simp only[Act.put,pzC,pzD,pzE]
     refine zdF (v:=?v64) ?ht64 ?hy64 ?hr64
     case ht64=>rfl
     case hy64=>(intro w hw;go_simp;all_goals rfl)
     simp only[Act.put,pzC,pzD,pzE]
     refine zdF (v:=?v65) ?ht65 ?hy65 ?hr65
     case ht65=>rfl
     case hy65=>(intro w hw;go_simp;all_goals rfl)
     simp only[Act.put,pzC,pzD,pzE]
     refine zdF (v:=?v66) ?ht66 ?hy66 ?hr66
     case ht66=>rfl
     case hy66=>(intro w hw;go_simp;all_goals rfl)
     simp only[Act.put,pzC,pzD,pzE]
     refine zdF (v:=?v67) ?ht67 ?hy67 ?hr67
     case ht67=>rfl
     case hy67=>(intro w hw;go_simp;all_goals rfl)
     simp only[Act.put,pzC,pzD,pzE]
     refine zdF (v:=?v68) ?ht68 ?hy68 ?hr68
     case ht68=>rfl
     case hy68=>(intro w hw;go_simp;all_goals rfl)
     simp only[Act.put,pzC,pzD,pzE]
     refine zdF (v:=?v69) ?ht69 ?hy69 ?hr69
     case ht69=>rfl
     case hy69=>(intro w hw;go_simp;all_goals rfl)
     simp only[Act.put,pzC,pzD,pzE]
     refine zrn (by rfl) (fun K12 HK12=>?_)
     go_wp2_with fail
     refine HRW.out.mono ?_
     rintro e' w16 ⟨v16,rfl,hN16,hb16⟩
     have HSM:=hid (zn4 (HN15.out.below hb16) hN16.here)
     rw[decide_eq_true (rfl:ws=ws)] at HSM
     obtain⟨ua2,uc2,rfl⟩:∃ la lc,v16= .slice la ws.length lc:=by
      obtain⟨-,la,lc,h,-⟩:=hN16.here.open
      exact⟨la,lc,h⟩
     rw[←HLN.out] at HSM ⊢
     have q16:w16.cell? ⟨P5,0,none⟩=some (.slice la ln lc)∧w16.cell? ⟨P1,0,none⟩=some (.slice p1 q1 r1)∧w16.cell? ⟨P1,1,none⟩=some (.slice p2 q2 r2)∧w16.cell? ⟨P2,0,none⟩=some (.slice p3 q3 r3)∧w16.cell? ⟨P2,1,none⟩=some (.slice p4 q4 r4):=⟨zaa hb16 _ _ HQ0.out.1,zaa hb16 _ _ HQ0.out.2.1,zaa hb16 _ _ HQ0.out.2.2.1,zaa hb16 _ _ HQ0.out.2.2.2.1,zaa hb16 _ _ HQ0.out.2.2.2.2⟩
     have HQ16:=hid q16
     have HB16:=hid hb16
     clear hN16 hb16 HRW
     go_wp2_with fail
     refine HK12.out _ _ q16 ?_
     clear HK12 K12 q16
     intro _
     refine zrn (by rfl) (fun K12 HK12=>?_)
     go_wp2_with fail
     refine HSM.out.mono ?_
     rintro e' w17 ⟨rfl,hd17⟩
     have q17:w17.cell? ⟨P5,0,none⟩=some (.slice la ln lc)∧w17.cell? ⟨P1,0,none⟩=some (.slice p1 q1 r1)∧w17.cell? ⟨P1,1,none⟩=some (.slice p2 q2 r2)∧w17.cell? ⟨P2,0,none⟩=some (.slice p3 q3 r3)∧w17.cell? ⟨P2,1,none⟩=some (.slice p4 q4 r4):=⟨zaa hd17.below _ _ HQ16.out.1,zaa hd17.below _ _ HQ16.out.2.1,zaa hd17.below _ _ HQ16.out.2.2.1,zaa hd17.below _ _ HQ16.out.2.2.2.1,zaa hd17.below _ _ HQ16.out.2.2.2.2⟩
     have HQ17:=hid q17
     have HB17:=hid (HB16.out.trans (hd17.below.mono HB16.out.size))
     clear hd17 HSM
     go_wp2_with fail
     refine HK12.out _ _ q17 ?_
     clear HK12 K12 q17
     intro _
     refine zfx (v:=?v80) ?hy80 ?hr80
     case hy80=>(intro w hw;go_simp;all_goals rfl)
     simp only[Act.put,pzC,pzD,pzE]
     refine zfx (v:=?v81) ?hy81 ?hr81
     case hy81=>(intro w hw;go_simp;all_goals rfl)
     simp only[Act.put,pzC,pzD,pzE]
     refine zdF (v:=?v82) ?ht82 ?hy82 ?hr82
     case ht82=>rfl
     case hy82=>(intro w hw;go_simp;all_goals rfl)
     simp only[Act.put,pzC,pzD,pzE]
     refine zdF (v:=?v83) ?ht83 ?hy83 ?hr83
     case ht83=>rfl
     case hy83=>(intro w hw;go_simp;all_goals rfl)
     simp only[Act.put,pzC,pzD,pzE]
     refine zdF (v:=?v84) ?ht84 ?hy84 ?hr84
     case ht84=>rfl
     case hy84=>(intro w hw;go_simp;all_goals rfl)
     simp only[Act.put,pzC,pzD,pzE]
     refine zrn (by rfl) (fun K12 HK12=>?_)
     go_wp2_with fail
     refine (HST2.out w17 HB17.out).mono ?_
     rintro e' w18 ⟨rfl,hb18⟩
     have q18:w18.cell? ⟨P5,0,none⟩=some (.slice la ln lc)∧w18.cell? ⟨P1,0,none⟩=some (.slice p1 q1 r1)∧w18.cell? ⟨P1,1,none⟩=some (.slice p2 q2 r2)∧w18.cell? ⟨P2,0,none⟩=some (.slice p3 q3 r3)∧w18.cell? ⟨P2,1,none⟩=some (.slice p4 q4 r4):=⟨zaa hb18 _ _ HQ17.out.1,zaa hb18 _ _ HQ17.out.2.1,zaa hb18 _ _ HQ17.out.2.2.1,zaa hb18 _ _ HQ17.out.2.2.2.1,zaa hb18 _ _ HQ17.out.2.2.2.2⟩
     have HB18:=hid (HB15.out.trans ((HB17.out.trans (hb18.mono HB17.out.size)).mono HB15.out.size))
     clear hb18
     go_wp2_with fail
     refine HK12.out _ _ q18 ?_
     clear HK12 K12 q18
     intro _
     have hss:(st == st)=true:=by simp
     refine zdF (v:=?v90) ?ht90 ?hy90 ?hr90
     case ht90=>rfl
     case hy90=>(intro w hw;go_simp;all_goals rfl)
     simp only[Act.put,pzC,pzD,pzE]
     refine zfx (v:=?v91) ?hy91 ?hr91
     case hy91=>(intro w hw;go_simp;all_goals rfl)
     simp only[Act.put,pzC,pzD,pzE]
     refine zfx (v:=?v92) ?hy92 ?hr92
     case hy92=>(intro w hw;go_simp;all_goals rfl)
     simp only[Act.put,pzC,pzD,pzE]
     refine zkf ?_
     go_wp2_with fail
     exact HTRUE.out _ HB18.out
    ·
     have hbad:=zls (by rw[←HMC.out];exact hm)
     rw[←HC.out] at hbad
     obtain⟨rfl,rfl⟩:ws=[]∧st=false:=by
      injection hbad with _ h2
      injection h2 with h2 h3
      exact⟨h2,h3⟩
     have hl0:ln=0:=by rw[HLN.out];rfl
     subst hl0
     have e1:((code:Int) != 0)=true:=by simpa using hm
     have e2:((code:Int) == 0)=false:=by simpa using hm
     clear hm hbad
     go_wp2_with fail
     exact HTRUE.out _ HB14.out
end
end Go.Proofs.YtpckoeicbjfnhaaGreatDoor
