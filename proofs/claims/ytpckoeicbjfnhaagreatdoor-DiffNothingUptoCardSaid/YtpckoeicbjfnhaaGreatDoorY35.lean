/- Parts of a proof: texts of the author, merged. No condition of their own. -/
import Derived.Test.YtpckoeicbjfnhaaGreatDoorY11
import Derived.Test.YtpckoeicbjfnhaaGreatDoorY26
import Derived.Test.YtpckoeicbjfnhaaGreatDoorY28
import Derived.Test.YtpckoeicbjfnhaaGreatDoorY32
import Derived.Test.YtpckoeicbjfnhaaGreatDoorY33
import Derived.Test.YtpckoeicbjfnhaaGreatDoorY34
import Derived.Deep.CutBlock
import Derived.Deep.RegionHeld3
import Derived.Lib.AppendZerosOnto
import Derived.Lib.IndexLaws
import Derived.Lib.Join
namespace Go.Proofs.YtpckoeicbjfnhaaGreatDoor
set_option maxRecDepth 100000
set_option maxHeartbeats 16000000
section
open Go.RowKit
theorem zmI {s:List Mes}(hs:zaw s=true):∀ a b,zrH s a b:=by
 intro a
 induction a with
 | zero=>exact fun _ _ _ _ _ _ _ _ _ h=>h.elim
 | succ a ih =>
  intro b
  cases b with
  | zero=>exact fun _ _ _ _ _ _ _ _ _ h=>h.elim
  | succ b=>exact zjD hs a b (ih b)
def zcb (s:List Mes)(root:Int)(a b:Nat)(x:M a)(y:M b):Nat × List (List Int) × Bool:=
 if zaw s=false then (9,[],false) else if root<0∨(s.length:Int)≤root then (2,[],false) else if (zav s a root x&&zav s b root y)=false then (12,[],false) else (0,zaX s a b root x y,!zhD a b x y)
def zdI (w:World)(c:Nat × List (List Int) × Bool)(e:Ending)(w':World):Prop:=
 ∃ v',e= .returned (.tuple #[zbF v',.bool c.2.2,.int .u8 (c.1:Nat)])∧zdH w w' v' c.2.1∧Below w.heap.size w w'
theorem ziZ (w w':World)(h:w.heap.size≤w'.heap.size):zdH w w' (.slice none 0 0) []:=⟨by simp,w'.heap.size,h,zaf.nil _ _ _ _ _ _⟩
theorem znX {s:List Mes}(hs:zaw s=true):∀ {a b:Nat} {r:Int} {x:M a} {y:M b},mOf (zaX s a b r x y)=zaX s a b r x y
 | 0,_,_,x,_=>x.elim
 | _+1,0,_,_,y=>y.elim
 | _+1,_+1,_,_,_=>zpQ hs
theorem zpV {w:World}{sv v u:Value}{s:List Mes}{a b:Nat}{x:M a}{y:M b}(hS:zap w sv s)(root:Int)(hx:zat a w v x)(hy:zat b w u y)(hw:mwt a x+mwt b y≤1099511627776) :
  Calls Tryz.prog 10 #[sv,.int .i64 root,v,u] w (zdI w (zcb s root a b x y)):=by
 obtain⟨xa,xn,xc,ua,un,uc,rfl⟩:=hx.form
 obtain⟨ya,yn,yc,ub,um,ud,rfl⟩:=hy.form
 obtain⟨B,HB⟩:∃ B,Hid (B=w.heap.size):=⟨_,rfl⟩
 obtain⟨W0,HW0⟩:∃ W,Hid (W=(((w.alloc (.cells #[.slice xa xn xc,.slice ua un uc] 27)).alloc (.cells #[.slice ya yn yc,.slice ub um ud] 27)).alloc (.cells #[.slice none 0 0] 33))):=⟨_,rfl⟩
 have hb0:Below w.heap.size w W0:=by rw[HW0.out];(with_reducible repeat first|exact Below.refl _ _|refine pzA ?_ _|refine pzB ?_ _|refine zab ?_ _|refine Below.drew ?_)
 have hk0:Blk W0 B [.slice xa xn xc,.slice ua un uc] 27:=by rw[HW0.out,HB.out];exact ((Blk.new w [.slice xa xn xc,.slice ua un uc] _).alloc _).alloc _
 have hk1:Blk W0 (B+1) [.slice ya yn yc,.slice ub um ud] 27:=by rw[HW0.out,HB.out];exact (Blk.new' _ [.slice ya yn yc,.slice ub um ud] _ _ (by simp)).alloc _
 have hk2:Blk W0 (B+2) [.slice none 0 0] 33:=by rw[HW0.out,HB.out];exact Blk.new' _ [.slice none 0 0] _ _ (by simp)
 have HBK:=hid (And.intro hk0 (And.intro hk1 hk2))
 have HB0:=hid hb0
 have HS:=hid hS
 have HXM:=hid hx
 have HYM:=hid hy
 have HMW:=hid hw
 have HSCH:=hid (za0 (hS.below hb0))
 have HTX:Hid (∀ W,Below W0.heap.size W0 W→Calls Tryz.prog 29 #[sv,.int .i64 root,.agg #[.slice xa xn xc,.slice ua un uc]] W fun e w'=>e= .returned (.bool (zaw s&&zav s a root x))∧Below W.heap.size W w'):=fun W hW=>by
  have h:=HB0.out.trans (hW.mono HB0.out.size)
  exact zka (HS.out.below h) root (HXM.out.below h) (by have:=HMW.out;omega)
 have HTY:Hid (∀ W,Below W0.heap.size W0 W→Calls Tryz.prog 29 #[sv,.int .i64 root,.agg #[.slice ya yn yc,.slice ub um ud]] W fun e w'=>e= .returned (.bool (zaw s&&zav s b root y))∧Below W.heap.size W w'):=fun W hW=>by
  have h:=HB0.out.trans (hW.mono HB0.out.size)
  exact zka (HS.out.below h) root (HYM.out.below h) (by have:=HMW.out;omega)
 obtain⟨-,sa,sc,rfl,-⟩:=hS.open
 obtain⟨sn,HSN⟩:∃ n,Hid (n=s.length):=⟨_,rfl⟩
 rw[←HSN.out] at HTX HTY HS HSCH ⊢
 obtain⟨Q,HQ⟩:∃ Q:Ending→World→Prop,Hid (Q=zdI w (zcb s root a b x y)):=⟨_,rfl⟩
 rw[←HQ.out]
 obtain⟨z,HZ⟩:∃ z,Hid (z=zaw s):=⟨_,rfl⟩
 rw[←HZ.out] at HSCH HTX HTY
 have HBAD:Hid (∀ (c:Nat) W W',zcb s root a b x y=(c,[],false)→Below w.heap.size w W→W'=W.setCell ⟨B+2,0,none⟩ (.slice none 0 0)→Q (.returned (.tuple #[zbF (.slice none 0 0),.bool false,.int .u8 (c:Nat)])) W'):=by
  rintro c W W' h1 h2 rfl
  have h3:Below w.heap.size w (W.setCell ⟨B+2,0,none⟩ (.slice none 0 0)):=h2.setCell (by rw[HB.out];show w.heap.size≤w.heap.size+2;omega) _
  rw[HQ.out,h1]
  exact⟨_,rfl,ziZ _ _ h3.size,h3⟩
 clear hS hx hy hw hb0 hk0 hk1 hk2
 have hr:root<0∨(sn:Int)≤root∨(0≤root∧root<sn):=by omega
 go_enter Tryz.func10,Tryz.ntmps10
 go_upto_region 1 with fail
 rw[←HW0.out,←HB.out]
 cases z with
 | false =>
  have HC:Hid (zcb s root a b x y=(9,[],false)):=by unfold Hid zcb;rw[if_pos HZ.out.symm]
  go_wp2_with (go_at_call 28;refine HSCH.out.mono ?_;rintro e w1 ⟨rfl,hb1⟩;have HB1:=hid (HB0.out.trans (hb1.mono HB0.out.size));have hkr:=HBK.out.2.2.below hb1;have r0:=hkr.cell 0 _ rfl;have rf:=hkr.free 0;have rl:=hkr.lt;have HCS:Hid ((w1.setCell ⟨B+2,0,none⟩ (.slice none 0 0)).cell? ⟨B+2,0,none⟩=some (.slice none 0 0)):=World.cell?_setCell_same' _ _ _ (by rw[r0];rfl))
  refine bodyPost_ret (v:=.tuple #[zbF (.slice none 0 0),.bool false,.int .u8 9]) (by simp[results,Tryz.results10,go_sem,zbF,HCS.out]) rfl (HBAD.out 9 w1 _ HC.out HB1.out rfl)
 | true =>
  rcases hr with hr|hr|hr
  ·
   have HC:Hid (zcb s root a b x y=(2,[],false)):=by unfold Hid zcb;rw[if_neg (by rw[←HZ.out];decide),if_pos (.inl hr)]
   go_wp2_with (go_at_call 28;refine HSCH.out.mono ?_;rintro e w1 ⟨rfl,hb1⟩;have HBX:=hid hb1;have HB1:=hid (HB0.out.trans (hb1.mono HB0.out.size));clear hb1;have hkr:=HBK.out.2.2.below HBX.out;have r0:=hkr.cell 0 _ rfl;have rf:=hkr.free 0;have rl:=hkr.lt;have HCS:Hid ((w1.setCell ⟨B+2,0,none⟩ (.slice none 0 0)).cell? ⟨B+2,0,none⟩=some (.slice none 0 0)):=World.cell?_setCell_same' _ _ _ (by rw[r0];rfl))
   refine bodyPost_ret (v:=.tuple #[zbF (.slice none 0 0),.bool false,.int .u8 2]) (by simp[results,Tryz.results10,go_sem,zbF,HCS.out]) rfl (HBAD.out 2 w1 _ HC.out HB1.out rfl)
  ·
   have HC:Hid (zcb s root a b x y=(2,[],false)):=by unfold Hid zcb;rw[if_neg (by rw[←HZ.out];decide),if_pos (.inr (by rw[←HSN.out];exact hr))]
   have h0:¬ root<0:=by omega
   go_wp2_with (go_at_call 28;refine HSCH.out.mono ?_;rintro e w1 ⟨rfl,hb1⟩;have HBX:=hid hb1;have HB1:=hid (HB0.out.trans (hb1.mono HB0.out.size));clear hb1;have hkr:=HBK.out.2.2.below HBX.out;have r0:=hkr.cell 0 _ rfl;have rf:=hkr.free 0;have rl:=hkr.lt;have HCS:Hid ((w1.setCell ⟨B+2,0,none⟩ (.slice none 0 0)).cell? ⟨B+2,0,none⟩=some (.slice none 0 0)):=World.cell?_setCell_same' _ _ _ (by rw[r0];rfl))
   refine bodyPost_ret (v:=.tuple #[zbF (.slice none 0 0),.bool false,.int .u8 2]) (by simp[results,Tryz.results10,go_sem,zbF,HCS.out]) rfl (HBAD.out 2 w1 _ HC.out HB1.out rfl)
  ·
   have h0:¬ root<0:=by omega
   have h1:¬ (sn:Int)≤root:=by omega
   obtain⟨z1,HZ1⟩:∃ z,Hid (z=zav s a root x):=⟨_,rfl⟩
   obtain⟨z2,HZ2⟩:∃ z,Hid (z=zav s b root y):=⟨_,rfl⟩
   rw[←HZ1.out,Bool.true_and] at HTX
   rw[←HZ2.out,Bool.true_and] at HTY
   have HC0:Hid (zcb s root a b x y=if (z1&&z2)=false then (12,[],false) else (0,zaX s a b root x y,!zhD a b x y)):=by
    unfold Hid zcb
    rw[if_neg (by rw[←HZ.out];decide),if_neg (by rw[←HSN.out];omega),←HZ1.out,←HZ2.out]
   go_upto_region 5 with (go_at_call 28;refine HSCH.out.mono ?_;rintro e w1 ⟨rfl,hb1⟩;have HBX:=hid hb1;have HB1:=hid (HB0.out.trans (hb1.mono HB0.out.size));clear hb1;have hkr:=HBK.out.2.2.below HBX.out;have r0:=hkr.cell 0 _ rfl;have rf:=hkr.free 0;have rl:=hkr.lt;have HCS:Hid ((w1.setCell ⟨B+2,0,none⟩ (.slice none 0 0)).cell? ⟨B+2,0,none⟩=some (.slice none 0 0)):=World.cell?_setCell_same' _ _ _ (by rw[r0];rfl))
   have hkx:=HBK.out.1.below HBX.out
   have x0:=hkx.cell 0 _ rfl
   have x1:=hkx.cell 1 _ rfl
   have xl:=hkx.lt
   clear hkx hkr
   cases z1 with
   | false =>
    have HC:Hid (zcb s root a b x y=(12,[],false)):=HC0.out
    go_wp2_with (go_at_call 29;refine (HTX.out _ HBX.out).mono ?_;rintro e w2 ⟨rfl,hb2⟩;have HB2:=hid (HB1.out.trans (hb2.mono HB1.out.size));have hkr:=(HBK.out.2.2.below HBX.out).below hb2;have r0:=hkr.cell 0 _ rfl;have rf:=hkr.free 0;have rl:=hkr.lt;have HCS:Hid ((w2.setCell ⟨B+2,0,none⟩ (.slice none 0 0)).cell? ⟨B+2,0,none⟩=some (.slice none 0 0)):=World.cell?_setCell_same' _ _ _ (by rw[r0];rfl))
    refine bodyPost_ret (v:=.tuple #[zbF (.slice none 0 0),.bool false,.int .u8 12]) (by simp[results,Tryz.results10,go_sem,zbF,HCS.out]) rfl (HBAD.out 12 w2 _ HC.out HB2.out rfl)
   | true =>
    cases z2 with
    | false =>
     have HC:Hid (zcb s root a b x y=(12,[],false)):=HC0.out
     go_wp2_with (first
      | (go_at_call 29;(with_reducible refine (HTX.out _ HBX.out).mono ?_);rintro e w2 ⟨rfl,hb2⟩;have HBX2:=hid (HBX.out.trans (hb2.mono HBX.out.size));have hky:=HBK.out.2.1.below HBX2.out;have y0:=hky.cell 0 _ rfl;have y1:=hky.cell 1 _ rfl;have yl:=hky.lt;clear hky hb2)
      | (go_at_call 29;(with_reducible refine (HTY.out _ HBX2.out).mono ?_);rintro e w3 ⟨rfl,hb3⟩;have HBX3:=hid (HBX2.out.trans (hb3.mono HBX2.out.size));have hkr:=HBK.out.2.2.below HBX3.out;have r0:=hkr.cell 0 _ rfl;have rf:=hkr.free 0;have rl:=hkr.lt;have HCS:Hid ((w3.setCell ⟨B+2,0,none⟩ (.slice none 0 0)).cell? ⟨B+2,0,none⟩=some (.slice none 0 0)):=World.cell?_setCell_same' _ _ _ (by rw[r0];rfl)))
     refine bodyPost_ret (v:=.tuple #[zbF (.slice none 0 0),.bool false,.int .u8 12]) (by simp[results,Tryz.results10,go_sem,zbF,HCS.out]) rfl (HBAD.out 12 w3 _ HC.out (HB0.out.trans (HBX3.out.mono HB0.out.size)) rfl)
    | true =>
     have HC:Hid (zcb s root a b x y=(0,zaX s a b root x y,!zhD a b x y)):=HC0.out
     go_upto_region 7 with (first
      | (go_at_call 29;(with_reducible refine (HTX.out _ HBX.out).mono ?_);rintro e w2 ⟨rfl,hb2⟩;have HBX2:=hid (HBX.out.trans (hb2.mono HBX.out.size));have hky:=HBK.out.2.1.below HBX2.out;have y0:=hky.cell 0 _ rfl;have y1:=hky.cell 1 _ rfl;have yl:=hky.lt;clear hky hb2)
      | (go_at_call 29;(with_reducible refine (HTY.out _ HBX2.out).mono ?_);rintro e w3 ⟨rfl,hb3⟩;have HBX3:=hid (HBX2.out.trans (hb3.mono HBX2.out.size))))
     have HB3:=hid (HB0.out.trans (HBX3.out.mono HB0.out.size))
     have HRC:=hid (zmI HZ.out.symm a b w3.drew _ _ _ root x y (HS.out.below HB3.out.drew) (HXM.out.below HB3.out.drew) (HYM.out.below HB3.out.drew) HZ1.out.symm HZ2.out.symm HMW.out)
     obtain⟨L,HL⟩:∃ L,Hid (L=zaX s a b root x y):=⟨_,rfl⟩
     have HLW:Hid (zoW L):=⟨by rw[HL.out];exact Nat.le_trans (zdF HZ.out.symm a b root x y) HMW.out,fun l hl=>by
      rw[HL.out] at hl
      have:=ziV a b root x y l hl
      have:=HMW.out
      omega⟩
     have HLM:Hid (mOf L=L):=by rw[HL.out];exact znX HZ.out.symm
     rw[←HL.out] at HRC HC
     have hq:w3.drew.cell? ⟨B,0,none⟩=some (.slice xa xn xc)∧w3.drew.cell? ⟨B,1,none⟩=some (.slice ua un uc)∧w3.drew.cell? ⟨B+1,0,none⟩=some (.slice ya yn yc)∧w3.drew.cell? ⟨B+1,1,none⟩=some (.slice ub um ud):=by
      have h1:=HBK.out.1.below HBX3.out
      have h2:=HBK.out.2.1.below HBX3.out
      exact⟨h1.cell 0 _ rfl,h1.cell 1 _ rfl,h2.cell 0 _ rfl,h2.cell 1 _ rfl⟩
     have HQ0:=hid hq
     have hres:=HBK.out.2.2.below HBX3.out
     have HRES:=hid hres
     clear x0 x1 xl r0 rf rl HCS hres HBX HBX2 HTX HTY HSCH HB1
     refine zd3 (fun w'=>w'.cell? ⟨B,0,none⟩=some (.slice xa xn xc)∧w'.cell? ⟨B,1,none⟩=some (.slice ua un uc)∧w'.cell? ⟨B+1,0,none⟩=some (.slice ya yn yc)∧w'.cell? ⟨B+1,1,none⟩=some (.slice ub um ud)) (fun _=>True) 4 [(0,0),(1,0),(2,0),(3,0),(6,0),(7,0),(8,0),(9,0),(4,2),(5,2),(10,2),(11,0),(12,2),(13,0),(14,0)] (by kernel_rfl) rfl rfl (by kernel_rfl) (fun _ _ dst _ _ h=>by cases dst <;> exact h) hq trivial (fun OPS2 _=>?_)
     clear hq
     simp only[List.map_cons,List.map_nil,List.filterMap_cons,List.filterMap_nil,List.getElem?_cons_succ,List.getElem?_cons_zero]
     refine zaV (v:=?v0) ?hy0 ?hr0
     case hy0=>(intro w hw;go_simp;all_goals rfl)
     simp only[Act.put,pzC,pzD,pzE]
     refine zaV (v:=?v1) ?hy1 ?hr1
     case hy1=>(intro w hw;go_simp;all_goals rfl)
     simp only[Act.put,pzC,pzD,pzE]
     refine zaV (v:=?v2) ?hy2 ?hr2
     case hy2=>(intro w hw;go_simp;all_goals rfl)
     simp only[Act.put,pzC,pzD,pzE]
     refine zaV (v:=?v3) ?hy3 ?hr3
     case hy3=>(intro w hw;go_simp;all_goals rfl)
     simp only[Act.put,pzC,pzD,pzE]
     refine zaV (v:=?v4) ?hy4 ?hr4
     case hy4=>(intro w hw;go_simp;all_goals rfl)
     simp only[Act.put,pzC,pzD,pzE]
     refine zaV (v:=?v5) ?hy5 ?hr5
     case hy5=>(intro w hw;go_simp;all_goals rfl)
     simp only[Act.put,pzC,pzD,pzE]
     refine zaV (v:=?v6) ?hy6 ?hr6
     case hy6=>(intro w hw;go_simp;all_goals rfl)
     simp only[Act.put,pzC,pzD,pzE]
     refine zaV (v:=?v7) ?hy7 ?hr7
     case hy7=>(intro w hw;go_simp;all_goals rfl)
     simp only[Act.put,pzC,pzD,pzE]
     refine ziJ (fun K12 HK12=>?_)
     go_wp2_with fail
     refine HRC.out.mono ?_
     rintro e w4 ⟨v4,rfl,hN4,hb4⟩
     have q4:w4.cell? ⟨B,0,none⟩=some (.slice xa xn xc)∧w4.cell? ⟨B,1,none⟩=some (.slice ua un uc)∧w4.cell? ⟨B+1,0,none⟩=some (.slice ya yn yc)∧w4.cell? ⟨B+1,1,none⟩=some (.slice ub um ud):=⟨zaa hb4 _ _ HQ0.out.1,zaa hb4 _ _ HQ0.out.2.1,zaa hb4 _ _ HQ0.out.2.2.1,zaa hb4 _ _ HQ0.out.2.2.2⟩
     have HOF:=hid (zrG hN4.here HLW.out)
     obtain⟨la,lc,rfl⟩:∃ la lc,v4= .slice la L.length lc:=by
      obtain⟨-,la,lc,h,-⟩:=hN4.here.open
      exact⟨la,lc,h⟩
     rw[HLM.out] at HOF
     have HB34:Hid (Below w3.heap.size w3 w4):=(show Below w3.heap.size w3 w3.drew from (Below.refl _ _).drew).trans hb4
     obtain⟨ln,HLN⟩:∃ n,Hid (n=L.length):=⟨_,rfl⟩
     rw[←HLN.out] at HOF ⊢
     clear hN4 hb4 HRC
     go_wp2_with fail
     refine HK12.out _ _ q4 ?_
     clear HK12 K12
     intro _
     refine ziJ (fun K12 HK12=>?_)
     go_wp2_with fail
     refine HOF.out.mono ?_
     rintro e w5 ⟨v5,rfl,hN5,hb5⟩
     have q5:w5.cell? ⟨B,0,none⟩=some (.slice xa xn xc)∧w5.cell? ⟨B,1,none⟩=some (.slice ua un uc)∧w5.cell? ⟨B+1,0,none⟩=some (.slice ya yn yc)∧w5.cell? ⟨B+1,1,none⟩=some (.slice ub um ud):=⟨zaa hb5 _ _ q4.1,zaa hb5 _ _ q4.2.1,zaa hb5 _ _ q4.2.2.1,zaa hb5 _ _ q4.2.2.2⟩
     have HB35:=hid (HB34.out.trans (hb5.mono HB34.out.size))
     have hb05:Below w.heap.size w w5:=HB3.out.trans (HB35.out.mono HB3.out.size)
     have HEQ:=hid (zoS (HXM.out.below hb05) (HYM.out.below hb05))
     obtain⟨d,HD⟩:∃ d,Hid (d=zhD a b x y):=⟨_,rfl⟩
     rw[←HD.out] at HEQ HC
     obtain⟨ma,mc,rfl⟩:∃ ma mc,v5= .slice ma L.length mc:=by
      obtain⟨-,ma,mc,h,-⟩:=hN5.here.open
      exact⟨ma,mc,h⟩
     rw[←HLN.out] at hN5 ⊢
     have HN5:=hid hN5
     have HB05:=hid hb05
     have HZ4:Hid (B+2<w4.heap.size):=Nat.lt_of_lt_of_le HRES.out.lt HB34.out.size
     clear hN5 hb5 hb05 HOF q4
     unfold zbF
     go_wp2_with fail
     refine HK12.out _ _ q5 ?_
     clear HK12 K12
     intro _
     refine ziJ (fun K12 HK12=>?_)
     go_wp2_with fail
     refine HEQ.out.mono ?_
     rintro e w6 ⟨rfl,hd6⟩
     have q6:w6.cell? ⟨B,0,none⟩=some (.slice xa xn xc)∧w6.cell? ⟨B,1,none⟩=some (.slice ua un uc)∧w6.cell? ⟨B+1,0,none⟩=some (.slice ya yn yc)∧w6.cell? ⟨B+1,1,none⟩=some (.slice ub um ud):=⟨zaa hd6.below _ _ q5.1,zaa hd6.below _ _ q5.2.1,zaa hd6.below _ _ q5.2.2.1,zaa hd6.below _ _ q5.2.2.2⟩
     have HB36:=hid (HB35.out.trans (hd6.below.mono HB35.out.size))
     have hkr:=HRES.out.below HB36.out
     have HD6:=hid hd6
     clear HEQ q5 hd6
     go_wp2_with fail
     refine HK12.out _ _ q6 ?_
     clear HK12 K12
     intro _
     refine zaV (v:=?v20) ?hy20 ?hr20
     case hy20=>(intro w hw;go_simp;all_goals rfl)
     simp only[Act.put,pzC,pzD,pzE]
     have r0:=hkr.cell 0 _ rfl
     have rf:=hkr.free 0
     have rl:=hkr.lt
     have q7:(w6.setCell ⟨B+2,0,none⟩ (.slice ma ln mc)).cell? ⟨B,0,none⟩=some (.slice xa xn xc)∧(w6.setCell ⟨B+2,0,none⟩ (.slice ma ln mc)).cell? ⟨B,1,none⟩=some (.slice ua un uc)∧(w6.setCell ⟨B+2,0,none⟩ (.slice ma ln mc)).cell? ⟨B+1,0,none⟩=some (.slice ya yn yc)∧(w6.setCell ⟨B+2,0,none⟩ (.slice ma ln mc)).cell? ⟨B+1,1,none⟩=some (.slice ub um ud):=by
      refine⟨?_,?_,?_,?_⟩
      ·
       rw[World.cell?_setCell_other]
       ·
        exact q6.1
       ·
        intro e;injection e with e;omega
      ·
       rw[World.cell?_setCell_other]
       ·
        exact q6.2.1
       ·
        intro e;injection e with e;omega
      ·
       rw[World.cell?_setCell_other]
       ·
        exact q6.2.2.1
       ·
        intro e;injection e with e;omega
      ·
       rw[World.cell?_setCell_other]
       ·
        exact q6.2.2.2
       ·
        intro e;injection e with e;omega
     have HCS:Hid ((w6.setCell ⟨B+2,0,none⟩ (.slice ma ln mc)).cell? ⟨B+2,0,none⟩=some (.slice ma ln mc)):=World.cell?_setCell_same' _ _ _ (by rw[r0];rfl)
     refine ziJ (fun K12 HK12=>?_)
     go_wp2_with fail
     refine HK12.out _ _ q7 ?_
     clear HK12 K12 r0 rf rl hkr q7
     intro _
     refine zaV (v:=?v30) ?hy30 ?hr30
     case hy30=>(intro w hw;go_simp;all_goals rfl)
     simp only[Act.put,pzC,pzD,pzE]
     refine zaV (v:=?v31) ?hy31 ?hr31
     case hy31=>(intro w hw;go_simp;all_goals rfl)
     simp only[Act.put,pzC,pzD,pzE]
     refine zfy ?_
     have HFIN:Hid (Q (.returned (.tuple #[zbF (.slice ma ln mc),.bool !d,.int .u8 ((0:Nat):Int)])) (w6.setCell ⟨B+2,0,none⟩ (.slice ma ln mc))):=by
      rw[HQ.out,HC.out]
      have hB2:w.heap.size≤B+2:=by rw[HB.out];omega
      refine⟨_,rfl,HN5.out.later (Nat.le_trans HB3.out.size HB34.out.size) ?_ ?_,(HB05.out.trans (HD6.out.below.mono HB05.out.size)).setCell hB2 _⟩
      ·
       have:=HD6.out.below.size
       rw[World.size_setCell]
       exact this
      ·
       intro b hb1 hb2
       rw[Below.heap_setCell _ _ _ b (by show b≠B+2;have:=HZ4.out;omega)]
       exact HD6.out.below.block b hb2
     clear HN5 HB05 HC
     go_wp2_with fail
     refine bodyPost_ret (v:=.tuple #[zbF (.slice ma ln mc),.bool !d,.int .u8 0]) (by simp[results,Tryz.results10,go_sem,zbF,HCS.out]) rfl HFIN.out
end
section
open Go.RowKit
def zdJ (s:List Mes)(root:Int)(a b:List UInt8)(d:Int):Nat:=if (zaP s root a d).2≠0 then (zaP s root a d).2 else (zaP s root b d).2
theorem zmJ {s:List Mes}{root d:Int}{a b:List UInt8}(h:(zaP s root a d).2≠0):zdJ s root a b d=(zaP s root a d).2:=if_pos h
theorem zgJ {s:List Mes}{root d:Int}{a b:List UInt8}(h:(zaP s root a d).2=0):zdJ s root a b d=(zaP s root b d).2:=if_neg (fun h2=>h2 h)
theorem zhh {s:List Mes}{root d:Int}{a b:List UInt8}(h:zdJ s root a b d=0):(zaP s root a d).2=0∧(zaP s root b d).2=0:=by
 by_cases h1:(zaP s root a d).2=0
 ·
  rw[zgJ h1] at h
  exact⟨h1,h⟩
 ·
  rw[zmJ h1] at h
  exact absurd h h1
def zh7 (s:List Mes)(root:Int)(a b:List UInt8)(d:Int)(w:World)(e:Ending)(w':World):Prop:=
 ∃ a1 n1 c1 a2 n2 c2 b1 m1 e1 b2 m2 e2,e= .returned (.tuple #[.agg #[.slice a1 n1 c1,.slice a2 n2 c2],.agg #[.slice b1 m1 e1,.slice b2 m2 e2],.int .u8 (zdJ s root a b d:Nat)])∧Below w.heap.size w w' ∧
  (zdJ s root a b d=0→zat (d.toNat+1) w' (.agg #[.slice a1 n1 c1,.slice a2 n2 c2]) (tof s d.toNat root.toNat a)∧zat (d.toNat+1) w' (.agg #[.slice b1 m1 e1,.slice b2 m2 e2]) (tof s d.toNat root.toNat b))
theorem zi0 {w:World}{vs va vb:Value}{s:List Mes}{la lb:List UInt8}(hS:zap w vs s)(ha:zal w va la)(hb:zal w vb lb)(hla:la.length≤1099511627776)(hlb:lb.length≤1099511627776)(root d:Int) :
  Calls Tryz.prog 41 #[vs,.int .i64 root,va,vb,.int .i64 d] w (zh7 s root la lb d w):=by
 obtain⟨B,HB⟩:∃ B,Hid (B=w.heap.size):=⟨_,rfl⟩
 obtain⟨W0,HW0⟩:∃ W,Hid (W=((w.alloc (.cells #[.slice none 0 0,.slice none 0 0] 27)).alloc (.cells #[.slice none 0 0,.slice none 0 0] 27))):=⟨_,rfl⟩
 have hb0:Below w.heap.size w W0:=by rw[HW0.out];(with_reducible repeat first|exact Below.refl _ _|refine pzA ?_ _|refine pzB ?_ _|refine zab ?_ _|refine Below.drew ?_)
 have hk0:Blk W0 B [.slice none 0 0,.slice none 0 0] 27:=by rw[HW0.out,HB.out];exact (Blk.new w [.slice none 0 0,.slice none 0 0] _).alloc _
 have hk1:Blk W0 (B+1) [.slice none 0 0,.slice none 0 0] 27:=by rw[HW0.out,HB.out];exact Blk.new' _ [.slice none 0 0,.slice none 0 0] _ _ (by simp)
 have HBK:=hid (And.intro hk0 hk1)
 have HB0:=hid hb0
 have HTO:Hid (∀ W v l,Below w.heap.size w W→zal W v l→l.length≤1099511627776→Calls Tryz.prog 73 #[vs,.int .i64 root,v,.int .i64 d] W (zgD s root l d W)):=fun W v l hW hv hl =>
  ztq (fun hs d'=>zrh (hS.below hW) hs d') (hS.below hW) hv hl root d
 have HA:=hid ha
 have HBY:=hid hb
 have HLA:=hid hla
 have HLB:=hid hlb
 obtain⟨-,sa,sc,rfl,-⟩:=hS.open
 obtain⟨-,aa,ac,rfl,-⟩:=ha.open
 obtain⟨-,ba,bc,rfl,-⟩:=hb.open
 obtain⟨sn,HSN⟩:∃ n,Hid (n=s.length):=⟨_,rfl⟩
 obtain⟨an,HAN⟩:∃ n,Hid (n=la.length):=⟨_,rfl⟩
 obtain⟨bn,HBN⟩:∃ n,Hid (n=lb.length):=⟨_,rfl⟩
 rw[←HSN.out] at HTO ⊢
 rw[←HAN.out] at HA ⊢
 rw[←HBN.out] at HBY ⊢
 obtain⟨Q,HQ⟩:∃ Q:Ending→World→Prop,Hid (Q=zh7 s root la lb d w):=⟨_,rfl⟩
 rw[←HQ.out]
 have HO1:=hid (HTO.out W0 _ la hb0 (HA.out.below hb0) hla)
 obtain⟨z,HZ⟩:∃ z,Hid (z=(zaP s root la d).2):=⟨_,rfl⟩
 unfold zgD at HO1
 rw[←HZ.out] at HO1
 clear hS ha hb hla hlb hb0 hk0 hk1
 go_enter Tryz.func41,Tryz.ntmps41
 go_upto_region 1 with fail
 rw[←HW0.out,←HB.out]
 go_upto_region 2 with (go_at_call 73;refine HO1.out.mono ?_;rintro e w1 ⟨v1,rfl,hb1,⟨a1,n1,c1,a2,n2,c2,rfl⟩,hap1⟩)
 obtain⟨W2,HW2⟩:∃ W,Hid (W=w1.alloc (.cells #[.slice a1 n1 c1,.slice a2 n2 c2] 27)):=⟨_,rfl⟩
 obtain⟨X,HX⟩:∃ X,Hid (X=w1.heap.size):=⟨_,rfl⟩
 rw[←HW2.out,←HX.out]
 have hb12:Below w1.heap.size w1 W2:=by rw[HW2.out];exact (Below.refl _ _).alloc (Nat.le_refl _) _
 have hkX:Blk W2 X [.slice a1 n1 c1,.slice a2 n2 c2] 27:=by rw[HW2.out,HX.out];exact Blk.new w1 [.slice a1 n1 c1,.slice a2 n2 c2] _
 have HB02:=hid (hb1.trans (hb12.mono hb1.size))
 have HB2:=hid (HB0.out.trans (HB02.out.mono HB0.out.size))
 have HKX:=hid hkX
 have HXB:Hid (B+1<X):=by rw[HX.out];exact Nat.lt_of_lt_of_le HBK.out.2.lt hb1.size
 have HAP:=hid fun (h:z=0)=>(hap1 h).later hb12
 have HZ0:Hid (W0.heap.size=B+2):=by rw[HW0.out,HB.out];simp[Hid]
 clear hb1 hb12 hkX hap1 HO1
 by_cases hz:z=0
 ·
  subst hz
  have hap:=HAP.out rfl
  have HO2:=hid (HTO.out W2 _ lb HB2.out (HBY.out.below HB2.out) HLB.out)
  obtain⟨y,HY⟩:∃ y,Hid (y=(zaP s root lb d).2):=⟨_,rfl⟩
  unfold zgD at HO2
  rw[←HY.out] at HO2
  have HC:Hid (zdJ s root la lb d=y):=by rw[Hid,zgJ HZ.out.symm,HY.out]
  have HAP1:=hid hap
  clear hap HAP
  go_upto_region 5 with (go_at_call 73;refine HO2.out.mono ?_;rintro e w3 ⟨v3,rfl,hb3,⟨b1,m1,e1,b2,m2,e2,rfl⟩,hap3⟩)
  obtain⟨W4,HW4⟩:∃ W,Hid (W=w3.alloc (.cells #[.slice b1 m1 e1,.slice b2 m2 e2] 27)):=⟨_,rfl⟩
  obtain⟨Y,HYY⟩:∃ X,Hid (X=w3.heap.size):=⟨_,rfl⟩
  rw[←HW4.out,←HYY.out]
  have hb34:Below w3.heap.size w3 W4:=by rw[HW4.out];exact (Below.refl _ _).alloc (Nat.le_refl _) _
  have hkY:Blk W4 Y [.slice b1 m1 e1,.slice b2 m2 e2] 27:=by rw[HW4.out,HYY.out];exact Blk.new w3 [.slice b1 m1 e1,.slice b2 m2 e2] _
  have hb24:Below W2.heap.size W2 W4:=hb3.trans (hb34.mono hb3.size)
  have hkX4:=HKX.out.below hb24
  have HXY:Hid (X<Y):=by rw[HYY.out];exact Nat.lt_of_lt_of_le HKX.out.lt hb3.size
  have HAP3:=hid fun (h:y=0)=>(hap3 h).later hb34
  have HAPX:=hid (HAP1.out.later hb24)
  have HB04:=hid (HB02.out.trans (hb24.mono HB02.out.size))
  have HB4:=hid (HB2.out.trans (hb24.mono HB2.out.size))
  have h0:=HBK.out.1.below HB04.out
  have h1:=HBK.out.2.below HB04.out
  have hq:W4.drew.cell? ⟨X,0,none⟩=some (.slice a1 n1 c1)∧W4.drew.cell? ⟨X,1,none⟩=some (.slice a2 n2 c2)∧W4.drew.cell? ⟨Y,0,none⟩=some (.slice b1 m1 e1)∧W4.drew.cell? ⟨Y,1,none⟩=some (.slice b2 m2 e2):=⟨hkX4.cell 0 _ rfl,hkX4.cell 1 _ rfl,hkY.cell 0 _ rfl,hkY.cell 1 _ rfl⟩
  have HBB:Hid (w.heap.size≤B):=by rw[HB.out];exact Nat.le_refl _
  obtain⟨W5,HW5⟩:∃ W,Hid (W=((W4.setCell ⟨B,0,none⟩ (.slice a1 n1 c1)).setCell ⟨B,1,none⟩ (.slice a2 n2 c2)).drew):=⟨_,rfl⟩
  obtain⟨W6,HW6⟩:∃ W,Hid (W=(W5.setCell ⟨B+1,0,none⟩ (.slice b1 m1 e1)).setCell ⟨B+1,1,none⟩ (.slice b2 m2 e2)):=⟨_,rfl⟩
  have h05:Blk W5 B [.slice a1 n1 c1,.slice a2 n2 c2] 27:=by rw[HW5.out];exact (Blk.set h0 0 (.slice a1 n1 c1)).set 1 (.slice a2 n2 c2)
  have h15:Blk W5 (B+1) [.slice none 0 0,.slice none 0 0] 27:=by rw[HW5.out];exact (show Blk ((W4.setCell ⟨B,0,none⟩ (.slice a1 n1 c1)).setCell ⟨B,1,none⟩ (.slice a2 n2 c2)) (B+1) [.slice none 0 0,.slice none 0 0] 27 from Blk.set_other (Blk.set_other h1 _ _ (by show B+1≠B;omega)) _ _ (by show B+1≠B;omega))
  have h06:Blk W6 B [.slice a1 n1 c1,.slice a2 n2 c2] 27:=by rw[HW6.out];exact Blk.set_other (Blk.set_other h05 _ _ (by show B≠B+1;omega)) _ _ (by show B≠B+1;omega)
  have h16:Blk W6 (B+1) [.slice b1 m1 e1,.slice b2 m2 e2] 27:=by rw[HW6.out];exact (h15.set 0 (.slice b1 m1 e1)).set 1 (.slice b2 m2 e2)
  have he5:∀ b',B+1<b'→W5.heap[b']?=W4.heap[b']?:=fun b' hb'=>by
   rw[HW5.out]
   show ((W4.setCell ⟨B,0,none⟩ (.slice a1 n1 c1)).setCell ⟨B,1,none⟩ (.slice a2 n2 c2)).heap[b']?=_
   rw[Below.heap_setCell _ _ _ b' (by show b'≠B;omega),Below.heap_setCell _ _ _ b' (by show b'≠B;omega)]
  have heq:∀ b',B+1<b'→W6.heap[b']?=W4.heap[b']?:=fun b' hb'=>by
   rw[HW6.out,Below.heap_setCell _ _ _ b' (by show b'≠B+1;omega),Below.heap_setCell _ _ _ b' (by show b'≠B+1;omega)]
   exact he5 b' hb'
  have q5:W5.cell? ⟨X,0,none⟩=some (.slice a1 n1 c1)∧W5.cell? ⟨X,1,none⟩=some (.slice a2 n2 c2)∧W5.cell? ⟨Y,0,none⟩=some (.slice b1 m1 e1)∧W5.cell? ⟨Y,1,none⟩=some (.slice b2 m2 e2):=by
   have hx5:Blk W5 X [.slice a1 n1 c1,.slice a2 n2 c2] 27:=(he5 X HXB.out).trans hkX4
   have hy5:Blk W5 Y [.slice b1 m1 e1,.slice b2 m2 e2] 27:=(he5 Y (Nat.lt_trans HXB.out HXY.out)).trans hkY
   exact⟨hx5.cell 0 _ rfl,hx5.cell 1 _ rfl,hy5.cell 0 _ rfl,hy5.cell 1 _ rfl⟩
  have q6:W6.cell? ⟨X,0,none⟩=some (.slice a1 n1 c1)∧W6.cell? ⟨X,1,none⟩=some (.slice a2 n2 c2)∧W6.cell? ⟨Y,0,none⟩=some (.slice b1 m1 e1)∧W6.cell? ⟨Y,1,none⟩=some (.slice b2 m2 e2):=by
   have hx6:Blk W6 X [.slice a1 n1 c1,.slice a2 n2 c2] 27:=(heq X HXB.out).trans hkX4
   have hy6:Blk W6 Y [.slice b1 m1 e1,.slice b2 m2 e2] 27:=(heq Y (Nat.lt_trans HXB.out HXY.out)).trans hkY
   exact⟨hx6.cell 0 _ rfl,hx6.cell 1 _ rfl,hy6.cell 0 _ rfl,hy6.cell 1 _ rfl⟩
  have hB6:Below w.heap.size w W6:=by
   rw[HW6.out,HW5.out]
   have hB1:w.heap.size≤B+1:=by have:=HBB.out;omega
   exact ((((HB4.out.setCell HBB.out _).setCell HBB.out _).drew.setCell hB1 _).setCell hB1 _)
  have HFIN:Hid (Q (.returned (.tuple #[.agg #[.slice a1 n1 c1,.slice a2 n2 c2],.agg #[.slice b1 m1 e1,.slice b2 m2 e2],.int .u8 (y:Int)])) W6):=by
   rw[HQ.out]
   refine⟨_,_,_,_,_,_,_,_,_,_,_,_,by rw[HC.out],hB6,fun h=>⟨HAPX.out W6 fun b' _ hc=>heq b' ?_,HAP3.out (by rw[←HC.out];exact h) W6 fun b' _ hc=>heq b' ?_⟩⟩
   ·
    have:=HZ0.out;omega
   ·
    have:=HXB.out;have:=HKX.out.lt;omega
  have HF:=hid (And.intro (h06.cell 0 _ rfl) (And.intro (h06.cell 1 _ rfl) (And.intro (h16.cell 0 _ rfl) (h16.cell 1 _ rfl))))
  have hq0:=hid hq
  have d0:W4.cell? ⟨B,0,none⟩=some (.slice none 0 0):=h0.cell 0 _ rfl
  have d1:W4.cell? ⟨B,1,none⟩=some (.slice none 0 0):=h0.cell 1 _ rfl
  have f0:W4.frozen? ⟨B,0,none⟩=false:=h0.free 0
  have f1:W4.frozen? ⟨B,1,none⟩=false:=h0.free 1
  have l0:B<W4.heap.size:=h0.lt
  have g0:=h15.cell 0 _ rfl
  have g1:=h15.cell 1 _ rfl
  have k0:=h15.free 0
  have k1:=h15.free 1
  have l1:=h15.lt
  clear hb34 hkY hb24 hkX4 HAP3 HAPX h0 h1 h05 h15 h06 h16 heq he5 hB6 hap3 hb3
  refine zd3 (fun w'=>w'.cell? ⟨X,0,none⟩=some (.slice a1 n1 c1)∧w'.cell? ⟨X,1,none⟩=some (.slice a2 n2 c2)∧w'.cell? ⟨Y,0,none⟩=some (.slice b1 m1 e1)∧w'.cell? ⟨Y,1,none⟩=some (.slice b2 m2 e2)) (fun _=>True) 3 [(0,0),(1,0),(2,0),(3,2),(4,2),(5,0)] (by kernel_rfl) rfl rfl (by kernel_rfl) (fun _ _ dst _ _ h=>by cases dst <;> exact h) hq trivial (fun OPS2 _=>?_)
  clear hq
  simp only[List.map_cons,List.map_nil,List.filterMap_cons,List.filterMap_nil,List.getElem?_cons_succ,List.getElem?_cons_zero]
  refine zaV (v:=?v0) ?hy0 ?hr0
  case hy0=>(intro w hw;go_simp;all_goals rfl)
  simp only[Act.put,pzC,pzD,pzE]
  refine zaV (v:=?v1) ?hy1 ?hr1
  case hy1=>(intro w hw;go_simp;all_goals rfl)
  simp only[Act.put,pzC,pzD,pzE]
  refine zaV (v:=?v2) ?hy2 ?hr2
  case hy2=>(intro w hw;go_simp;all_goals rfl)
  simp only[Act.put,pzC,pzD,pzE]
  refine ziJ (fun K12 HK12=>?_)
  go_wp2_with fail
  rw[←HW5.out]
  refine HK12.out _ _ q5 ?_
  clear HK12 K12 d0 d1 f0 f1 l0
  intro _
  refine ziJ (fun K12 HK12=>?_)
  go_wp2_with fail
  rw[←HW6.out]
  refine HK12.out _ _ q6 ?_
  clear HK12 K12 g0 g1 k0 k1 l1
  intro _
  refine zaV (v:=?v10) ?hy10 ?hr10
  case hy10=>(intro w hw;go_simp;all_goals rfl)
  simp only[Act.put,pzC,pzD,pzE]
  refine zfy ?_
  obtain⟨r0,r1,r2,r3⟩:=HF.out
  go_wp2_with fail
  exact bodyPost_ret (v:=.tuple #[.agg #[.slice a1 n1 c1,.slice a2 n2 c2],.agg #[.slice b1 m1 e1,.slice b2 m2 e2],.int .u8 y]) (by simp[results,Tryz.results41,go_sem,r0,r1,r2,r3]) rfl HFIN.out
 ·
  have e1:((z:Int) != 0)=true:=by simpa using hz
  have e2:((z:Int) == 0)=false:=by simpa using hz
  have HC:Hid (zdJ s root la lb d=z):=by rw[Hid,zmJ (by rw[←HZ.out];exact hz),HZ.out]
  have h0:=HBK.out.1.below HB02.out
  have h1:=HBK.out.2.below HB02.out
  have d0:=h0.cell 0 _ rfl
  have d1:=h0.cell 1 _ rfl
  have f0:=h0.free 0
  have f1:=h0.free 1
  have l0:=h0.lt
  have g0:=h1.cell 0 _ rfl
  have g1:=h1.cell 1 _ rfl
  have k0:=h1.free 0
  have k1:=h1.free 1
  have l1:=h1.lt
  have HFIN:Hid (Q (.returned (.tuple #[.agg #[.slice none 0 0,.slice none 0 0],.agg #[.slice none 0 0,.slice none 0 0],.int .u8 (z:Int)])) ((((W2.setCell ⟨B,0,none⟩ (.slice none 0 0)).setCell ⟨B,1,none⟩ (.slice none 0 0)).setCell ⟨B+1,0,none⟩ (.slice none 0 0)).setCell ⟨B+1,1,none⟩ (.slice none 0 0))):=by
   rw[HQ.out]
   have hB0:w.heap.size≤B:=by rw[HB.out];exact Nat.le_refl _
   have hB1:w.heap.size≤B+1:=by omega
   exact⟨_,_,_,_,_,_,_,_,_,_,_,_,by rw[HC.out],(((HB2.out.setCell hB0 _).setCell hB0 _).setCell hB1 _).setCell hB1 _,fun h=>absurd (HC.out.symm.trans h) hz⟩
  clear h0 h1
  go_wp2_with fail
  exact bodyPost_ret (v:=.tuple #[.agg #[.slice none 0 0,.slice none 0 0],.agg #[.slice none 0 0,.slice none 0 0],.int .u8 z]) (by simp[results,Tryz.results41,go_sem,d0,d1,g0,g1]) rfl HFIN.out
end
section
open Go.RowKit
theorem zgI.open {w:World}{o:List (List Int)}{e:Ending}{w':World}(h:zgI w o e w'):∃ a c,e= .returned (zbF (.slice a o.length c))∧zca w' (.slice a o.length c) o∧Below w.heap.size w w'∧zdH w w' (.slice a o.length c) o:=by
 obtain⟨v',rfl,h2,h3⟩:=h
 have h2':=h2.here
 have h2'':=h2'
 obtain⟨-,a,c,rfl,-,-⟩:=h2''.open
 exact⟨a,c,rfl,h2',h3,h2⟩
theorem zpW (a:Option Addr)(n c:Nat)(w:World):(Instr.field 33 (.agg #[.slice a n c]) 0).run Tryz.prog w= .ok (.slice a n c) w:=by kernel_rfl
theorem zjE {w:World}{v u:Value}{l m:List (List Int)}(h:zca w v l)(hu:zca w u m) :
  Calls Tryz.prog 112 #[v,u,.func (.func 100) #[] #[]] w fun e w'=>e= .returned (.bool (decide (l=m)))∧zfC w w':=by
 obtain⟨hl,a,c,rfl,-,hat⟩:=h.open
 obtain⟨hm,a2,c2,rfl,-,hbt⟩:=hu.open
 obtain⟨n,HN⟩:∃ n,Hid (n=l.length):=⟨_,rfl⟩
 obtain⟨n2,HN2⟩:∃ n,Hid (n=m.length):=⟨_,rfl⟩
 rw[←HN.out] at hl ⊢
 rw[←HN2.out] at hm ⊢
 obtain⟨z,HZ⟩:∃ z,Hid (z=decide (l=m)):=⟨_,rfl⟩
 rw[←HZ.out]
 have HAT:=hid hat
 have HBT:=hid hbt
 have hcf:∀ (args:Array Value) (w:World),(callFunc 100 args).run Tryz.prog w= .ok (.enter 100 args) w:=fun args w=>by simp[go_sem]
 clear hat hbt h hu
 by_cases hnn:n=n2
 ·
  subst hnn
  go_enter Tryz.func112,Tryz.ntmps112
  go_wp2_with fail
  go_loopw [17] (fun v5 wr=>∃ i:Nat,v5= .int .i64 i∧i≤n∧Hid (z=decide (l.drop i=m.drop i))∧Hid (zfC w wr)) (fun v5 _=>n - (intOf v5).toNat)
  case atStart=>exact⟨0,rfl,by omega,by rw[Hid,HZ.out];simp,zfC.refl _⟩
  case round =>
   obtain⟨i,rfl,hi,HI,HB⟩:=hrel
   by_cases h1:i<n
   ·
    obtain⟨x,hxi⟩:=zga HN.out h1
    obtain⟨y,hyi⟩:=zga HN2.out h1
    obtain⟨b,o,xa,xc,ha,g0,hX⟩:=HAT.out i x hxi
    obtain⟨b2,o2,ya,yc,ha2,g2,hY⟩:=HBT.out i y hyi
    have HC:=hid (zhE hxi hyi)
    have hix:=zaj Tryz.underlying31 zcE ha i h1 (cap:=c)
    have hix2:=zaj Tryz.underlying31 zcE ha2 i h1 (cap:=c2)
    have HS:=hid (zj7 (hX.keep HB.out.keeps) (hY.keep HB.out.keeps))
    replace g0:=HB.out.keeps _ _ g0
    replace g2:=HB.out.keeps _ _ g2
    obtain⟨xn,HXN⟩:∃ xn,Hid (xn=x.length):=⟨_,rfl⟩
    obtain⟨yn,HYN⟩:∃ yn,Hid (yn=y.length):=⟨_,rfl⟩
    rw[←HXN.out] at g0 HS
    rw[←HYN.out] at g2 HS
    clear hxi hyi ha ha2 hX hY
    by_cases hxy:x=y
    ·
     have HC1:Hid (z=decide (l.drop (i+1)=m.drop (i+1))):=by
      rw[Hid,HI.out,decide_eq_decide,HC.out];simp[hxy]
     rw[show decide (x=y)=true from decide_eq_true hxy] at HS
     have HXY:=hid hxy
     clear hxy
     go_wp2_with fail
     refine HS.out.mono ?_
     rintro e w3 ⟨rfl,hd⟩
     have HB3:=hid (HB.out.trans hd)
     clear hd
     go_wp2_with fail
     go_roundw
     case rel=>exact⟨i+1,by go_num,h1,HC1.out,HB3.out⟩
     case measure=>simp[intOf];omega
    ·
     have HC1:Hid (z=false):=by
      rw[Hid,HI.out,decide_eq_false_iff_not,HC.out];simp[hxy]
     rw[show decide (x=y)=false from decide_eq_false hxy] at HS
     have HXY:=hid hxy
     clear hxy
     go_wp2_with fail
     refine HS.out.mono ?_
     rintro e w3 ⟨rfl,hd⟩
     have HB3:=hid (HB.out.trans hd)
     clear hd
     go_wp2_with fail
     go_ret
     exact⟨by rw[HC1.out];first|done|rfl,HB3.out⟩
   ·
    obtain rfl:i=n:=by omega
    have HC1:Hid (z=true):=by
     rw[Hid,HI.out,List.drop_eq_nil_of_le (by rw[←HN.out];omega),List.drop_eq_nil_of_le (by rw[←HN2.out];omega)];simp
    go_wp2_with fail
    go_ret
    exact⟨by rw[HC1.out];first|done|rfl,HB.out⟩
 ·
  have HC1:Hid (z=false):=by
   rw[Hid,HZ.out,decide_eq_false_iff_not];rintro rfl;exact hnn (by rw[HN.out,HN2.out])
  have e1:decide ((n:Int)=n2)=false:=decide_eq_false (by omega)
  have e2:((n:Int) == n2)=false:=by simp;omega
  have e3:(n == n2)=false:=by simp;omega
  clear hnn
  go_enter Tryz.func112,Tryz.ntmps112
  go_wp2_with fail
  go_ret
  exact⟨by rw[HC1.out];first|done|rfl,zfC.refl _⟩
def zi1 (ls:List (List Int)):Bool:=decide (mOf ls=ls)
theorem zpX {w:World}{v:Value}{ls:List (List Int)}(h:zca w v ls)(hL:zoW ls) :
  Calls Tryz.prog 75 #[zbF v] w fun e w'=>e= .returned (.bool (zi1 ls))∧Below w.heap.size w w':=by
 unfold zbF
 obtain⟨wA,HA⟩:∃ wA,Hid (wA=w.alloc (.cells #[v] 33)):=⟨_,rfl⟩
 have hA:Below w.heap.size w wA:=by rw[HA.out];exact (Below.refl _ _).alloc (Nat.le_refl _) _
 have HWA:=hid hA
 have HW:=hid (h.below hA)
 have HOF:=hid (zrG (w:=wA.drew) (((h.below hA)).keep fun _ _ h=>h) hL)
 have hb0:wA.cell? ⟨w.heap.size,0,none⟩=some v:=by rw[HA.out];simp[go_sem]
 have HB0:Hid (wA.drew.cell? ⟨w.heap.size,0,none⟩=some v):=hb0
 have HWD:Hid (zca wA.drew v ls):=HW.out.keep fun _ _ h=>h
 obtain⟨-,a,c,rfl,-,-⟩:=h.open
 obtain⟨z,HZ⟩:∃ z,Hid (z=zi1 ls):=⟨_,rfl⟩
 rw[←HZ.out]
 clear h hL hA hb0
 go_enter Tryz.func75,Tryz.ntmps75
 have c0:=HB0.out
 have hfd:=zpW
 go_wp2_with fail
 rw[←HA.out]
 go_region_held3 (fun w'=>w'.cell? ⟨w.heap.size,0,none⟩=some (.slice a ls.length c)) (first|(with_reducible exact c0)|(with_reducible exact c1)|(with_reducible exact k2)|go_keep) (first|(go_at_call 30;(with_reducible refine HOF.out.mono ?_);intro e w1 hp;obtain⟨a2,c2,rfl,hW2,hb,-⟩:=hp.open;have c1:=zaa hb _ _ c0;have HEQ:=hid (zjE hW2 (HWD.out.below hb));have HB:=hid hb;unfold zbF;clear hW2 hb hp)|(go_at_call 112;(with_reducible refine HEQ.out.mono ?_);rintro e w2 ⟨rfl,hd⟩;have k2:=hd.keeps _ _ c1;have HD:=hid hd;clear hd))
 go_wp2_with fail
 go_ret
 exact⟨by rw[HZ.out];first|done|rfl,zag (zag HWA.out.drew HB.out HWA.out.size) HD.out.below (Nat.le_trans HWA.out.size HB.out.size)⟩
end
section
open Go.RowKit
end
section
open Go.RowKit
end
section
open Go.RowKit
end
section
open Go.RowKit
end
section
open Go.RowKit
def zdY:List UInt8→List (List UInt8)
 | []=>[[]]
 | c::r=>if c=46 then []::zdY r else match zdY r with
  | []=>[[c]]
  | h::t=>(c::h)::t
theorem zmK (l:List UInt8):∃ h t,zdY l=h::t:=by
 cases l with
 | nil=>exact⟨_,_,rfl⟩
 | cons c r =>
  rw[zdY]
  split
  ·
   exact⟨_,_,rfl⟩
  ·
   split <;> exact⟨_,_,rfl⟩
theorem zi2:∀ {l:List UInt8},(46:UInt8) ∉ l→zdY l=[l]
 | [],_=>rfl
 | c::r,h=>by
  have hc:c≠46:=fun e=>h (by simp[e])
  rw[zdY,if_neg hc,zi2 (l:=r) (fun e=>h (by simp[e]))]
theorem znY:∀ {a:List UInt8} (b:List UInt8),(46:UInt8) ∉ a→zdY (a++46::b)=a::zdY b
 | [],b,_=>by rw[List.nil_append,zdY,if_pos rfl]
 | c::r,b,h=>by
  have hc:c≠46:=fun e=>h (by simp[e])
  rw[List.cons_append,zdY,if_neg hc,znY (a:=r) b (fun e=>h (by simp[e]))]
theorem zoX:∀ l:List UInt8,(zdY l).length≤l.length+1
 | []=>by simp[zdY]
 | c::r=>by
  have:=zoX r
  rw[zdY]
  split
  ·
   simp;omega
  ·
   split
   ·
    simp
   ·
    rename_i h t e
    rw[e] at this
    simp at this ⊢
    omega
theorem zhF:∀ (l:List UInt8) (t:List UInt8),t∈zdY l→t.length≤l.length
 | [],t,h=>by simp[zdY] at h;simp[h]
 | c::r,t,h=>by
  have ih:=zhF r
  rw[zdY] at h
  split at h
  ·
   rcases List.mem_cons.1 h with rfl|h
   ·
    simp
   ·
    have:=ih t h;simp;omega
  ·
   split at h
   ·
    simp at h;subst h;simp
   ·
    rename_i hd tl e
    rcases List.mem_cons.1 h with rfl|h
    ·
     have:=ih hd (by rw[e];simp)
     simp;omega
    ·
     have:=ih t (by rw[e];simp[h])
     simp;omega
theorem zi3 {l:List UInt8}(h:Lib.indexByte l 46= -1):zdY l=[l]:=
 zi2 fun hm=>by
  obtain⟨k,hk⟩:=List.mem_iff_getElem?.1 hm
  exact Lib.indexByte_none h k hk
theorem zi4 {l:List UInt8}{i:Nat}(h:Lib.indexByte l 46=i):i<l.length∧zdY l=l.take i::zdY (l.drop (i+1)):=by
 obtain⟨h1,h2⟩:=Lib.indexByte_some h
 obtain⟨hi,h3⟩:=List.getElem?_eq_some_iff.1 h1
 refine⟨hi,?_⟩
 have e:l=l.take i++46::l.drop (i+1):=by
  conv=>lhs;rw[←List.take_append_drop i l]
  rw[List.drop_eq_getElem_cons hi,h3]
 conv=>lhs;rw[e]
 refine znY _ fun hm=>?_
 obtain⟨k,hk⟩:=List.mem_iff_getElem?.1 hm
 rw[List.getElem?_take] at hk
 split at hk
 ·
  rename_i hki
  exact h2 k hki hk
 ·
  cases hk
def zcn:List (List UInt8)→List UInt8
 | []=>[]
 | [x]=>x
 | x::y::r=>x++46::zcn (y::r)
theorem zi5:∀ l:List (List UInt8),Lib.join l [46]=zcn l
 | []=>rfl
 | [x]=>by rw[Lib.join_one];rfl
 | x::y::r=>by
  rw[Lib.join_cons,zcn,←zi5 (y::r),Lib.join_cons]
  simp[Lib.joinTail]
theorem zku:∀ {l:List (List UInt8)},l≠[]→(∀ x∈l,(46:UInt8) ∉ x)→zdY (zcn l)=l
 | [],h,_=>absurd rfl h
 | [x],_,h=>zi2 (h x (by simp))
 | x::y::r,_,h=>by
  rw[zcn,znY _ (h x (by simp)),zku (by simp) fun z hz=>h z (by simp[List.mem_cons.1 hz])]
end
end Go.Proofs.YtpckoeicbjfnhaaGreatDoor
