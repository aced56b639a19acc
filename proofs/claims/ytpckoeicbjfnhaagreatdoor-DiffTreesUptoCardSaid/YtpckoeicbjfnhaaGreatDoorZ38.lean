/- Parts of a proof: texts of the author, merged. No condition of their own. -/
import Derived.Test.YtpckoeicbjfnhaaGreatDoorZ07
import Derived.Test.YtpckoeicbjfnhaaGreatDoorZ13
import Derived.Test.YtpckoeicbjfnhaaGreatDoorZ17
import Derived.Test.YtpckoeicbjfnhaaGreatDoorZ30
import Derived.Test.YtpckoeicbjfnhaaGreatDoorZ31
import Derived.Test.YtpckoeicbjfnhaaGreatDoorZ32
import Derived.Test.YtpckoeicbjfnhaaGreatDoorZ33
import Derived.Test.YtpckoeicbjfnhaaGreatDoorZ35
import Derived.Test.YtpckoeicbjfnhaaGreatDoorZ37
import Derived.StillTailTactics
import Derived.Deep.CutBlock
import Derived.Deep.CutRange
namespace Go.Proofs.YtpckoeicbjfnhaaGreatDoor
set_option maxRecDepth 100000
set_option maxHeartbeats 16000000
section
open Go.RowKit
def zfv (s:List Mes)(root:Int)(a b:List UInt8)(d:Int):Nat × List (List Int) × Bool:=
 if ziw s root a b d≠0 then (ziw s root a b d,[],false) else zbw s root (d.toNat+1) (d.toNat+1) (tof s d.toNat root.toNat a) (tof s d.toNat root.toNat b)
theorem zqe {w:World}{vs va vb:Value}{s:List Mes}{la lb:List UInt8}(hS:zal w vs s)(ha:zaj w va la)(hb:zaj w vb lb)(hla:la.length≤1073741824)(hlb:lb.length≤1073741824)(root d:Int) :
  Calls Tryz.prog 16 #[vs,.int .i64 root,va,vb,.int .i64 d] w (zeE w (zfv s root la lb d)):=by
 obtain⟨B,HB⟩:∃ B,Hid (B=w.heap.size):=⟨_,rfl⟩
 obtain⟨W0,HW0⟩:∃ W,Hid (W=w.alloc (.cells #[.slice none 0 0] 33)):=⟨_,rfl⟩
 have hb0:Below w.heap.size w W0:=by rw[HW0.out];(with_reducible repeat first|exact Below.refl _ _|refine pzA ?_ _|refine pzB ?_ _|refine zab ?_ _|refine Below.drew ?_)
 have hk0:Blk W0 B [.slice none 0 0] 33:=by rw[HW0.out,HB.out];exact Blk.new w [.slice none 0 0] _
 have HBO:=hid (zp3 (hS.below hb0) (ha.below hb0) (hb.below hb0) (by omega) (by omega) root d)
 have HBK:=hid hk0
 have HB0:=hid hb0
 have HS:=hid hS
 obtain⟨-,sa,sc,rfl,-⟩:=hS.open
 obtain⟨-,aa,ac,rfl,-⟩:=ha.open
 obtain⟨-,ba,bc,rfl,-⟩:=hb.open
 obtain⟨sn,HSN⟩:∃ n,Hid (n=s.length):=⟨_,rfl⟩
 obtain⟨an,HAN⟩:∃ n,Hid (n=la.length):=⟨_,rfl⟩
 obtain⟨bn,HBN⟩:∃ n,Hid (n=lb.length):=⟨_,rfl⟩
 rw[←HSN.out] at HBO HS ⊢
 rw[←HAN.out] at HBO ⊢
 rw[←HBN.out] at HBO ⊢
 obtain⟨Q,HQ⟩:∃ Q:Ending→World→Prop,Hid (Q=zeE w (zfv s root la lb d)):=⟨_,rfl⟩
 rw[←HQ.out]
 obtain⟨z,HZ⟩:∃ z,Hid (z=ziw s root la lb d):=⟨_,rfl⟩
 unfold zkd at HBO
 rw[←HZ.out] at HBO
 have HMW:Hid (mwt (d.toNat+1) (tof s d.toNat root.toNat la)+mwt (d.toNat+1) (tof s d.toNat root.toNat lb)≤1099511627776):=by
  have h1:=zdL s d.toNat root.toNat la
  have h2:=zdL s d.toNat root.toNat lb
  show _≤_
  omega
 clear hS ha hb hla hlb hb0 hk0
 go_enter Tryz.func16,Tryz.ntmps16
 go_upto_region 1 with fail
 rw[←HW0.out,←HB.out]
 go_upto_region 2 with (go_at_call 41;refine HBO.out.mono ?_;rintro e w1 ⟨a1,n1,c1,a2,n2,c2,b1,m1,e1,b2,m2,e2,rfl,hb1,hM⟩)
 obtain⟨W2,HW2⟩:∃ W,Hid (W=(w1.alloc (.cells #[.slice a1 n1 c1,.slice a2 n2 c2] 27)).alloc (.cells #[.slice b1 m1 e1,.slice b2 m2 e2] 27)):=⟨_,rfl⟩
 obtain⟨X,HX⟩:∃ X,Hid (X=w1.heap.size):=⟨_,rfl⟩
 rw[←HW2.out,←HX.out]
 have hb12:Below w1.heap.size w1 W2:=by rw[HW2.out];(with_reducible repeat first|exact Below.refl _ _|refine pzA ?_ _|refine pzB ?_ _|refine zab ?_ _|refine Below.drew ?_)
 have hkX:Blk W2 X [.slice a1 n1 c1,.slice a2 n2 c2] 27:=by rw[HW2.out,HX.out];exact (Blk.new w1 [.slice a1 n1 c1,.slice a2 n2 c2] _).alloc _
 have hkY:Blk W2 (X+1) [.slice b1 m1 e1,.slice b2 m2 e2] 27:=by rw[HW2.out,HX.out];exact Blk.new' _ [.slice b1 m1 e1,.slice b2 m2 e2] _ _ (by simp)
 have HB02:=hid (hb1.trans (hb12.mono hb1.size))
 have HB2:=hid (HB0.out.trans (HB02.out.mono HB0.out.size))
 have HBB:Hid (w.heap.size≤B):=by rw[HB.out];exact Nat.le_refl _
 by_cases hz:z=0
 ·
  obtain⟨hM1,hM2⟩:=hM hz
  obtain⟨c,HC⟩:∃ c,Hid (c=zbw s root (d.toNat+1) (d.toNat+1) (tof s d.toNat root.toNat la) (tof s d.toNat root.toNat lb)):=⟨_,rfl⟩
  have HT:=hid (zjo (HS.out.below HB2.out) root (hM1.below hb12) (hM2.below hb12) HMW.out)
  rw[←HC.out] at HT
  have HWC:Hid (zfv s root la lb d=c):=by unfold Hid zfv;rw[if_neg (by rw[←HZ.out];exact fun h=>h hz),HC.out]
  obtain⟨code,ws,st⟩:=c
  have x0:=hkX.cell 0 _ rfl
  have x1:=hkX.cell 1 _ rfl
  have xl:=hkX.lt
  have y0:=hkY.cell 0 _ rfl
  have y1:=hkY.cell 1 _ rfl
  have yl:=hkY.lt
  subst hz
  clear hb12 hkX hkY hb1 hM hM1 hM2 HBO
  go_wp2_with (go_at_call 10;refine HT.out.mono ?_;rintro e w3 ⟨v3,rfl,hN3,hb3⟩;obtain⟨la3,lc3,rfl⟩:∃ la3 lc3,v3= .slice la3 ws.length lc3:=(by obtain⟨-,la3,lc3,h,-⟩:=hN3.here.open;exact⟨la3,lc3,h⟩);obtain⟨ln,HLN⟩:∃ n,Hid (n=ws.length):=⟨_,rfl⟩;rw[←HLN.out] at hN3 ⊢;have HN3:=hid hN3;have HB3:=hid hb3;have hkr:=(HBK.out.below HB02.out).below hb3;have r0:=hkr.cell 0 _ rfl;have rf:=hkr.free 0;have rl:=hkr.lt;clear hN3 hb3 hkr;unfold zby)
  have HCS:Hid ((w3.setCell ⟨B,0,none⟩ (.slice la3 ln lc3)).cell? ⟨B,0,none⟩=some (.slice la3 ln lc3)):=World.cell?_setCell_same' _ _ _ (by rw[r0];rfl)
  have HFIN:Hid (Q (.returned (.tuple #[zby (.slice la3 ln lc3),.bool st,.int .u8 (code:Int)])) (w3.setCell ⟨B,0,none⟩ (.slice la3 ln lc3))):=by
   rw[HQ.out,HWC.out]
   refine⟨_,rfl,HN3.out.later HB2.out.size (by rw[World.size_setCell];exact Nat.le_refl _) (fun b' h1 h2=>Below.heap_setCell _ _ _ b' ?_),(HB2.out.trans (HB3.out.mono HB2.out.size)).setCell HBB.out _⟩
   have h3:=HB02.out.size
   have h4:=HBK.out.lt
   show b'≠B
   omega
  exact bodyPost_ret (v:=.tuple #[zby (.slice la3 ln lc3),.bool st,.int .u8 code]) (by simp[results,Tryz.results16,go_sem,zby,HCS.out]) rfl HFIN.out
 ·
  have e1:((z:Int) != 0)=true:=by simpa using hz
  have e2:((z:Int) == 0)=false:=by simpa using hz
  have hkr:=HBK.out.below HB02.out
  have r0:=hkr.cell 0 _ rfl
  have rf:=hkr.free 0
  have rl:=hkr.lt
  have HCS:Hid ((W2.setCell ⟨B,0,none⟩ (.slice none 0 0)).cell? ⟨B,0,none⟩=some (.slice none 0 0)):=World.cell?_setCell_same' _ _ _ (by rw[r0];rfl)
  have HFIN:Hid (Q (.returned (.tuple #[zby (.slice none 0 0),.bool false,.int .u8 (z:Int)])) (W2.setCell ⟨B,0,none⟩ (.slice none 0 0))):=by
   have h3:Below w.heap.size w (W2.setCell ⟨B,0,none⟩ (.slice none 0 0)):=HB2.out.setCell HBB.out _
   rw[HQ.out]
   unfold zfv
   rw[if_pos (by rw[←HZ.out];exact hz),←HZ.out]
   exact⟨_,rfl,zhY _ _ h3.size,h3⟩
  clear hb12 hkX hkY hb1 hM HBO hkr
  go_wp2_with fail
  exact bodyPost_ret (v:=.tuple #[zby (.slice none 0 0),.bool false,.int .u8 z]) (by simp[results,Tryz.results16,go_sem,zby,HCS.out]) rfl HFIN.out
theorem zms {s:List Mes}{root d:Int}{a b:List UInt8}(ha:a.length≤1073741824)(hb:b.length≤1073741824):(zfv s root a b d).2.1.length≤1099511627776∧∀ l∈(zfv s root a b d).2.1,l.length≤65:=by
 unfold zfv
 split
 ·
  simp
 ·
  rename_i h
  have h:=zn8 (Classical.not_not.1 h)
  obtain⟨g1,-,g3,-⟩:=zk4 h.1
  unfold zbw
  rw[if_neg (by rw[g1];decide)]
  split
  ·
   simp
  ·
   split
   ·
    simp
   ·
    have h1:=zdL s d.toNat root.toNat a
    have h2:=zdL s d.toNat root.toNat b
    refine⟨?_,fun l hl=>?_⟩
    ·
     have:=zde g1 (d.toNat+1) (d.toNat+1) root (tof s d.toNat root.toNat a) (tof s d.toNat root.toNat b)
     simp only
     omega
    ·
     have:=zjh (d.toNat+1) (d.toNat+1) root (tof s d.toNat root.toNat a) (tof s d.toNat root.toNat b) l hl
     omega
def zgw (s:List Mes)(root:Int)(a b:List UInt8)(d:Int):Nat × List (List UInt8) × Bool:=
 if (zfv s root a b d).1≠0 then ((zfv s root a b d).1,[],false) else ((zcv s root (zfv s root a b d).2.1).1,(zcv s root (zfv s root a b d).2.1).2,(zfv s root a b d).2.2)
def ze1 (w:World)(c:Nat × List (List UInt8) × Bool)(e:Ending)(w':World):Prop:=
 ∃ v',e= .returned (.tuple #[v',.bool c.2.2,.int .u8 (c.1:Nat)])∧zat w' w.heap.size v' c.2.1∧Below w.heap.size w w'
theorem zjt {w:World}{vs va vb:Value}{s:List Mes}{la lb:List UInt8}(hS:zal w vs s)(ha:zaj w va la)(hb:zaj w vb lb)(hla:la.length≤1073741824)(hlb:lb.length≤1073741824)(root d:Int) :
  Calls Tryz.prog 18 #[vs,.int .i64 root,va,vb,.int .i64 d] w (ze1 w (zgw s root la lb d)):=by
 have HWY:=hid (zqe hS ha hb hla hlb root d)
 have HLT:=hid (zms (s:=s) (root:=root) (d:=d) hla hlb)
 have HS:=hid hS
 obtain⟨-,sa,sc,rfl,-⟩:=hS.open
 obtain⟨-,aa,ac,rfl,-⟩:=ha.open
 obtain⟨-,ba,bc,rfl,-⟩:=hb.open
 obtain⟨sn,HSN⟩:∃ n,Hid (n=s.length):=⟨_,rfl⟩
 obtain⟨an,HAN⟩:∃ n,Hid (n=la.length):=⟨_,rfl⟩
 obtain⟨bn,HBN⟩:∃ n,Hid (n=lb.length):=⟨_,rfl⟩
 rw[←HSN.out] at HWY HS ⊢
 rw[←HAN.out] at HWY ⊢
 rw[←HBN.out] at HWY ⊢
 obtain⟨Q,HQ⟩:∃ Q:Ending→World→Prop,Hid (Q=ze1 w (zgw s root la lb d)):=⟨_,rfl⟩
 rw[←HQ.out]
 have HDC:Hid (∀ c,c=zfv s root la lb d→zgw s root la lb d=if c.1≠0 then (c.1,[],false) else ((zcv s root c.2.1).1,(zcv s root c.2.1).2,c.2.2)):=by
  rintro c rfl;rfl
 obtain⟨c,HC⟩:∃ c,Hid (c=zfv s root la lb d):=⟨_,rfl⟩
 have HDC2:=hid (HDC.out c HC.out)
 rw[←HC.out] at HWY HLT
 obtain⟨code,ws,st⟩:=c
 have HL:=HLT.out
 have HLL:=hid HL
 clear hS ha hb hla hlb HDC HC HLT HL
 go_enter Tryz.func18,Tryz.ntmps18
 go_upto_region 2 with (go_at_call 16;refine HWY.out.mono ?_;rintro e w1 ⟨v1,rfl,hN1,hb1⟩;obtain⟨la1,lc1,rfl⟩:∃ la1 lc1,v1= .slice la1 ws.length lc1:=(by obtain⟨-,la1,lc1,h,-⟩:=hN1.here.open;exact⟨la1,lc1,h⟩);obtain⟨ln,HLN⟩:∃ n,Hid (n=ws.length):=⟨_,rfl⟩;rw[←HLN.out] at hN1 ⊢;unfold zby)
 obtain⟨W2,HW2⟩:∃ W,Hid (W=w1.alloc (.cells #[.slice la1 ln lc1] 33)):=⟨_,rfl⟩
 obtain⟨X,HX⟩:∃ X,Hid (X=w1.heap.size):=⟨_,rfl⟩
 rw[←HW2.out,←HX.out]
 have hb12:Below w1.heap.size w1 W2:=by rw[HW2.out];(with_reducible repeat first|exact Below.refl _ _|refine pzA ?_ _|refine pzB ?_ _|refine zab ?_ _|refine Below.drew ?_)
 have hkX:Blk W2 X [.slice la1 ln lc1] 33:=by rw[HW2.out,HX.out];exact Blk.new w1 [.slice la1 ln lc1] _
 have HB2:=hid (hb1.trans (hb12.mono hb1.size))
 by_cases hz:code=0
 ·
  subst hz
  have hWA:=hN1.here.below hb12
  have HMP:=hid (zon (HS.out.below HB2.out) root hWA ⟨HLL.out.1,fun l hl=>by have:=HLL.out.2 l hl;omega⟩ fun l hl=>by have:=HLL.out.2 l hl;omega)
  unfold zh7 zby at HMP
  obtain⟨pc,HPC⟩:∃ p,Hid (p=(zcv s root ws).1):=⟨_,rfl⟩
  obtain⟨ps,HPS⟩:∃ p,Hid (p=(zcv s root ws).2):=⟨_,rfl⟩
  rw[←HPC.out,←HPS.out] at HMP
  have HD:Hid (zgw s root la lb d=(pc,ps,st)):=by
   rw[Hid,HDC2.out,if_neg (fun h=>h rfl),HPC.out,HPS.out]
  have x0:=hkX.cell 0 _ rfl
  have xl:=hkX.lt
  clear hb12 hkX hb1 hN1 hWA HWY
  go_wp2_with (go_at_call 42;refine HMP.out.mono ?_;rintro e w3 ⟨v3,rfl,hO3,hb3⟩;obtain⟨pa,pcap,rfl⟩:=hO3.form;obtain⟨pn,HPN⟩:∃ n,Hid (n=ps.length):=⟨_,rfl⟩;rw[←HPN.out] at hO3 ⊢;have HO3:=hid hO3;have HB3:=hid hb3;clear hO3 hb3)
  have HFIN:Hid (Q (.returned (.tuple #[.slice pa pn pcap,.bool st,.int .u8 (pc:Int)])) w3):=by
   rw[HQ.out,HD.out]
   exact⟨_,rfl,HO3.out.mono HB2.out.size,HB2.out.trans (HB3.out.mono HB2.out.size)⟩
  go_ret3
  exact HFIN.out
 ·
  have e1:((code:Int) != 0)=true:=by simpa using hz
  have e2:((code:Int) == 0)=false:=by simpa using hz
  have HFIN:Hid (Q (.returned (.tuple #[.slice none 0 0,.bool false,.int .u8 (code:Int)])) W2):=by
   rw[HQ.out,HDC2.out,if_pos hz]
   exact⟨_,rfl,World.ownsRow_nil _ _ _ _,HB2.out⟩
  clear hb12 hkX hb1 hN1 HWY
  go_wp2_with fail
  go_ret3
  exact HFIN.out
end
section
open Go.RowKit
def s24:List Mes:=[⟨⟨#[109]⟩,[⟨⟨#[97]⟩,1,3,false,false,0⟩]⟩]
theorem zrm:zgw s24 0 [8,1] [8,2] 0=(0,[[97]],false):=by decide +kernel
theorem zr8:zgw s24 0 [8,1] [8,1] 0=(0,[],false):=by decide +kernel
theorem zmt (w:World):Calls Tryz.prog 7 #[] w fun e w'=>e= .returned (.bool true)∧Below w.heap.size w w':=by
 obtain⟨X,HX⟩:∃ X,Hid (X=w.heap.size):=⟨_,rfl⟩
 obtain⟨W,HW⟩:∃ W,Hid (W=((w.alloc (.cells #[.string ⟨#[97]⟩,.int .i64 1,.int .i64 3,.bool false,.bool false,.int .i64 0] 73)).alloc (.cells #[.string ⟨#[109]⟩,.slice (some ⟨X,0,none⟩) 1 1] 76))):=⟨_,rfl⟩
 have hS:zal W (.slice (some ⟨X+1,0,none⟩) 1 1) s24:=by
  rw[HW.out,HX.out]
  refine zjj (Blk.new' _ [.string ⟨#[109]⟩,.slice (some ⟨w.heap.size,0,none⟩) 1 1] _ _ (by simp)) (by decide) ?_
  refine zn0 (Blk.alloc (Blk.new w _ _) _) 1 rfl (by omega) ?_
  intro f hf
  simp at hf
  rcases hf with rfl
  exact⟨by decide,by decide,by decide,by decide⟩
 have hB:Below w.heap.size w W:=by rw[HW.out];(with_reducible repeat first|exact Below.refl _ _|refine pzA ?_ _|refine pzB ?_ _|refine zab ?_ _|refine Below.drew ?_)
 have HS:=hid hS
 have HB:=hid hB
 have HBY:Hid (∀ V:World,zaj ((V.alloc (.cells #[.int .u8 8,.int .u8 1] 5)).alloc (.cells #[.int .u8 8,.int .u8 2] 5)) (.slice (some ⟨V.heap.size,0,none⟩) 2 2) [8,1]∧zaj ((V.alloc (.cells #[.int .u8 8,.int .u8 1] 5)).alloc (.cells #[.int .u8 8,.int .u8 2] 5)) (.slice (some ⟨V.heap.size+1,0,none⟩) 2 2) [8,2]):=fun V =>
  ⟨zck (Blk.alloc (Blk.new V ([8,1].map ze3) 5) _) 1 2 rfl (by omega),zck (Blk.new' _ ([8,2].map ze3) 5 _ (by simp)) 1 2 rfl (by omega)⟩
 have HBY2:Hid (∀ V:World,zaj ((V.alloc (.cells #[.int .u8 8,.int .u8 1] 5)).alloc (.cells #[.int .u8 8,.int .u8 1] 5)) (.slice (some ⟨V.heap.size,0,none⟩) 2 2) [8,1]∧zaj ((V.alloc (.cells #[.int .u8 8,.int .u8 1] 5)).alloc (.cells #[.int .u8 8,.int .u8 1] 5)) (.slice (some ⟨V.heap.size+1,0,none⟩) 2 2) [8,1]):=fun V =>
  ⟨zck (Blk.alloc (Blk.new V ([8,1].map ze3) 5) _) 1 2 rfl (by omega),zck (Blk.new' _ ([8,1].map ze3) 5 _ (by simp)) 1 2 rfl (by omega)⟩
 have HSTR:Hid (∀ V:World,zbe (V.alloc (.cells #[.string ⟨#[97]⟩] 9)) (.slice (some ⟨V.heap.size,0,none⟩) 1 1) [[97]]):=fun V =>
  ⟨zck (Blk.new V ([[97]].map zbv) 9) 1 1 rfl (by omega),by decide⟩
 clear hS hB
 obtain⟨W1,HW1⟩:∃ V,Hid (V=(W.alloc (.cells #[.int .u8 8,.int .u8 1] 5)).alloc (.cells #[.int .u8 8,.int .u8 2] 5)):=⟨_,rfl⟩
 have hb1:Below W.heap.size W W1:=by rw[HW1.out];(with_reducible repeat first|exact Below.refl _ _|refine pzA ?_ _|refine pzB ?_ _|refine zab ?_ _|refine Below.drew ?_)
 have HB1:=hid hb1
 have h1:=HBY.out W
 rw[←HW1.out] at h1
 have HP1:=hid (zjt (HS.out.below hb1) h1.1 h1.2 (by decide) (by decide) 0 0)
 rw[zrm] at HP1
 unfold ze1 at HP1
 have HZ:Hid (W.heap.size=X+1+1):=by rw[Hid,HW.out,HX.out];simp
 clear hb1 h1
 go_enter Tryz.func7,Tryz.ntmps7
 go_upto_region 2 with fail
 rw[←HX.out,←HW.out]
 go_upto_region 3 with ((try rw[←HW1.out]);go_at_call 18;refine HP1.out.mono ?_;rintro e w2 ⟨v2,rfl,hO2,hb2⟩)
 obtain⟨la,lc,rfl⟩:=hO2.form
 have HB2:=hid (HB1.out.trans (hb2.mono HB1.out.size))
 have HO2:=hid hO2
 obtain⟨W3,HW3⟩:∃ V,Hid (V=(w2.alloc (.cells #[.int .u8 8,.int .u8 1] 5)).alloc (.cells #[.int .u8 8,.int .u8 1] 5)):=⟨_,rfl⟩
 have hb3:Below w2.heap.size w2 W3:=by rw[HW3.out];(with_reducible repeat first|exact Below.refl _ _|refine pzA ?_ _|refine pzB ?_ _|refine zab ?_ _|refine Below.drew ?_)
 have HB3:=hid hb3
 have HB03:=hid (HB2.out.trans (hb3.mono HB2.out.size))
 have h3:=HBY2.out w2
 rw[←HW3.out] at h3
 have HP3:=hid (zjt (HS.out.below HB03.out) h3.1 h3.2 (by decide) (by decide) 0 0)
 rw[zr8] at HP3
 unfold ze1 at HP3
 clear hb2 hO2 hb3 h3
 go_upto_region 4 with ((try rw[←HW3.out]);go_at_call 18;refine HP3.out.mono ?_;rintro e w4 ⟨v4,rfl,hO4,hb4⟩)
 obtain⟨ma,mc,rfl⟩:=hO4.form
 have HB4:=hid (HB03.out.trans (hb4.mono HB03.out.size))
 have HB34:=hid (HB3.out.trans (hb4.mono HB3.out.size))
 obtain⟨W5,HW5⟩:∃ V,Hid (V=w4.alloc (.cells #[.string ⟨#[97]⟩] 9)):=⟨_,rfl⟩
 have hb5:Below w4.heap.size w4 W5:=by rw[HW5.out];(with_reducible repeat first|exact Below.refl _ _|refine pzA ?_ _|refine pzB ?_ _|refine zab ?_ _|refine Below.drew ?_)
 have h5:=HSTR.out w4
 rw[←HW5.out] at h5
 have HSM:=hid (zoi ((HO2.out.later (HB34.out.trans (hb5.mono HB34.out.size))).strs (by decide) (by decide)) h5)
 have HEND:=hid (HB.out.trans ((HB4.out.trans (hb5.mono HB4.out.size)).mono HB.out.size))
 clear hb4 hO4 hb5 h5
 go_wp2_with ((try rw[←HW5.out]);go_at_call 26;refine HSM.out.mono ?_;rintro e w6 ⟨rfl,hb6⟩)
 go_ret
 exact⟨by simp,HEND.out.trans (hb6.mono HEND.out.size)⟩
end
section
open Go.RowKit
theorem ze2 (w:World):(sizeOf 39).run Tryz.prog w= .ok 2 w:=by kernel_rfl
theorem zdR (w:World):(sizeOf 64).run Tryz.prog w= .ok 4 w:=by kernel_rfl
theorem zqf {α β:Type}{S:α→β→Bool}{l:List α}{m:List β}{k:Nat}{x:α}{y:β}(hx:l[k]?=some x)(hy:m[k]?=some y):zeB S (l.drop k) (m.drop k)=(S x y&&zeB S (l.drop (k+1)) (m.drop (k+1))):=by
 obtain⟨h1,e1⟩:=List.getElem?_eq_some_iff.1 hx
 obtain⟨h2,e2⟩:=List.getElem?_eq_some_iff.1 hy
 rw[List.drop_eq_getElem_cons h1,List.drop_eq_getElem_cons h2,e1,e2]
 rfl
theorem zm8 {α β:Type}{S:α→β→Bool}{l:List α}{m:List β}{k:Nat}(hx:l.length≤k)(hy:m.length≤k):zeB S (l.drop k) (m.drop k)=true:=by
 rw[List.drop_eq_nil_of_le hx,List.drop_eq_nil_of_le hy];rfl
theorem zh8 {α:Type}{l m:List α}{k:Nat}{x:α}(h:l.take k=m.take k)(hx:l[k]?=some x)(hy:m[k]?=some x):l.take (k+1)=m.take (k+1):=by
 rw[List.take_add_one,List.take_add_one,h,hx,hy]
theorem zke {α:Type}{l m:List α}{k:Nat}(h:l.take k=m.take k)(hl:l.length=k)(hm:m.length=k):l=m:=by
 rw[List.take_of_length_le (by omega),List.take_of_length_le (by omega)] at h
 exact h
theorem zeH {α β:Type}{S:α→β→Bool}{x:Val α}{y:Val β}(h:¬ (x.num=y.num∧x.words=y.words∧x.texts=y.texts)):zca S x y=false:=by
 unfold zca;rw[decide_eq_false h,Bool.false_and]
theorem zoo {α β:Type}{S:α→β→Bool}{x:Val α}{y:Val β}(h:zeB S x.subs y.subs=false):zca S x y=false:=by
 unfold zca;rw[h,Bool.and_false]
theorem zqg {α β:Type}{S:α→β→Bool}{x:Val α}{y:Val β}(h1:x.num=y.num)(h2:x.words=y.words)(h3:x.texts=y.texts):zca S x y=zeB S x.subs y.subs:=by
 unfold zca;rw[decide_eq_true ⟨h1,h2,h3⟩,Bool.true_and]
def zm9 (a b:Nat):Prop:=∀ (w:World) (v u:Value) (x:M a) (y:M b),zan a w v x→zan b w u y →
 Calls Tryz.prog 72 #[v,u] w fun e w'=>e= .returned (.bool (zbl a b x y))∧Below w.heap.size w w'
theorem zdS {a b:Nat}(ih:zm9 a b){w:World}{v u:Value}{x:Val (M a)}{y:Val (M b)}(h:zbD (zan a) w v x)(hu:zbD (zan b) w u y) :
  Calls Tryz.prog 39 #[v,u] w fun e w'=>e= .returned (.bool (zca (zbl a b) x y))∧Below w.heap.size w w':=by
 obtain⟨wv,tv,sv,rfl,hnum,hW,hT,hS⟩:=h
 obtain⟨wv2,tv2,sv2,rfl,-,hW2,hT2,hS2⟩:=hu
 obtain⟨hwl,wa,wc,rfl,-,hwa⟩:=hW.open
 obtain⟨htl,ta,tc,rfl,-,hta⟩:=hT.open
 obtain⟨hsl,sa,sc,rfl,-,hsa⟩:=hS.open
 obtain⟨hwl2,wa2,wc2,rfl,-,hwa2⟩:=hW2.open
 obtain⟨htl2,ta2,tc2,rfl,-,hta2⟩:=hT2.open
 obtain⟨hsl2,sa2,sc2,rfl,-,hsa2⟩:=hS2.open
 obtain⟨wn,HWN⟩:∃ n,Hid (n=x.words.length):=⟨_,rfl⟩
 obtain⟨tn,HTN⟩:∃ n,Hid (n=x.texts.length):=⟨_,rfl⟩
 obtain⟨sn,HSN⟩:∃ n,Hid (n=x.subs.length):=⟨_,rfl⟩
 obtain⟨wm,HWM⟩:∃ n,Hid (n=y.words.length):=⟨_,rfl⟩
 obtain⟨tm,HTM⟩:∃ n,Hid (n=y.texts.length):=⟨_,rfl⟩
 obtain⟨sm,HSM⟩:∃ n,Hid (n=y.subs.length):=⟨_,rfl⟩
 obtain⟨num,HNX⟩:∃ n,Hid (n=x.num):=⟨_,rfl⟩
 obtain⟨num2,HNY⟩:∃ n,Hid (n=y.num):=⟨_,rfl⟩
 obtain⟨R,HR⟩:∃ R,Hid (R=zca (zbl a b) x y):=⟨_,rfl⟩
 rw[←HWN.out] at hwl ⊢
 rw[←HTN.out] at htl ⊢
 rw[←HSN.out] at hsl ⊢
 rw[←HWM.out] at hwl2 ⊢
 rw[←HTM.out] at htl2 ⊢
 rw[←HSM.out] at hsl2 ⊢
 rw[←HNX.out,←HNY.out,←HR.out]
 have HWA:=hid (And.intro hwa hwa2)
 have HTA:=hid (And.intro hta hta2)
 have HSA:=hid (And.intro hsa hsa2)
 have HIH:=hid ih
 obtain⟨A,HA⟩:∃ b,Hid (b=w.heap.size):=⟨_,rfl⟩
 obtain⟨B,HB⟩:∃ b,Hid (b=w.heap.size+1):=⟨_,rfl⟩
 obtain⟨W0,HW0⟩:∃ W0,Hid (W0=(w.alloc (.cells #[.int .i64 num,.slice wa wn wc,.slice ta tn tc,.slice sa sn sc] 64)).alloc (.cells #[.int .i64 num2,.slice wa2 wm wc2,.slice ta2 tm tc2,.slice sa2 sm sc2] 64)):=⟨_,rfl⟩
 have hb0:Below w.heap.size w W0:=by rw[HW0.out];(with_reducible repeat first|exact Below.refl _ _|refine pzA ?_ _|refine pzB ?_ _|refine zab ?_ _|refine Below.drew ?_)
 have hx0:Blk W0 A [.int .i64 num,.slice wa wn wc,.slice ta tn tc,.slice sa sn sc] 64:=by rw[HW0.out,HA.out];exact (Blk.new w [.int .i64 num,.slice wa wn wc,.slice ta tn tc,.slice sa sn sc] _).alloc _
 have hy0:Blk W0 B [.int .i64 num2,.slice wa2 wm wc2,.slice ta2 tm tc2,.slice sa2 sm sc2] 64:=by rw[HW0.out,HB.out];exact Blk.new' _ [.int .i64 num2,.slice wa2 wm wc2,.slice ta2 tm tc2,.slice sa2 sm sc2] _ _ (by simp)
 have HB0:=hid hb0
 have HX0:=hid (And.intro hx0 hy0)
 have cx0:=hx0.cell 0 _ rfl
 have cx1:=hx0.cell 1 _ rfl
 have cx2:=hx0.cell 2 _ rfl
 have cx3:=hx0.cell 3 _ rfl
 have cy0:=hy0.cell 0 _ rfl
 have cy1:=hy0.cell 1 _ rfl
 have cy2:=hy0.cell 2 _ rfl
 have cy3:=hy0.cell 3 _ rfl
 have clx:=hx0.lt
 have cly:=hy0.lt
 clear hwa hta hsa hwa2 hta2 hsa2 ih hW hT hS hW2 hT2 hS2 hb0 hx0 hy0
 go_enter Tryz.func39,Tryz.ntmps39
 go_upto_region 1 with fail
 rw[←HW0.out,←HB.out,←HA.out]
 by_cases hn:num=num2
 case neg =>
  have hR:R=false:=by rw[HR.out];exact zeH fun h=>hn (by rw[HNX.out,HNY.out];exact h.1)
  have e1:((num:Int) != num2)=true:=by simpa using hn
  subst hR
  go_wp2_with fail
  go_ret
  exact⟨rfl,HB0.out⟩
 case pos =>
 subst hn
 by_cases hwm:wn=wm
 case neg =>
  have hR:R=false:=by rw[HR.out];exact zeH fun h=>hwm (by rw[HWN.out,HWM.out,h.2.1])
  have e1:((wn:Int) != wm)=true:=by simp;omega
  subst hR
  go_wp2_with fail
  go_ret
  exact⟨rfl,HB0.out⟩
 case pos =>
 subst hwm
 by_cases htm:tn=tm
 case neg =>
  have hR:R=false:=by rw[HR.out];exact zeH fun h=>htm (by rw[HTN.out,HTM.out,h.2.2])
  have e1:((tn:Int) != tm)=true:=by simp;omega
  subst hR
  go_wp2_with fail
  go_ret
  exact⟨rfl,HB0.out⟩
 case pos =>
 subst htm
 by_cases hsm:sn=sm
 case neg =>
  have hR:R=false:=by rw[HR.out];exact zoo (zf2 _ _ _ (by rw[←HSN.out,←HSM.out];exact hsm))
  have e1:((sn:Int) != sm)=true:=by simp;omega
  subst hR
  go_wp2_with fail
  go_ret
  exact⟨rfl,HB0.out⟩
 case pos =>
 subst hsm
 go_wp2_with fail
 go_loopw [5] (fun v5 wr=>∃ i:Nat,v5= .int .i64 (i:Int)∧i≤wn∧Hid (x.words.take i=y.words.take i)∧(∃ kw,wr=W0.drewN kw)) (fun v5 _=>wn - (intOf v5).toNat)
 case atStart=>exact⟨0,rfl,by omega,rfl,0,rfl⟩
 case round =>
  obtain⟨i,rfl,hi,HTK,kw,rfl⟩:=hrel
  by_cases hlt:i<wn
  ·
   have hti:x.words[i]?=some (x.words[i]'(by rw[←HWN.out];exact hlt)):=List.getElem?_eq_getElem _
   generalize x.words[i]'(by rw[←HWN.out];exact hlt)=t at hti
   have htj:y.words[i]?=some (y.words[i]'(by rw[←HWM.out];exact hlt)):=List.getElem?_eq_getElem _
   generalize y.words[i]'(by rw[←HWM.out];exact hlt)=t' at htj
   obtain⟨-,g,o,ha,g0⟩:=HWA.out.1 i t hti
   obtain⟨-,g',o',ha',g0'⟩:=HWA.out.2 i t' htj
   replace g0:=zaa HB0.out _ _ g0
   replace g0':=zaa HB0.out _ _ g0'
   have hix:=zad Tryz.underlying62 zeU ha i hlt (cap:=wc)
   have hix':=zad Tryz.underlying62 zeU ha' i hlt (cap:=wc2)
   unfold zgS at g0 g0'
   by_cases htt:t=t'
   ·
    subst htt
    have HT1:=hid (zh8 HTK.out hti htj)
    clear ha ha' hti htj HTK
    go_wp2_with fail
    go_quiet (fail)
    go_wp2_with fail
    go_roundw
    case rel=>exact⟨i+1,by go_num,hlt,HT1.out,_,rfl⟩
    case measure=>simp[intOf];omega
   ·
    have hR:R=false:=by
     rw[HR.out]
     refine zeH fun h=>htt ?_
     rw[h.2.1,htj] at hti
     injection hti with e
     exact e.symm
    have e1:((t:Int) != (t':Int))=true:=by simp;omega
    have e2:((t:Int) == (t':Int))=false:=by simp;omega
    subst hR
    clear ha ha' hti htj HTK htt
    go_wp2_with fail
    go_quiet (fail)
    have HBE:=hid (zab (zab HB0.out kw) nq)
    go_wp2_with fail
    go_ret
    exact⟨rfl,HBE.out⟩
  ·
   obtain rfl:i=wn:=by omega
   have HWE:Hid (x.words=y.words):=zke HTK.out HWN.out.symm HWM.out.symm
   clear HTK
   go_wp2_with fail
   go_loopw [6] (fun v6 wr=>∃ i:Nat,v6= .int .i64 (i:Int)∧i≤tn∧Hid (x.texts.take i=y.texts.take i)∧(∃ kw,wr=W0.drewN kw)) (fun v6 _=>tn - (intOf v6).toNat)
   case atStart=>exact⟨0,rfl,by omega,rfl,kw,rfl⟩
   case round =>
    obtain⟨j,rfl,hj,HTK,kx,rfl⟩:=hrel
    by_cases hlj:j<tn
    ·
     have hti:x.texts[j]?=some (x.texts[j]'(by rw[←HTN.out];exact hlj)):=List.getElem?_eq_getElem _
     generalize x.texts[j]'(by rw[←HTN.out];exact hlj)=t at hti
     have htj:y.texts[j]?=some (y.texts[j]'(by rw[←HTM.out];exact hlj)):=List.getElem?_eq_getElem _
     generalize y.texts[j]'(by rw[←HTM.out];exact hlj)=t' at htj
     obtain⟨-,g,o,ha,g0⟩:=HTA.out.1 j t hti
     obtain⟨-,g',o',ha',g0'⟩:=HTA.out.2 j t' htj
     replace g0:=zaa HB0.out _ _ g0
     replace g0':=zaa HB0.out _ _ g0'
     have hix:=zad Tryz.underlying25 zcm ha j hlj (cap:=tc)
     have hix':=zad Tryz.underlying25 zcm ha' j hlj (cap:=tc2)
     unfold zbv at g0 g0'
     by_cases htt:t=t'
     ·
      subst htt
      have HT1:=hid (zh8 HTK.out hti htj)
      have hb1:((⟨t.toArray⟩:ByteArray).toList == (⟨t.toArray⟩:ByteArray).toList)=true:=by rw[zdP];simp
      have hb2:((⟨t.toArray⟩:ByteArray).toList != (⟨t.toArray⟩:ByteArray).toList)=false:=by rw[bne,hb1];rfl
      clear ha ha' hti htj HTK
      generalize (⟨t.toArray⟩:ByteArray)=T at *
      go_wp2_with fail
      go_quiet (fail)
      go_wp2_with fail
      go_roundw
      case rel=>exact⟨j+1,by go_num,hlj,HT1.out,_,rfl⟩
      case measure=>simp[intOf];omega
     ·
      have hR:R=false:=by
       rw[HR.out]
       refine zeH fun h=>htt ?_
       rw[h.2.2,htj] at hti
       injection hti with e
       exact e.symm
      have hb1:((⟨t.toArray⟩:ByteArray).toList == (⟨t'.toArray⟩:ByteArray).toList)=false:=by rw[zdP];simpa using htt
      have hb2:((⟨t.toArray⟩:ByteArray).toList != (⟨t'.toArray⟩:ByteArray).toList)=true:=by rw[bne,hb1];rfl
      subst hR
      clear ha ha' hti htj HTK htt
      generalize (⟨t.toArray⟩:ByteArray)=T at *
      generalize (⟨t'.toArray⟩:ByteArray)=T' at *
      go_wp2_with fail
      go_quiet (fail)
      have HBE:=hid (zab (zab HB0.out kx) nq)
      go_wp2_with fail
      go_ret
      exact⟨rfl,HBE.out⟩
    ·
     obtain rfl:j=tn:=by omega
     have HTE:Hid (x.texts=y.texts):=zke HTK.out HTN.out.symm HTM.out.symm
     have HRS:Hid (R=zeB (zbl a b) (x.subs.drop 0) (y.subs.drop 0)):=by
      rw[Hid,HR.out]
      exact zqg (by rw[←HNX.out,←HNY.out]) HWE.out HTE.out
     have HB1:Hid (Below w.heap.size w (W0.drewN kx)):=zab HB0.out kx
     have HX1:Hid (Blk (W0.drewN kx) A [.int .i64 num,.slice wa i wc,.slice ta j tc,.slice sa sn sc] 64∧Blk (W0.drewN kx) B [.int .i64 num,.slice wa2 i wc2,.slice ta2 j tc2,.slice sa2 sn sc2] 64):=HX0.out
     obtain⟨W1,HW1⟩:∃ W1,Hid (W1=W0.drewN kx):=⟨_,rfl⟩
     rw[←HW1.out] at HB1 HX1
     clear HTK
     go_wp2_with fail
     rw[←HW1.out]
     clear cx0 cx1 cx2 cx3 cy0 cy1 cy2 cy3 clx cly
     go_loopw [7] (fun v7 wr=>∃ i:Nat,v7= .int .i64 (i:Int)∧i≤sn∧Hid (R=zeB (zbl a b) (x.subs.drop i) (y.subs.drop i))∧Hid (Below W1.heap.size W1 wr)) (fun v7 _=>sn - (intOf v7).toNat)
     case atStart=>exact⟨0,rfl,by omega,HRS.out,Below.refl _ _⟩
     case round =>
      obtain⟨k,rfl,hk,HRK,HG⟩:=hrel
      clear HRS
      have hx:=HX1.out.1.below HG.out
      have hy:=HX1.out.2.below HG.out
      have cx3:=hx.cell 3 _ rfl
      have cy3:=hy.cell 3 _ rfl
      have clx:=hx.lt
      have cly:=hy.lt
      have hbw:Below w.heap.size w wr:=HB1.out.trans (HG.out.mono HB1.out.size)
      by_cases hlk:k<sn
      ·
       have hti:x.subs[k]?=some (x.subs[k]'(by rw[←HSN.out];exact hlk)):=List.getElem?_eq_getElem _
       generalize x.subs[k]'(by rw[←HSN.out];exact hlk)=p at hti
       have htj:y.subs[k]?=some (y.subs[k]'(by rw[←HSM.out];exact hlk)):=List.getElem?_eq_getElem _
       generalize y.subs[k]'(by rw[←HSM.out];exact hlk)=p' at htj
       obtain⟨g,o,u1,u2,ha,g0,g1,hY⟩:=HSA.out.1 k p hti
       obtain⟨g',o',u1',u2',ha',g0',g1',hY'⟩:=HSA.out.2 k p' htj
       obtain⟨q1,s1,t1,q2,s2,t2,e3⟩:=zq9 hY
       cases e3
       obtain⟨q3,s3,t3,q4,s4,t4,e4⟩:=zq9 hY'
       cases e4
       have hkr:=zaa hbw
       replace g0:=hkr _ _ g0
       replace g1:=hkr _ _ g1
       replace g0':=hkr _ _ g0'
       replace g1':=hkr _ _ g1'
       have hgl:=World.block_lt_of_cell? wr _ g0
       have hgl':=World.block_lt_of_cell? wr _ g0'
       have hix:=zae Tryz.underlying42 ze2 ha k hlk (cap:=sc)
       have hix':=zae Tryz.underlying42 ze2 ha' k hlk (cap:=sc2)
       have HC:=hid (HIH.out wr.drew _ _ p p' ((hY.below hbw).keep fun _ _ h=>h) ((hY'.below hbw).keep fun _ _ h=>h))
       obtain⟨c,HCC⟩:∃ c,Hid (c=zbl a b p p'):=⟨_,rfl⟩
       rw[←HCC.out] at HC
       have HRK2:Hid (R=(c&&zeB (zbl a b) (x.subs.drop (k+1)) (y.subs.drop (k+1)))):=by
        rw[Hid,HRK.out,zqf hti htj,HCC.out]
       clear ha ha' hti htj hY hY' hkr hx hy hbw HRK
       cases c with
       | true =>
        have HRK3:Hid (R=zeB (zbl a b) (x.subs.drop (k+1)) (y.subs.drop (k+1))):=by rw[Hid,HRK2.out,Bool.true_and]
        clear HRK2
        go_wp2_with fail
        go_still_tail 10,(by kernel_rfl)
        change wpList _ _ _ _ _ wr.drew
        go_wp2_with fail
        refine HC.out.mono ?_
        rintro e w5 ⟨rfl,hb5⟩
        have HG5:Hid (Below W1.heap.size W1 w5):=HG.out.trans (((Below.refl wr.heap.size wr).drew.trans hb5).mono HG.out.size)
        clear hb5
        go_wp2_with fail
        go_roundw
        case rel=>exact⟨k+1,by go_num,hlk,HRK3.out,HG5.out⟩
        case measure=>simp[intOf];omega
       | false =>
        have hR:R=false:=by rw[HRK2.out,Bool.false_and]
        subst hR
        clear HRK2
        go_wp2_with fail
        go_still_tail 10,(by kernel_rfl)
        change wpList _ _ _ _ _ wr.drew
        go_wp2_with fail
        refine HC.out.mono ?_
        rintro e w5 ⟨rfl,hb5⟩
        have HG5:Hid (Below w.heap.size w w5):=HB1.out.trans ((HG.out.trans (((Below.refl wr.heap.size wr).drew.trans hb5).mono HG.out.size)).mono HB1.out.size)
        clear hb5
        go_wp2_with fail
        go_ret
        exact⟨rfl,HG5.out⟩
      ·
       have HBE:=hid hbw
       have hR:R=true:=by rw[HRK.out,zm8 (by rw[←HSN.out];omega) (by rw[←HSM.out];omega)]
       subst hR
       clear hx hy hbw HRK
       go_wp2_with fail
       go_ret
       exact⟨rfl,HBE.out⟩
end
section
open Go.RowKit
theorem zh9:∀ (a b:Nat),zm9 a b:=by
 intro a
 induction a with
 | zero=>exact fun _ _ _ _ _ _ h _=>h.elim
 | succ a ih =>
  intro b
  cases b with
  | zero=>exact fun _ _ _ _ _ _ h=>h.elim
  | succ b =>
  intro w v u x y h hu
  obtain⟨vv,uv,rfl,hS,hT⟩:=h
  obtain⟨vv2,uv2,rfl,hS2,hT2⟩:=hu
  obtain⟨htl,ta,tc,rfl,-,hta⟩:=hT.open
  obtain⟨hsl,sa,sc,rfl,-,hsa⟩:=hS.open
  obtain⟨htl2,ta2,tc2,rfl,-,hta2⟩:=hT2.open
  obtain⟨hsl2,sa2,sc2,rfl,-,hsa2⟩:=hS2.open
  obtain⟨tn,HTN⟩:∃ n,Hid (n=(M.unk x).length):=⟨_,rfl⟩
  obtain⟨sn,HSN⟩:∃ n,Hid (n=(M.vals x).length):=⟨_,rfl⟩
  obtain⟨tm,HTM⟩:∃ n,Hid (n=(M.unk y).length):=⟨_,rfl⟩
  obtain⟨sm,HSM⟩:∃ n,Hid (n=(M.vals y).length):=⟨_,rfl⟩
  rw[←HTN.out] at htl ⊢
  rw[←HSN.out] at hsl ⊢
  rw[←HTM.out] at htl2 ⊢
  rw[←HSM.out] at hsl2 ⊢
  have HTA:=hid (And.intro hta hta2)
  have HSA:=hid (And.intro hsa hsa2)
  obtain⟨vs,HVS⟩:∃ vs,Hid (vs=M.vals x):=⟨_,rfl⟩
  obtain⟨ts,HTS⟩:∃ ts,Hid (ts=M.unk x):=⟨_,rfl⟩
  obtain⟨us,HUS⟩:∃ vs,Hid (vs=M.vals y):=⟨_,rfl⟩
  obtain⟨rs,HRS⟩:∃ ts,Hid (ts=M.unk y):=⟨_,rfl⟩
  obtain⟨R,HR⟩:∃ R,Hid (R=zbl (a+1) (b+1) x y):=⟨_,rfl⟩
  rw[←HR.out]
  have HRD:Hid (R=(decide (ts=rs)&&zeB (zca (zbl a b)) vs us)):=by rw[Hid,HR.out,HTS.out,HRS.out,HVS.out,HUS.out];rfl
  rw[←HVS.out] at HSN HSA
  rw[←HUS.out] at HSM HSA
  rw[←HTS.out] at HTN HTA
  rw[←HRS.out] at HTM HTA
  have HIH:=hid (ih b)
  obtain⟨A,HA⟩:∃ b,Hid (b=w.heap.size):=⟨_,rfl⟩
  obtain⟨B,HB⟩:∃ b,Hid (b=w.heap.size+1):=⟨_,rfl⟩
  obtain⟨W0,HW0⟩:∃ W0,Hid (W0=(w.alloc (.cells #[.slice sa sn sc,.slice ta tn tc] 39)).alloc (.cells #[.slice sa2 sm sc2,.slice ta2 tm tc2] 39)):=⟨_,rfl⟩
  have hb0:Below w.heap.size w W0:=by rw[HW0.out];(with_reducible repeat first|exact Below.refl _ _|refine pzA ?_ _|refine pzB ?_ _|refine zab ?_ _|refine Below.drew ?_)
  have hx0:Blk W0 A [.slice sa sn sc,.slice ta tn tc] 39:=by rw[HW0.out,HA.out];exact (Blk.new w [.slice sa sn sc,.slice ta tn tc] _).alloc _
  have hy0:Blk W0 B [.slice sa2 sm sc2,.slice ta2 tm tc2] 39:=by rw[HW0.out,HB.out];exact Blk.new' _ [.slice sa2 sm sc2,.slice ta2 tm tc2] _ _ (by simp)
  have HB0:=hid hb0
  have HX0:=hid (And.intro hx0 hy0)
  have cx0:=hx0.cell 0 _ rfl
  have cx1:=hx0.cell 1 _ rfl
  have cy0:=hy0.cell 0 _ rfl
  have cy1:=hy0.cell 1 _ rfl
  have clx:=hx0.lt
  have cly:=hy0.lt
  clear hta hsa hta2 hsa2 ih hT hS hT2 hS2 hb0 hx0 hy0 HVS HTS HUS HRS HR
  clear x y
  go_enter Tryz.func72,Tryz.ntmps72
  go_upto_region 1 with fail
  rw[←HW0.out,←HB.out,←HA.out]
  by_cases hsm:sn=sm
  case neg =>
   have hR:R=false:=by rw[HRD.out,zf2 _ _ _ (by rw[←HSN.out,←HSM.out];exact hsm),Bool.and_false]
   have e1:((sn:Int) != sm)=true:=by simp;omega
   subst hR
   go_wp2_with fail
   go_ret
   exact⟨rfl,HB0.out⟩
  case pos =>
  subst hsm
  by_cases htm:tn=tm
  case neg =>
   have hR:R=false:=by rw[HRD.out,decide_eq_false (fun h=>htm (by rw[HTN.out,HTM.out,h])),Bool.false_and]
   have e1:((tn:Int) != tm)=true:=by simp;omega
   subst hR
   go_wp2_with fail
   go_ret
   exact⟨rfl,HB0.out⟩
  case pos =>
  subst htm
  go_wp2_with fail
  go_loopw [5] (fun v5 wr=>∃ i:Nat,v5= .int .i64 (i:Int)∧i≤sn∧Hid (R=(decide (ts=rs)&&zeB (zca (zbl a b)) (vs.drop i) (us.drop i)))∧Hid (Below W0.heap.size W0 wr)) (fun v5 _=>sn - (intOf v5).toNat)
  case atStart=>exact⟨0,rfl,by omega,HRD.out,Below.refl _ _⟩
  case round =>
   obtain⟨k,rfl,hk,HRK,HG⟩:=hrel
   clear HRD
   have hx:=HX0.out.1.below HG.out
   have hy:=HX0.out.2.below HG.out
   have cx0:=hx.cell 0 _ rfl
   have cy0:=hy.cell 0 _ rfl
   have cx1:=hx.cell 1 _ rfl
   have cy1:=hy.cell 1 _ rfl
   have clx:=hx.lt
   have cly:=hy.lt
   have hbw:Below w.heap.size w wr:=HB0.out.trans (HG.out.mono HB0.out.size)
   by_cases hlk:k<sn
   ·
    have hti:vs[k]?=some (vs[k]'(by rw[←HSN.out];exact hlk)):=List.getElem?_eq_getElem _
    generalize vs[k]'(by rw[←HSN.out];exact hlk)=p at hti
    have htj:us[k]?=some (us[k]'(by rw[←HSM.out];exact hlk)):=List.getElem?_eq_getElem _
    generalize us[k]'(by rw[←HSM.out];exact hlk)=p' at htj
    obtain⟨g,o,u1,u2,u3,ha,g0,g1,g2,g3,hY⟩:=HSA.out.1 k p hti
    obtain⟨g',o',u1',u2',u3',ha',g0',g1',g2',g3',hY'⟩:=HSA.out.2 k p' htj
    obtain⟨p1,i1,j1,p2,i2,j2,p3,i3,j3,rfl,rfl,rfl⟩:=zra hY
    obtain⟨p4,i4,j4,p5,i5,j5,p6,i6,j6,rfl,rfl,rfl⟩:=zra hY'
    have hkr:=zaa hbw
    replace g0:=hkr _ _ g0
    replace g1:=hkr _ _ g1
    replace g2:=hkr _ _ g2
    replace g3:=hkr _ _ g3
    replace g0':=hkr _ _ g0'
    replace g1':=hkr _ _ g1'
    replace g2':=hkr _ _ g2'
    replace g3':=hkr _ _ g3'
    have hgl:=World.block_lt_of_cell? wr _ g0
    have hgl':=World.block_lt_of_cell? wr _ g0'
    have hix:=zae Tryz.underlying37 zdR ha k hlk (cap:=sc)
    have hix':=zae Tryz.underlying37 zdR ha' k hlk (cap:=sc2)
    have HC:=hid (zdS HIH.out (VMsg.keep (w':=wr.drew) (VMsg.below hY hbw) fun _ _ h=>h) (VMsg.keep (w':=wr.drew) (VMsg.below hY' hbw) fun _ _ h=>h))
    obtain⟨c,HCC⟩:∃ c,Hid (c=zca (zbl a b) p p'):=⟨_,rfl⟩
    rw[←HCC.out] at HC
    have HRK2:Hid (R=(decide (ts=rs)&&(c&&zeB (zca (zbl a b)) (vs.drop (k+1)) (us.drop (k+1))))):=by
     rw[Hid,HRK.out,zqf hti htj,HCC.out]
    generalize p.num=num at *
    generalize p'.num=num2 at *
    clear ha ha' hti htj hY hY' hkr hx hy hbw HRK HCC
    cases c with
    | true =>
     have HRK3:Hid (R=(decide (ts=rs)&&zeB (zca (zbl a b)) (vs.drop (k+1)) (us.drop (k+1)))):=by rw[Hid,HRK2.out,Bool.true_and]
     clear HRK2
     go_wp2_with fail
     go_still_tail 10,(by kernel_rfl)
     change wpList _ _ _ _ _ wr.drew
     go_wp2_with fail
     refine HC.out.mono ?_
     rintro e w5 ⟨rfl,hb5⟩
     have HG5:Hid (Below W0.heap.size W0 w5):=HG.out.trans (((Below.refl wr.heap.size wr).drew.trans hb5).mono HG.out.size)
     clear hb5
     go_wp2_with fail
     go_roundw
     case rel=>exact⟨k+1,by go_num,hlk,HRK3.out,HG5.out⟩
     case measure=>simp[intOf];omega
    | false =>
     have hR:R=false:=by rw[HRK2.out,Bool.false_and,Bool.and_false]
     subst hR
     clear HRK2
     go_wp2_with fail
     go_still_tail 10,(by kernel_rfl)
     change wpList _ _ _ _ _ wr.drew
     go_wp2_with fail
     refine HC.out.mono ?_
     rintro e w5 ⟨rfl,hb5⟩
     have HG5:Hid (Below w.heap.size w w5):=HB0.out.trans ((HG.out.trans (((Below.refl wr.heap.size wr).drew.trans hb5).mono HG.out.size)).mono HB0.out.size)
     clear hb5
     go_wp2_with fail
     go_ret
     exact⟨rfl,HG5.out⟩
   ·
    obtain rfl:k=sn:=by omega
    have HRT:Hid (R=decide (ts=rs)):=by rw[Hid,HRK.out,zm8 (by rw[←HSN.out];omega) (by rw[←HSM.out];omega),Bool.and_true]
    have HX1:=hid (And.intro hx hy)
    have HB1:=hid hbw
    obtain⟨W1,rfl⟩:∃ W,W=wr:=⟨_,rfl⟩
    clear hx hy hbw HRK
    go_wp2_with fail
    go_loopw [6] (fun v6 wr=>∃ i:Nat,v6= .int .i64 (i:Int)∧i≤tn∧Hid (ts.take i=rs.take i)∧(∃ kw,wr=W1.drewN kw)) (fun v6 _=>tn - (intOf v6).toNat)
    case atStart=>exact⟨0,rfl,by omega,rfl,0,rfl⟩
    case round =>
     obtain⟨j,rfl,hj,HTK,kx,rfl⟩:=hrel
     by_cases hlj:j<tn
     ·
      have hti:ts[j]?=some (ts[j]'(by rw[←HTN.out];exact hlj)):=List.getElem?_eq_getElem _
      generalize ts[j]'(by rw[←HTN.out];exact hlj)=t at hti
      have htj:rs[j]?=some (rs[j]'(by rw[←HTM.out];exact hlj)):=List.getElem?_eq_getElem _
      generalize rs[j]'(by rw[←HTM.out];exact hlj)=t' at htj
      obtain⟨-,g,o,ha,g0⟩:=HTA.out.1 j t hti
      obtain⟨-,g',o',ha',g0'⟩:=HTA.out.2 j t' htj
      replace g0:=zaa HB1.out _ _ g0
      replace g0':=zaa HB1.out _ _ g0'
      have hix:=zad Tryz.underlying25 zcm ha j hlj (cap:=tc)
      have hix':=zad Tryz.underlying25 zcm ha' j hlj (cap:=tc2)
      unfold zbv at g0 g0'
      by_cases htt:t=t'
      ·
       subst htt
       have HT1:=hid (zh8 HTK.out hti htj)
       have hb1:((⟨t.toArray⟩:ByteArray).toList == (⟨t.toArray⟩:ByteArray).toList)=true:=by rw[zdP];simp
       have hb2:((⟨t.toArray⟩:ByteArray).toList != (⟨t.toArray⟩:ByteArray).toList)=false:=by rw[bne,hb1];rfl
       clear ha ha' hti htj HTK
       generalize (⟨t.toArray⟩:ByteArray)=T at *
       go_wp2_with fail
       go_quiet (fail)
       go_wp2_with fail
       go_roundw
       case rel=>exact⟨j+1,by go_num,hlj,HT1.out,_,rfl⟩
       case measure=>simp[intOf];omega
      ·
       have hR:R=false:=by
        rw[HRT.out]
        refine decide_eq_false fun h=>htt ?_
        rw[h,htj] at hti
        injection hti with e
        exact e.symm
       have hb1:((⟨t.toArray⟩:ByteArray).toList == (⟨t'.toArray⟩:ByteArray).toList)=false:=by rw[zdP];simpa using htt
       have hb2:((⟨t.toArray⟩:ByteArray).toList != (⟨t'.toArray⟩:ByteArray).toList)=true:=by rw[bne,hb1];rfl
       subst hR
       clear ha ha' hti htj HTK htt HRT
       generalize (⟨t.toArray⟩:ByteArray)=T at *
       generalize (⟨t'.toArray⟩:ByteArray)=T' at *
       go_wp2_with fail
       go_quiet (fail)
       have HBE:=hid (zab (zab HB1.out kx) nq)
       go_wp2_with fail
       go_ret
       exact⟨rfl,HBE.out⟩
     ·
      obtain rfl:j=tn:=by omega
      have hR:R=true:=by rw[HRT.out,zke HTK.out HTN.out.symm HTM.out.symm];simp
      subst hR
      have HBE:=hid (zab HB1.out kx)
      clear HTK HRT
      go_wp2_with fail
      go_ret
      exact⟨rfl,HBE.out⟩
end
section
open Go.RowKit
theorem zqh {α:Type}{l:List (Val α)}{n:Int}{k:Nat}{v:Val α}(hv:l[k]?=some v):zcE (l.drop k) n=if v.num=n then some v else zcE (l.drop (k+1)) n:=by
 obtain⟨h1,e1⟩:=List.getElem?_eq_some_iff.1 hv
 rw[List.drop_eq_getElem_cons h1,e1]
 unfold zcE
 rw[List.find?_cons]
 by_cases h:v.num=n
 ·
  simp[h]
 ·
  simp[h]
def zr9 {α:Type}(l:List (Val α))(n i:Int):Prop:=(i= -1∧zcE l n=none)∨∃ (k:Nat) (v:Val α),i=(k:Int)∧l[k]?=some v∧v.num=n∧zcE l n=some v
theorem zlq {α:Type}{P:World→Value→α→Prop}{w:World}{a1 a2:Option Addr}{n1 c1 n2 c2:Nat}{l:List (Val α)}(h:zcR P w (.slice a1 n1 c1) l)(n:Int) :
  Calls Tryz.prog 38 #[.agg #[.slice a1 n1 c1,.slice a2 n2 c2],.int .i64 n] w fun e w'=>∃ i,e= .returned (.int .i64 i)∧zr9 l n i∧Below w.heap.size w w':=by
 obtain⟨hl,a,c,e,-,hat⟩:=h.open
 obtain⟨rfl,hn,rfl⟩:a1=a∧n1=l.length∧c1=c:=by injection e with e1 e2 e3;exact⟨e1,e2,e3⟩
 clear e
 have HN:=hid hn
 have HAT:=hid hat
 have hl1:n1≤140737488355328:=by omega
 obtain⟨A,HA⟩:∃ b,Hid (b=w.heap.size):=⟨_,rfl⟩
 obtain⟨W0,HW0⟩:∃ W,Hid (W=w.alloc (.cells #[.slice a1 n1 c1,.slice a2 n2 c2] 39)):=⟨_,rfl⟩
 have hb0:Below w.heap.size w W0:=by rw[HW0.out];(with_reducible repeat first|exact Below.refl _ _|refine pzA ?_ _|refine pzB ?_ _|refine zab ?_ _|refine Below.drew ?_)
 have hk0:Blk W0 A [.slice a1 n1 c1,.slice a2 n2 c2] 39:=by rw[HW0.out,HA.out];exact Blk.new w [.slice a1 n1 c1,.slice a2 n2 c2] _
 have HB0:=hid hb0
 have c0:=hk0.cell 0 _ rfl
 have cl:=hk0.lt
 clear h hl hn hat hb0 hk0
 go_enter Tryz.func38,Tryz.ntmps38
 go_upto_region 1 with fail
 rw[←HW0.out,←HA.out]
 go_wp2_with fail
 go_loop [5] (fun v5=>∃ i:Nat,i≤n1∧v5= .int .i64 (i:Int)∧Hid (zcE l n=zcE (l.drop i) n)) (fun v5=>n1 - (intOf v5).toNat)
 case atStart=>exact⟨0,by omega,rfl,rfl⟩
 case round =>
  obtain⟨i,hi,rfl,HI⟩:=hrel
  by_cases hlt:i<n1
  ·
   obtain⟨v,hv⟩:∃ v,l[i]?=some v:=⟨_,List.getElem?_eq_getElem (by rw[←HN.out];exact hlt)⟩
   obtain⟨b,o,v1,v2,v3,ha,g0,-⟩:=HAT.out i v hv
   replace g0:=zaa HB0.out _ _ g0
   have hix:=zae Tryz.underlying37 zdR ha i hlt (cap:=c1)
   have HD:=hid (zqh (n:=n) hv)
   by_cases hvn:v.num=n
   ·
    have HF:Hid (zr9 l n (i:Int)):=.inr ⟨i,v,rfl,hv,hvn,by rw[HI.out,HD.out,if_pos hvn]⟩
    rw[hvn] at g0
    clear hv ha HD HI hvn
    go_wp2_with fail
    go_ret
    exact⟨_,rfl,HF.out,HB0.out⟩
   ·
    have HI2:Hid (zcE l n=zcE (l.drop (i+1)) n):=by rw[Hid,HI.out,HD.out,if_neg hvn]
    have e1:(v.num == n)=false:=by simpa using hvn
    have e2:decide (v.num=n)=false:=decide_eq_false hvn
    generalize v.num=vn at *
    clear hv ha HD HI hvn
    go_wp2_with fail
    go_round
    case rel=>exact⟨i+1,by omega,by go_num,HI2.out⟩
    case measure=>simp[intOf];omega
  ·
   have HF:Hid (zr9 l n (-1)):=.inl ⟨rfl,by rw[HI.out,List.drop_eq_nil_of_le (by rw[←HN.out];omega)];rfl⟩
   clear HI
   go_wp2_with fail
   go_ret
   exact⟨_,rfl,HF.out,HB0.out⟩
theorem zqi {a b:Nat}(x:M (a+1))(y:M (b+1)):zbl (a+1) (b+1) (⟨[],M.unk x⟩:zoQ (M a)) (⟨[],M.unk y⟩:zoQ (M b))=zit (a+1) (b+1) x y:=by
 show (decide (M.unk x=M.unk y)&&zeB (zca (zbl a b)) [] [])=decide (M.unk x=M.unk y)
 simp[zeB]
theorem zna {d:Nat}(w:World):zcR (zan d) w (.slice none 0 0) []:=⟨[],rfl,by simp,⟨rfl,by simp,_,_,rfl,Nat.le_refl _,by omega,fun _=>rfl,fun j u hu=>by simp at hu⟩,by simp⟩
theorem zf7 {a b:Nat}{w:World}{v u:Value}{x:M a}{y:M b}(hx:zan a w v x)(hy:zan b w u y) :
  Calls Tryz.prog 40 #[v,u] w fun e w'=>e= .returned (.bool (zit a b x y))∧Below w.heap.size w w':=by
 cases a with
 | zero=>exact x.elim
 | succ a =>
 cases b with
 | zero=>exact y.elim
 | succ b =>
 obtain⟨vv,uv,rfl,hV,hU⟩:=hx
 obtain⟨vv2,uv2,rfl,hV2,hU2⟩:=hy
 obtain⟨-,va,vc,rfl,-,-⟩:=hV.open
 obtain⟨-,ua,uc,rfl,-,-⟩:=hU.open
 obtain⟨-,va2,vc2,rfl,-,-⟩:=hV2.open
 obtain⟨-,ua2,uc2,rfl,-,-⟩:=hU2.open
 obtain⟨d,HD⟩:∃ d,Hid (d=zit (a+1) (b+1) x y):=⟨_,rfl⟩
 have HS:=hid fun (W:World) (hW:Below w.heap.size w W)=>zh9 (a+1) (b+1) W _ _ (⟨[],M.unk x⟩:zoQ (M a)) (⟨[],M.unk y⟩:zoQ (M b)) ⟨_,_,rfl,zna W,hU.keep (zaa hW)⟩ ⟨_,_,rfl,zna W,hU2.keep (zaa hW)⟩
 rw[zqi,←HD.out] at HS
 rw[←HD.out]
 generalize (M.vals x).length=xn at *
 generalize (M.vals y).length=yn at *
 generalize (M.unk x).length=un at *
 generalize (M.unk y).length=um at *
 clear hV hU hV2 hU2 HD
 go_enter Tryz.func40,Tryz.ntmps40
 go_wp2_with (go_at_call 72;refine (HS.out _ (by (with_reducible repeat first|exact Below.refl _ _|refine pzA ?_ _|refine pzB ?_ _|refine zab ?_ _|refine Below.drew ?_))).mono ?_;rintro e w1 ⟨rfl,hb1⟩)
 go_ret
 refine⟨rfl,?_⟩
 have hb:Below w.heap.size w ((w.alloc (.cells #[.slice va xn vc,.slice ua un uc] 39)).alloc (.cells #[.slice va2 yn vc2,.slice ua2 um uc2] 39)):=by (with_reducible repeat first|exact Below.refl _ _|refine pzA ?_ _|refine pzB ?_ _|refine zab ?_ _|refine Below.drew ?_)
 exact hb.trans (hb1.mono hb.size)
theorem zia {a b:Nat}{w:World}{v u:Value}{x:M a}{y:M b}(hx:zan a w v x)(hy:zan b w u y) :
  Calls Tryz.prog 15 #[v,u] w fun e w'=>e= .returned (.bool !zit a b x y)∧Below w.heap.size w w':=by
 have HS:=hid fun (W:World) (hW:Below w.heap.size w W)=>zf7 (hx.below hW) (hy.below hW)
 obtain⟨a1,n1,c1,a2,n2,c2,rfl⟩:=hx.form
 obtain⟨b1,m1,e1,b2,m2,e2,rfl⟩:=hy.form
 generalize zit a b x y=d at *
 clear hx hy
 go_enter Tryz.func15,Tryz.ntmps15
 go_wp2_with (go_at_call 40;refine (HS.out _ (by (with_reducible repeat first|exact Below.refl _ _|refine pzA ?_ _|refine pzB ?_ _|refine zab ?_ _|refine Below.drew ?_))).mono ?_;rintro e w1 ⟨rfl,hb1⟩)
 go_ret
 refine⟨rfl,?_⟩
 have hb:Below w.heap.size w ((w.alloc (.cells #[.slice a1 n1 c1,.slice a2 n2 c2] 39)).alloc (.cells #[.slice b1 m1 e1,.slice b2 m2 e2] 39)):=by (with_reducible repeat first|exact Below.refl _ _|refine pzA ?_ _|refine pzB ?_ _|refine zab ?_ _|refine Below.drew ?_)
 exact hb.trans (hb1.mono hb.size)
end
section
open Go.RowKit
theorem zmj.drew {wr w10:World}{base Z0 Z1:Nat}{v:Value}{o:List (List Int)}(h:zmj base Z0 Z1 w10 wr v o):zmj base Z0 Z1 w10 wr.drew v o:=
 ⟨h.rows.below (Below.refl _ _).drew,h.size,h.own,h.same⟩
theorem zmj.more2 {wr w10:World}{base Z0 Z1 on:Nat}{oa:Option Addr}{oc:Nat}{o:List (List Int)}(h:zmj base Z0 Z1 w10 wr (.slice oa on oc) o)(ho:o.length=on)(hbs:base≤wr.heap.size)(hl:on≤1099511627776){n:Int}(hn:zbi n)
  {wa:Option Addr} {wn wc:Nat} {t:List Int} (hw:zaI wr (.slice wa wn wc) t) (ht:t.length≤1099511627776) :
  ∃ a6 n6 c6 w6,(Builtin.append_ #[50,50] 50 #[.slice (some ⟨wr.heap.size,0,none⟩) 1 1,.slice wa wn wc]).run Tryz.prog (wr.alloc (.cells #[.int .i64 n] 3))= .ok (.slice a6 n6 c6) w6∧Below wr.heap.size wr w6 ∧
   ∃ a' c' w7,(Builtin.append_ #[31,31] 31 #[.slice oa on oc,.slice (some ⟨w6.heap.size,0,none⟩) 1 1]).run Tryz.prog (w6.alloc (.cells #[.slice a6 n6 c6] 50))= .ok (.slice a' (on+1) c') w7 ∧
    zmj base Z0 Z1 w10 w7 (.slice a' (on+1) c') (o++[n::t])∧Below base wr w7:=by
 have hb1:Below wr.heap.size wr (wr.alloc (.cells #[.int .i64 n] 3)):=(Below.refl _ _).alloc (Nat.le_refl _) _
 obtain⟨v6,w6,hr6,hO6,hg6,-⟩:=zb9 (zhX wr n) (hw.keep (zaa hb1)) (by simp;omega) hb1.size
 have hb6:Below wr.heap.size wr w6:=hb1.grown hg6 hb1.size fun q e=>(World.ownsRow.lt (zhX wr n) q e).1
 obtain⟨a6,c6,rfl⟩:=hO6.form
 obtain⟨a6',n6',c6',w6',hr6',a',c',w7,hr7,hJ,hb7⟩:=h.more ho hbs hl hn hw ht
 rw[hr6] at hr6'
 cases hr6'
 exact⟨a6,_,c6,w6,hr6,hb6,a',c',w7,hr7,hJ,hb7⟩
end
end Go.Proofs.YtpckoeicbjfnhaaGreatDoor
