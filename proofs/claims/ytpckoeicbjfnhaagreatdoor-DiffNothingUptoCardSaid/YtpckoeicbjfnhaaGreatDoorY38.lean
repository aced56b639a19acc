/- Parts of a proof: texts of the author, merged. No condition of their own. -/
import Derived.Test.YtpckoeicbjfnhaaGreatDoorY11
import Derived.Test.YtpckoeicbjfnhaaGreatDoorY16
import Derived.Test.YtpckoeicbjfnhaaGreatDoorY17
import Derived.Test.YtpckoeicbjfnhaaGreatDoorY28
import Derived.Test.YtpckoeicbjfnhaaGreatDoorY30
import Derived.Test.YtpckoeicbjfnhaaGreatDoorY32
import Derived.Test.YtpckoeicbjfnhaaGreatDoorY35
import Derived.Test.YtpckoeicbjfnhaaGreatDoorY37
namespace Go.Proofs.YtpckoeicbjfnhaaGreatDoor
set_option maxRecDepth 100000
set_option maxHeartbeats 16000000
section
open Go.RowKit
def zbg (s:List Mes)(root:Int)(a b:List UInt8)(d:Int):Nat × List (List Int) × Bool:=
 if zdJ s root a b d≠0 then (zdJ s root a b d,[],false) else zcb s root (d.toNat+1) (d.toNat+1) (tof s d.toNat root.toNat a) (tof s d.toNat root.toNat b)
theorem zgL {w:World}{vs va vb:Value}{s:List Mes}{la lb:List UInt8}(hS:zap w vs s)(ha:zal w va la)(hb:zal w vb lb)(hla:la.length≤1073741824)(hlb:lb.length≤1073741824)(root d:Int) :
  Calls Tryz.prog 16 #[vs,.int .i64 root,va,vb,.int .i64 d] w (zdI w (zbg s root la lb d)):=by
 obtain⟨B,HB⟩:∃ B,Hid (B=w.heap.size):=⟨_,rfl⟩
 obtain⟨W0,HW0⟩:∃ W,Hid (W=w.alloc (.cells #[.slice none 0 0] 33)):=⟨_,rfl⟩
 have hb0:Below w.heap.size w W0:=by rw[HW0.out];(with_reducible repeat first|exact Below.refl _ _|refine pzA ?_ _|refine pzB ?_ _|refine zab ?_ _|refine Below.drew ?_)
 have hk0:Blk W0 B [.slice none 0 0] 33:=by rw[HW0.out,HB.out];exact Blk.new w [.slice none 0 0] _
 have HBO:=hid (zi0 (hS.below hb0) (ha.below hb0) (hb.below hb0) (by omega) (by omega) root d)
 have HBK:=hid hk0
 have HB0:=hid hb0
 have HS:=hid hS
 obtain⟨-,sa,sc,rfl,-⟩:=hS.open
 obtain⟨-,aa,ac,rfl,-⟩:=ha.open
 obtain⟨-,ba,bc,rfl,-⟩:=hb.open
 obtain⟨sn,HSN⟩:∃ n,Hid (n=s.length):=⟨_,rfl⟩
 obtain⟨an,HAN⟩:∃ n,Hid (n=la.length):=⟨_,rfl⟩
 obtain⟨bn,HBN⟩:∃ n,Hid (n=lb.length):=⟨_,rfl⟩
 rw[←HSN.out] at HBO HS ⊢
 rw[←HAN.out] at HBO ⊢
 rw[←HBN.out] at HBO ⊢
 obtain⟨Q,HQ⟩:∃ Q:Ending→World→Prop,Hid (Q=zdI w (zbg s root la lb d)):=⟨_,rfl⟩
 rw[←HQ.out]
 obtain⟨z,HZ⟩:∃ z,Hid (z=zdJ s root la lb d):=⟨_,rfl⟩
 unfold zh7 at HBO
 rw[←HZ.out] at HBO
 have HMW:Hid (mwt (d.toNat+1) (tof s d.toNat root.toNat la)+mwt (d.toNat+1) (tof s d.toNat root.toNat lb)≤1099511627776):=by
  have h1:=zcs s d.toNat root.toNat la
  have h2:=zcs s d.toNat root.toNat lb
  show _≤_
  omega
 clear hS ha hb hla hlb hb0 hk0
 go_enter Tryz.func16,Tryz.ntmps16
 go_upto_region 1 with fail
 rw[←HW0.out,←HB.out]
 go_upto_region 2 with (go_at_call 41;refine HBO.out.mono ?_;rintro e w1 ⟨a1,n1,c1,a2,n2,c2,b1,m1,e1,b2,m2,e2,rfl,hb1,hM⟩)
 obtain⟨W2,HW2⟩:∃ W,Hid (W=(w1.alloc (.cells #[.slice a1 n1 c1,.slice a2 n2 c2] 27)).alloc (.cells #[.slice b1 m1 e1,.slice b2 m2 e2] 27)):=⟨_,rfl⟩
 obtain⟨X,HX⟩:∃ X,Hid (X=w1.heap.size):=⟨_,rfl⟩
 rw[←HW2.out,←HX.out]
 have hb12:Below w1.heap.size w1 W2:=by rw[HW2.out];(with_reducible repeat first|exact Below.refl _ _|refine pzA ?_ _|refine pzB ?_ _|refine zab ?_ _|refine Below.drew ?_)
 have hkX:Blk W2 X [.slice a1 n1 c1,.slice a2 n2 c2] 27:=by rw[HW2.out,HX.out];exact (Blk.new w1 [.slice a1 n1 c1,.slice a2 n2 c2] _).alloc _
 have hkY:Blk W2 (X+1) [.slice b1 m1 e1,.slice b2 m2 e2] 27:=by rw[HW2.out,HX.out];exact Blk.new' _ [.slice b1 m1 e1,.slice b2 m2 e2] _ _ (by simp)
 have HB02:=hid (hb1.trans (hb12.mono hb1.size))
 have HB2:=hid (HB0.out.trans (HB02.out.mono HB0.out.size))
 have HBB:Hid (w.heap.size≤B):=by rw[HB.out];exact Nat.le_refl _
 by_cases hz:z=0
 ·
  obtain⟨hM1,hM2⟩:=hM hz
  obtain⟨c,HC⟩:∃ c,Hid (c=zcb s root (d.toNat+1) (d.toNat+1) (tof s d.toNat root.toNat la) (tof s d.toNat root.toNat lb)):=⟨_,rfl⟩
  have HT:=hid (zpV (HS.out.below HB2.out) root (hM1.below hb12) (hM2.below hb12) HMW.out)
  rw[←HC.out] at HT
  have HWC:Hid (zbg s root la lb d=c):=by unfold Hid zbg;rw[if_neg (by rw[←HZ.out];exact fun h=>h hz),HC.out]
  obtain⟨code,ws,st⟩:=c
  have x0:=hkX.cell 0 _ rfl
  have x1:=hkX.cell 1 _ rfl
  have xl:=hkX.lt
  have y0:=hkY.cell 0 _ rfl
  have y1:=hkY.cell 1 _ rfl
  have yl:=hkY.lt
  subst hz
  clear hb12 hkX hkY hb1 hM hM1 hM2 HBO
  go_wp2_with (go_at_call 10;refine HT.out.mono ?_;rintro e w3 ⟨v3,rfl,hN3,hb3⟩;obtain⟨la3,lc3,rfl⟩:∃ la3 lc3,v3= .slice la3 ws.length lc3:=(by obtain⟨-,la3,lc3,h,-⟩:=hN3.here.open;exact⟨la3,lc3,h⟩);obtain⟨ln,HLN⟩:∃ n,Hid (n=ws.length):=⟨_,rfl⟩;rw[←HLN.out] at hN3 ⊢;have HN3:=hid hN3;have HB3:=hid hb3;have hkr:=(HBK.out.below HB02.out).below hb3;have r0:=hkr.cell 0 _ rfl;have rf:=hkr.free 0;have rl:=hkr.lt;clear hN3 hb3 hkr;unfold zbF)
  have HCS:Hid ((w3.setCell ⟨B,0,none⟩ (.slice la3 ln lc3)).cell? ⟨B,0,none⟩=some (.slice la3 ln lc3)):=World.cell?_setCell_same' _ _ _ (by rw[r0];rfl)
  have HFIN:Hid (Q (.returned (.tuple #[zbF (.slice la3 ln lc3),.bool st,.int .u8 (code:Int)])) (w3.setCell ⟨B,0,none⟩ (.slice la3 ln lc3))):=by
   rw[HQ.out,HWC.out]
   refine⟨_,rfl,HN3.out.later HB2.out.size (by rw[World.size_setCell];exact Nat.le_refl _) (fun b' h1 h2=>Below.heap_setCell _ _ _ b' ?_),(HB2.out.trans (HB3.out.mono HB2.out.size)).setCell HBB.out _⟩
   have h3:=HB02.out.size
   have h4:=HBK.out.lt
   show b'≠B
   omega
  exact bodyPost_ret (v:=.tuple #[zbF (.slice la3 ln lc3),.bool st,.int .u8 code]) (by simp[results,Tryz.results16,go_sem,zbF,HCS.out]) rfl HFIN.out
 ·
  have e1:((z:Int) != 0)=true:=by simpa using hz
  have e2:((z:Int) == 0)=false:=by simpa using hz
  have hkr:=HBK.out.below HB02.out
  have r0:=hkr.cell 0 _ rfl
  have rf:=hkr.free 0
  have rl:=hkr.lt
  have HCS:Hid ((W2.setCell ⟨B,0,none⟩ (.slice none 0 0)).cell? ⟨B,0,none⟩=some (.slice none 0 0)):=World.cell?_setCell_same' _ _ _ (by rw[r0];rfl)
  have HFIN:Hid (Q (.returned (.tuple #[zbF (.slice none 0 0),.bool false,.int .u8 (z:Int)])) (W2.setCell ⟨B,0,none⟩ (.slice none 0 0))):=by
   have h3:Below w.heap.size w (W2.setCell ⟨B,0,none⟩ (.slice none 0 0)):=HB2.out.setCell HBB.out _
   rw[HQ.out]
   unfold zbg
   rw[if_pos (by rw[←HZ.out];exact hz),←HZ.out]
   exact⟨_,rfl,ziZ _ _ h3.size,h3⟩
  clear hb12 hkX hkY hb1 hM HBO hkr
  go_wp2_with fail
  exact bodyPost_ret (v:=.tuple #[zbF (.slice none 0 0),.bool false,.int .u8 z]) (by simp[results,Tryz.results16,go_sem,zbF,HCS.out]) rfl HFIN.out
theorem zja {s:List Mes}{root d:Int}{a b:List UInt8}(ha:a.length≤1073741824)(hb:b.length≤1073741824):(zbg s root a b d).2.1.length≤1099511627776∧∀ l∈(zbg s root a b d).2.1,l.length≤65:=by
 unfold zbg
 split
 ·
  simp
 ·
  rename_i h
  have h:=zhh (Classical.not_not.1 h)
  obtain⟨g1,-,g3,-⟩:=za7 h.1
  unfold zcb
  rw[if_neg (by rw[g1];decide)]
  split
  ·
   simp
  ·
   split
   ·
    simp
   ·
    have h1:=zcs s d.toNat root.toNat a
    have h2:=zcs s d.toNat root.toNat b
    refine⟨?_,fun l hl=>?_⟩
    ·
     have:=zdF g1 (d.toNat+1) (d.toNat+1) root (tof s d.toNat root.toNat a) (tof s d.toNat root.toNat b)
     simp only
     omega
    ·
     have:=zkk (d.toNat+1) (d.toNat+1) root (tof s d.toNat root.toNat a) (tof s d.toNat root.toNat b) l hl
     omega
def zhj (s:List Mes)(root:Int)(a b:List UInt8)(d:Int):Nat × List (List UInt8) × Bool:=
 if (zbg s root a b d).1≠0 then ((zbg s root a b d).1,[],false) else ((zcM s root (zbg s root a b d).2.1).1,(zcM s root (zbg s root a b d).2.1).2,(zbg s root a b d).2.2)
def zfA (w:World)(c:Nat × List (List UInt8) × Bool)(e:Ending)(w':World):Prop:=
 ∃ v',e= .returned (.tuple #[v',.bool c.2.2,.int .u8 (c.1:Nat)])∧zar w' w.heap.size v' c.2.1∧Below w.heap.size w w'
theorem zky {w:World}{vs va vb:Value}{s:List Mes}{la lb:List UInt8}(hS:zap w vs s)(ha:zal w va la)(hb:zal w vb lb)(hla:la.length≤1073741824)(hlb:lb.length≤1073741824)(root d:Int) :
  Calls Tryz.prog 18 #[vs,.int .i64 root,va,vb,.int .i64 d] w (zfA w (zhj s root la lb d)):=by
 have HWY:=hid (zgL hS ha hb hla hlb root d)
 have HLT:=hid (zja (s:=s) (root:=root) (d:=d) hla hlb)
 have HS:=hid hS
 obtain⟨-,sa,sc,rfl,-⟩:=hS.open
 obtain⟨-,aa,ac,rfl,-⟩:=ha.open
 obtain⟨-,ba,bc,rfl,-⟩:=hb.open
 obtain⟨sn,HSN⟩:∃ n,Hid (n=s.length):=⟨_,rfl⟩
 obtain⟨an,HAN⟩:∃ n,Hid (n=la.length):=⟨_,rfl⟩
 obtain⟨bn,HBN⟩:∃ n,Hid (n=lb.length):=⟨_,rfl⟩
 rw[←HSN.out] at HWY HS ⊢
 rw[←HAN.out] at HWY ⊢
 rw[←HBN.out] at HWY ⊢
 obtain⟨Q,HQ⟩:∃ Q:Ending→World→Prop,Hid (Q=zfA w (zhj s root la lb d)):=⟨_,rfl⟩
 rw[←HQ.out]
 have HDC:Hid (∀ c,c=zbg s root la lb d→zhj s root la lb d=if c.1≠0 then (c.1,[],false) else ((zcM s root c.2.1).1,(zcM s root c.2.1).2,c.2.2)):=by
  rintro c rfl;rfl
 obtain⟨c,HC⟩:∃ c,Hid (c=zbg s root la lb d):=⟨_,rfl⟩
 have HDC2:=hid (HDC.out c HC.out)
 rw[←HC.out] at HWY HLT
 obtain⟨code,ws,st⟩:=c
 have HL:=HLT.out
 have HLL:=hid HL
 clear hS ha hb hla hlb HDC HC HLT HL
 go_enter Tryz.func18,Tryz.ntmps18
 go_upto_region 2 with (go_at_call 16;refine HWY.out.mono ?_;rintro e w1 ⟨v1,rfl,hN1,hb1⟩;obtain⟨la1,lc1,rfl⟩:∃ la1 lc1,v1= .slice la1 ws.length lc1:=(by obtain⟨-,la1,lc1,h,-⟩:=hN1.here.open;exact⟨la1,lc1,h⟩);obtain⟨ln,HLN⟩:∃ n,Hid (n=ws.length):=⟨_,rfl⟩;rw[←HLN.out] at hN1 ⊢;unfold zbF)
 obtain⟨W2,HW2⟩:∃ W,Hid (W=w1.alloc (.cells #[.slice la1 ln lc1] 33)):=⟨_,rfl⟩
 obtain⟨X,HX⟩:∃ X,Hid (X=w1.heap.size):=⟨_,rfl⟩
 rw[←HW2.out,←HX.out]
 have hb12:Below w1.heap.size w1 W2:=by rw[HW2.out];(with_reducible repeat first|exact Below.refl _ _|refine pzA ?_ _|refine pzB ?_ _|refine zab ?_ _|refine Below.drew ?_)
 have hkX:Blk W2 X [.slice la1 ln lc1] 33:=by rw[HW2.out,HX.out];exact Blk.new w1 [.slice la1 ln lc1] _
 have HB2:=hid (hb1.trans (hb12.mono hb1.size))
 by_cases hz:code=0
 ·
  subst hz
  have hWA:=hN1.here.below hb12
  have HMP:=hid (zqa (HS.out.below HB2.out) root hWA ⟨HLL.out.1,fun l hl=>by have:=HLL.out.2 l hl;omega⟩ fun l hl=>by have:=HLL.out.2 l hl;omega)
  unfold zi9 zbF at HMP
  obtain⟨pc,HPC⟩:∃ p,Hid (p=(zcM s root ws).1):=⟨_,rfl⟩
  obtain⟨ps,HPS⟩:∃ p,Hid (p=(zcM s root ws).2):=⟨_,rfl⟩
  rw[←HPC.out,←HPS.out] at HMP
  have HD:Hid (zhj s root la lb d=(pc,ps,st)):=by
   rw[Hid,HDC2.out,if_neg (fun h=>h rfl),HPC.out,HPS.out]
  have x0:=hkX.cell 0 _ rfl
  have xl:=hkX.lt
  clear hb12 hkX hb1 hN1 hWA HWY
  go_wp2_with (go_at_call 42;refine HMP.out.mono ?_;rintro e w3 ⟨v3,rfl,hO3,hb3⟩;obtain⟨pa,pcap,rfl⟩:=hO3.form;obtain⟨pn,HPN⟩:∃ n,Hid (n=ps.length):=⟨_,rfl⟩;rw[←HPN.out] at hO3 ⊢;have HO3:=hid hO3;have HB3:=hid hb3;clear hO3 hb3)
  have HFIN:Hid (Q (.returned (.tuple #[.slice pa pn pcap,.bool st,.int .u8 (pc:Int)])) w3):=by
   rw[HQ.out,HD.out]
   exact⟨_,rfl,HO3.out.mono HB2.out.size,HB2.out.trans (HB3.out.mono HB2.out.size)⟩
  go_ret3
  exact HFIN.out
 ·
  have e1:((code:Int) != 0)=true:=by simpa using hz
  have e2:((code:Int) == 0)=false:=by simpa using hz
  have HFIN:Hid (Q (.returned (.tuple #[.slice none 0 0,.bool false,.int .u8 (code:Int)])) W2):=by
   rw[HQ.out,HDC2.out,if_pos hz]
   exact⟨_,rfl,World.ownsRow_nil _ _ _ _,HB2.out⟩
  clear hb12 hkX hb1 hN1 HWY
  go_wp2_with fail
  go_ret3
  exact HFIN.out
end
section
open Go.RowKit
theorem zhk (rec:Nat→List UInt8→Nat × Nat)(deep:Bool)(fs:List Fld)(l:List UInt8)(hrec:∀ o x,(rec o x).2<256):∀ (k i:Nat),(zeZ rec deep fs l k i).2<256
 | 0,_=>by rw[zeZ];decide
 | k+1,i=>by
  rw[zeZ]
  by_cases hi:l.length≤i
  ·
   rw[if_pos hi];decide
  rw[if_neg hi]
  have hv:(zao fs l i).2.2.2<256∧(zgW rec deep fs l (zao fs l i)).2<256:=by
   rcases zbC fs l i with ⟨c,h,e,h2⟩|⟨r,h1,h2,h3,h4,-,e|⟨j,run,-,e,-⟩⟩
   ·
    rw[e]
    refine⟨h2,?_⟩
    unfold zgW
    rw[if_neg (by simp)]
    simp only[Bool.false_eq_true,if_false]
    split
    ·
     split <;> simp
    ·
     split
     ·
      split
      ·
       simp
      ·
       exact hrec _ _
     ·
      simp
   ·
    rw[e];exact⟨by simp,by simp[zgW]⟩
   ·
    rw[e]
    refine⟨by simp,?_⟩
    unfold zgW
    rw[if_neg (by show ¬ ((j:Int)<0);omega)]
    simp only[Int.toNat_natCast]
    split
    ·
     have:=znj (zas (fs.getD j .zero).kind) (zbx l r.at' r.to)
     show (zaz _ _).2<256;omega
    ·
     split
     ·
      split <;> simp
     ·
      split
      ·
       split
       ·
        simp
       ·
        exact hrec _ _
      ·
       simp
  by_cases hc:(zao fs l i).2.2.2≠0
  ·
   rw[if_pos hc];exact hv.1
  rw[if_neg hc]
  by_cases hv2:(zgW rec deep fs l (zao fs l i)).2≠0
  ·
   rw[if_pos hv2];exact hv.2
  ·
   rw[if_neg hv2];exact zhk rec deep fs l hrec k _
theorem zmR (s:List Mes):∀ (d m:Nat) (l:List UInt8),(zdb s d m l).2<256
 | 0,m,l=>zhk _ _ _ l (fun _ _=>by decide) _ _
 | d+1,m,l=>zhk _ _ _ l (zmR s d) _ _
theorem zjb (s:List Mes)(root:Int)(l:List UInt8)(d:Int):(zaP s root l d).2<256:=by
 unfold zaP
 by_cases h:zbl s root d≠0
 ·
  rw[if_pos h];have:=zjW s root d;show zbl s root d<256;omega
 ·
  rw[if_neg h];exact zmR _ _ _ _
end
section
open Go.RowKit
theorem zqb {s:List Mes}{root d:Int}{a b:List UInt8}(h:(zbg s root a b d).1=0):(zaP s root a d).2=0∧(zaP s root b d).2=0 ∧
  zbg s root a b d=(0,zaX s (d.toNat+1) (d.toNat+1) root (tof s d.toNat root.toNat a) (tof s d.toNat root.toNat b),!zhD (d.toNat+1) (d.toNat+1) (tof s d.toNat root.toNat a) (tof s d.toNat root.toNat b)):=by
 by_cases hb:zdJ s root a b d=0
 ·
  obtain⟨h1,h2⟩:=zhh hb
  refine⟨h1,h2,?_⟩
  obtain⟨g1,g2,-,g4⟩:=za7 h1
  obtain⟨-,-,-,g5⟩:=za7 h2
  have r1:=zb7 g1 d.toNat root.toNat a (by omega) g4
  have r2:=zb7 g1 d.toNat root.toNat b (by omega) g5
  rw[show ((root.toNat:Nat):Int)=root by omega] at r1 r2
  unfold zbg
  rw[if_neg (fun h=>h hb)]
  unfold zcb
  rw[if_neg (by rw[g1];decide),if_neg (by omega),if_neg (by rw[r1,r2];decide)]
 ·
  unfold zbg at h
  rw[if_pos hb] at h
  exact absurd h hb
theorem zqc (s:List Mes)(root:Int)(a b:List UInt8)(d:Int):(zbg s root a b d).1<256:=by
 unfold zbg
 split
 ·
  unfold zdJ
  split
  ·
   exact zjb s root a d
  ·
   exact zjb s root b d
 ·
  unfold zcb
  split
  ·
   simp
  ·
   split
   ·
    simp
   ·
    split <;> simp
theorem zh9 {s:List Mes}{root d:Int}{a b:List UInt8}(ha:(zaP s root a d).2=0)(hb:(zaP s root b d).2=0) :
  zbg s root a b d=(0,zaX s (d.toNat+1) (d.toNat+1) root (tof s d.toNat root.toNat a) (tof s d.toNat root.toNat b),!zhD (d.toNat+1) (d.toNat+1) (tof s d.toNat root.toNat a) (tof s d.toNat root.toNat b)):=by
 have h0:zdJ s root a b d=0:=by rw[zgJ ha,hb]
 obtain⟨g1,g2,-,g4⟩:=za7 ha
 obtain⟨-,-,-,g5⟩:=za7 hb
 have r1:=zb7 g1 d.toNat root.toNat a (by omega) g4
 have r2:=zb7 g1 d.toNat root.toNat b (by omega) g5
 rw[show ((root.toNat:Nat):Int)=root by omega] at r1 r2
 unfold zbg
 rw[if_neg (fun h=>h h0)]
 unfold zcb
 rw[if_neg (by rw[g1];decide),if_neg (by omega),if_neg (by rw[r1,r2];decide)]
theorem zrS {s:List Mes}{root d:Int}{a b:List UInt8}(h:(zbg s root a b d).1≠0):(zbg s root a b d).2=([],false):=by
 unfold zbg at *
 split
 ·
  rfl
 ·
  rename_i h0
  rw[if_neg h0] at h
  unfold zcb at *
  split
  ·
   rfl
  ·
   split
   ·
    rfl
   ·
    split
    ·
     rfl
    ·
     rename_i h1 h2 h3
     rw[if_neg h1,if_neg h2,if_neg h3] at h
     exact absurd rfl h
end
section
open Go.RowKit
theorem zeG {fs:List Fld}{t:List UInt8}(h:zbf fs t=true):(zbA fs t).2.2=0∧∃ b,zeD fs t=[(⟨-1,false,b,t⟩:AR)]:=by
 unfold zbf at h
 simp only[Bool.and_eq_true,decide_eq_true_eq] at h
 obtain⟨⟨h1,h2⟩,h3⟩:=h
 obtain⟨r,hr⟩:∃ r,zaJ t 0=(r,0):=⟨(zaJ t 0).1,Prod.ext rfl h1⟩
 rw[hr] at h2 h3
 simp only at h2 h3
 have hpos:0<t.length:=by
  rcases zbB t 0 with ⟨hi,er⟩|⟨hi,-⟩|⟨hi,-⟩
  ·
   rw[er] at hr;simp at hr
  ·
   exact hi
  ·
   exact hi
 have hst:r.start=0:=by
  rcases zbB t 0 with ⟨hi,er⟩|⟨hi,c,et,hc,er⟩|⟨hi,k,x,n,et,g1,g2,g3,g4,g5,g6,hcs⟩
  ·
   rw[er] at hr;simp at hr
  ·
   rw[er] at hr;simp at hr;omega
  ·
   rcases hcs with ⟨a,m,c,es,hc,-,-,er⟩|⟨a,m,es,-,-,-,-,er⟩|⟨a,m,es,e1,e2,e3,er⟩
   ·
    rw[er] at hr;simp at hr;omega
   ·
    rw[er] at hr;simp at hr
   ·
    rw[er] at hr;injection hr with hr _;subst hr;rfl
 have hlook:zao fs t 0=(r,-1,false,0):=by
  unfold zao
  rw[hr]
  simp only
  rw[if_neg (by simp),if_pos h3]
 obtain⟨N,hN⟩:∃ N,t.length=N+1:=⟨t.length - 1,by omega⟩
 have hva:zbA fs t=([(⟨r,-1,false⟩:VW)],0,0):=by
  unfold zbA
  rw[hN,zcV fs _ _ _ (by omega) (by rw[hlook]),hlook]
  simp only
  rw[zcU fs _ N _ (by omega),if_neg (by simp)]
 refine⟨by rw[hva],zah t ⟨r,-1,false⟩,?_⟩
 unfold zeD
 rw[hva]
 simp only[List.map_cons,List.map_nil]
 unfold zsb
 simp only
 rw[hst,h2,zoM]
theorem zrT {β:Type}{s:List Mes}{d m:Nat}{x:M (d+1)}{sub:Int→List UInt8→List β}(hs:zaw s=true)(hm:m<s.length)(hx:zav s (d+1) (m:Int) x=true)
  (hw:∀ v∈M.vals x,(∀ w∈v.words,w<2 ^ 64)∧v.words.length≤1099511627776∧(∀ t∈v.texts,t.length<2 ^ 64)∧∀ y∈v.subs,∀ o:Int,(zfE s d o y).length<2 ^ 64) (hsub:∀ v∈M.vals x,∀ y∈v.subs,∀ o,(sub o (zfE s d o y)).length=1) :
  (zbA (s.getD m .zero).fields (zfE s (d+1) (m:Int) x)).2.2=0 ∧
   zdO sub (s.getD m .zero).fields (zfE s (d+1) (m:Int) x)=⟨(M.vals x).map (zmy (fun o y=>sub o (zfE s d o y)) (s.getD m .zero).fields),M.unk x⟩:=by
 unfold zav at hx
 rw[if_neg (by omega),Int.toNat_natCast,Bool.and_eq_true,List.all_eq_true] at hx
 obtain⟨hv,hu⟩:=hx
 obtain⟨fs,HFS⟩:∃ fs,fs=(s.getD m .zero).fields:=⟨_,rfl⟩
 have hN:=zbs hs m hm
 have hright:=fun f hf=>zco hs m hm f hf
 rw[←HFS] at hv hu hN hright ⊢
 have hok:=(zfb hv).1
 have henc:zfE s (d+1) (m:Int) x=((M.vals x).map fun v=>zhL (zfE s d) (fs.getD (qOf fs v).toNat .zero) v).flatten++(M.unk x).flatten:=by
  show (M.vals x).flatMap _++(M.unk x).flatMap id=_
  rw[Int.toNat_natCast,←HFS,List.flatMap_def,List.flatMap_id]
  rfl
 have hone:∀ v∈M.vals x,(zbA fs (zhL (zfE s d) (fs.getD (qOf fs v).toNat .zero) v)).2.2=0∧zeD fs (zhL (zfE s d) (fs.getD (qOf fs v).toNat .zero) v)=zeh (zfE s d) fs v:=by
  intro v hvm
  obtain⟨h1,h2,h3,h4⟩:=hok.at' v hvm
  obtain⟨g1,g2,g3,g4⟩:=hw v hvm
  have hq:(qOf fs v).toNat<fs.length:=by omega
  have hkr:=(hright _ (zfn fs .zero hq)).1
  have hat:=hN.at hq
  have hnum:1≤(fs.getD (qOf fs v).toNat .zero).number∧(fs.getD (qOf fs v).toNat .zero).number≤536870911:=by
   have h5:=(zcl hs m hm (qOf fs v).toNat (by rw[←HFS];exact hq)).2
   rw[←HFS] at h5
   unfold zeN at h5
   have:=of_decide_eq_true h5
   omega
  exact zpK rfl hat hkr hnum g1 g2 g3 (fun y hy=>g4 y hy _)
 have hA:=zef (fs:=fs) (ls:=(M.vals x).map fun v=>zhL (zfE s d) (fs.getD (qOf fs v).toNat .zero) v) fun l hl=>by
  obtain⟨v,hvm,rfl⟩:=List.mem_map.1 hl
  exact (hone v hvm).1
 have hU:=zef (fs:=fs) (ls:=M.unk x) fun t ht=>(zeG (hu t ht)).1
 have hB:=ziK hA.1 hU.1
 rw[henc]
 refine⟨hB.1,?_⟩
 rw[←ztr,hB.2,hA.2,List.flatMap_map]
 have e1:(M.vals x).flatMap (fun v=>zeD fs (zhL (zfE s d) (fs.getD (qOf fs v).toNat .zero) v))=(M.vals x).flatMap (zeh (zfE s d) fs):=by
  rw[List.flatMap_def,List.flatMap_def]
  congr 1
  exact List.map_congr_left fun v hvm=>(hone v hvm).2
 rw[e1,hU.2,zsC hok (fun v hvm=>(hw v hvm).1) (fun r hr=>by
  obtain⟨t,ht,hrt⟩:=List.mem_flatMap.1 hr
  obtain⟨b,e⟩:=(zeG (hu t ht)).2
  rw[e] at hrt
  simp at hrt
  rw[hrt];show (-1:Int)<0;omega) (fun v hvm y hy=>hsub v hvm y hy _)]
 congr 1
 rw[List.map_flatMap]
 have:∀ l:List (List UInt8),(∀ t∈l,zbf fs t=true)→l.flatMap (fun t=>(zeD fs t).map AR.whole)=l:=by
  intro l
  induction l with
  | nil=>intro _;rfl
  | cons t r ih =>
   intro h
   obtain⟨b,e⟩:=(zeG (h t (by simp))).2
   rw[List.flatMap_cons,e,ih fun y hy=>h y (by simp[hy])]
   rfl
 exact this _ hu
end
section
open Go.RowKit
theorem zmS {d:Nat}{x:M (d+1)}{v:Val (M d)}{y:M d}(hv:v∈M.vals x)(hy:y∈v.subs):zdE d y+1≤zdE (d+1) x:=by
 have h1:=(ziM (v.subs.map fun y=>zdE d y+1) 0).2 _ (List.mem_map.2 ⟨y,hy,rfl⟩)
 have h2:=(ziM ((M.vals x).map (zhC (zdE d))) 0).2 _ (List.mem_map.2 ⟨v,hv,rfl⟩)
 have h3:zdE (d+1) x=((M.vals x).map (zhC (zdE d))).foldl max 0:=rfl
 have h4:zdE d y+1≤zhC (zdE d) v:=h1
 omega
theorem zlC {α β:Type}{S:β→α→Bool}(g:α→β):∀ (l:List α),(∀ x∈l,S (g x) x=true)→zej S (l.map g) l=true
 | [],_=>rfl
 | x::r,h=>by
  rw[List.map_cons,zej,h x (by simp),zlC g r fun y hy=>h y (by simp[hy])];rfl
theorem zmT {α β:Type}{S:β→α→Bool}(g:α→List β):∀ (l:List α),(∀ x∈l,∃ z,g x=[z]∧S z x=true)→zej S (l.flatMap g) l=true
 | [],_=>rfl
 | x::r,h=>by
  obtain⟨z,e,hz⟩:=h x (by simp)
  rw[List.flatMap_cons,e]
  show (S z x&&zej S (r.flatMap g) r)=true
  rw[hz,zmT g r fun y hy=>h y (by simp[hy])];rfl
theorem sane {w:World}{s:List Mes}(hs:zaw s=true){d:Nat}{v:Value}{x:M (d+1)}(h:zat (d+1) w v x)(hw:mwt (d+1) x≤1099511627776) :
  ∀ u∈M.vals x,((∀ w∈u.words,w<2 ^ 64)∧u.words.length≤1099511627776∧(∀ t∈u.texts,t.length<2 ^ 64)∧∀ y∈u.subs,∀ o:Int,(zfE s d o y).length<2 ^ 64)∧∀ y∈u.subs,mwt d y≤1099511627776∧∃ v',zat d w v' y:=by
 obtain⟨vv,uv,rfl,hV,hU⟩:=h
 obtain⟨-,va,vc,-,-,hva⟩:=hV.open
 intro u hu
 obtain⟨k,hk⟩:=List.mem_iff_getElem?.1 hu
 obtain⟨b,o,v1,v2,v3,-,-,-,-,-,hM⟩:=hva k u hk
 obtain⟨wv,tv,sv,-,-,hW,hT,hSu⟩:=hM
 obtain⟨-,sa,sc,-,-,hsa⟩:=hSu.open
 have e:mwt (d+1) x=1+twt (M.unk x)+((M.vals x).map (vwt (mwt d))).sum:=rfl
 have h1:=za4 (vwt (mwt d)) (M.vals x) u hu
 have hvw:vwt (mwt d) u≤1099511627776:=by omega
 unfold vwt at hvw
 have hsub:∀ y∈u.subs,mwt d y≤1099511627776∧∃ v',zat d w v' y:=by
  intro y hy
  have h2:=za4 (mwt d) u.subs y hy
  obtain⟨j,hj⟩:=List.mem_iff_getElem?.1 hy
  obtain⟨b',o',u1,u2,-,-,-,hm⟩:=hsa j y hj
  exact⟨by omega,_,hm⟩
 refine⟨⟨hW.2,by omega,fun t ht=>?_,fun y hy o=>?_⟩,hsub⟩
 ·
  have:=hT.2 t ht;omega
 ·
  obtain⟨g1,v',g2⟩:=hsub y hy
  have:=zrj hs d o v' y g2 (by omega)
  omega
theorem ztx {w:World}{s:List Mes}(hs:zaw s=true):∀ (d k m:Nat) (v:Value) (x:M (d+1)),zat (d+1) w v x→mwt (d+1) x≤1099511627776→m<s.length→zav s (d+1) (m:Int) x=true→zdE (d+1) x≤k →
  zbE (k+1) (d+1) (tof s k m (zfE s (d+1) (m:Int) x)) x=true:=by
 intro d
 induction d with
 | zero =>
  intro k m v x h hw hm hr hk
  have hsn:=sane hs h hw
  obtain⟨-,he⟩:=zrT (sub:=zdz s k) hs hm hr (fun u hu=>(hsn u hu).1) (fun u _ y _=>Empty.elim y)
  rw[zf4,he]
  show (decide (M.unk x=M.unk x)&&zej (zcm (zbE k 0)) ((M.vals x).map _) (M.vals x))=true
  rw[decide_eq_true rfl,Bool.true_and]
  refine zlC _ _ fun u hu=>?_
  have hnil:u.subs=[]:=by
   cases e:u.subs with
   | nil=>rfl
   | cons y r=>exact Empty.elim y
  unfold zcm zmy
  simp only[hnil]
  simp[zej]
 | succ d ih =>
  intro k m v x h hw hm hr hk
  have hsn:=sane hs h hw
  have hlen:∀ u∈M.vals x,∀ y∈u.subs,∃ k',k=k'+1∧zdE (d+1) y≤k':=fun u hu y hy=>by
   have:=zmS hu hy
   exact⟨k - 1,by omega,by omega⟩
  obtain⟨-,he⟩:=zrT (sub:=zdz s k) hs hm hr (fun u hu=>(hsn u hu).1) (fun u hu y hy o=>by
   obtain⟨k',rfl,-⟩:=hlen u hu y hy
   rfl)
  have hok:zmx (zcB (zav s (d+1))) (s.getD m .zero).fields (M.vals x):=by
   have h1:=hr
   unfold zav at h1
   rw[if_neg (by omega),Int.toNat_natCast,Bool.and_eq_true] at h1
   exact (zfb h1.1).1
  rw[zf4,he]
  show (decide (M.unk x=M.unk x)&&zej (zcm (zbE k (d+1))) ((M.vals x).map _) (M.vals x))=true
  rw[decide_eq_true rfl,Bool.true_and]
  refine zlC _ _ fun u hu=>?_
  obtain⟨h1,h2,h3,h4⟩:=hok.at' u hu
  unfold zcm zmy
  simp only[and_self,decide_true,Bool.true_and]
  refine zmT _ _ fun y hy=>?_
  obtain⟨k',rfl,hk'⟩:=hlen u hu y hy
  obtain⟨g1,v',g2⟩:=(hsn u hu).2 y hy
  have hq:(qOf (s.getD m .zero).fields u).toNat<(s.getD m .zero).fields.length:=by omega
  have hof:=zfs hs hm hq
  obtain⟨o,ho⟩:∃ o:Nat,((s.getD m .zero).fields.getD (qOf (s.getD m .zero).fields u).toNat .zero).of=o:=⟨_,(Int.toNat_of_nonneg hof.1).symm⟩
  have hR:zav s (d+1) ((s.getD m .zero).fields.getD (qOf (s.getD m .zero).fields u).toNat .zero).of y=true:=by
   rcases (zeg h4).2.2 with ⟨-,-,e,-⟩|⟨-,-,-,e⟩|⟨-,-,-,-,e,-⟩
   ·
    rw[e] at hy;simp at hy
   ·
    exact e y hy
   ·
    rw[e] at hy;simp at hy
  rw[ho] at hR hof ⊢
  refine⟨_,rfl,?_⟩
  rw[Int.toNat_natCast]
  exact ih k' o v' y g2 g1 (by omega) hR hk'
end
section
open Go.RowKit
theorem zo0 {s:List Mes}{d m:Nat}{t:List UInt8}{r:Rec}{k:Int}{run:Bool}(hlook:zao (s.getD m .zero).fields t 0=(r,k,run,0))(hto:r.to=t.length)
  (hv:(zgW (zlZ s d) (decide (d=0)) (s.getD m .zero).fields t (r,k,run,0)).2=0):(zdb s d m t).2=0:=by
 rw[ze0,zdj]
 by_cases h0:t.length≤0
 ·
  rw[if_pos h0]
 rw[if_neg h0,hlook,if_neg (by simp),if_neg (by rw[hv];simp)]
 simp only
 rw[hto,zdj,if_pos (Nat.le_refl _)]
theorem zgM {s:List Mes}{d m q n x:Nat}{f:Fld}(hf:f=(s.getD m .zero).fields.getD q .zero)(_hq:q<(s.getD m .zero).fields.length)(hn:zae (s.getD m .zero).fields (n:Int)=q)(ht:zcg n x=true){t:List UInt8}(hfit:zcI (x:Int) t=true)(hl:t.length<2 ^ 64){run:Bool}
  (hrun:run=(f.rep&&zac f.kind&&decide (x=2))) (hk:run=true∨zaM f.kind=true∧zas f.kind=x)
  (h1:run=true→(zaz (zas f.kind) t).2=0) (h2:run=false→f.kind=15→zbw t=t.length) (h3:run=false→f.kind=17→∃ d',d=d'+1∧(zdb s d' f.of.toNat t).2=0) :
  (zdb s d m (zcj n x t)).2=0:=by
 obtain⟨h,e1,e2,e3,e4⟩:=zkh ht hfit hl
 have hlook:zao (s.getD m .zero).fields (zcj n x t) 0=((⟨n,x,0,h,h+t.length⟩:Rec),(q:Int),run,0):=by
  unfold zao
  rw[e1]
  simp only
  rw[if_neg (by simp),hn,if_neg (by omega),Int.toNat_natCast,←hf]
  have e:(f.rep&&zac f.kind&&decide (x=2))=run:=hrun.symm
  rw[e]
  cases run with
  | true=>rfl
  | false =>
   rcases hk with hk|⟨hk1,hk2⟩
   ·
    cases hk
   ·
    rw[if_neg (by simp),if_neg (by rw[hk1,hk2];simp)]
 refine zo0 hlook e2.symm ?_
 unfold zgW
 simp only
 rw[if_neg (by omega),Int.toNat_natCast,←hf,e3]
 cases run with
 | true=>rw[if_pos rfl];exact h1 rfl
 | false =>
  rw[if_neg (by simp)]
  by_cases h15:f.kind=15
  ·
   rw[if_pos h15,if_pos (h2 rfl h15)]
  ·
   rw[if_neg h15]
   by_cases h17:f.kind=17
   ·
    rw[if_pos h17]
    obtain⟨d',rfl,hd⟩:=h3 rfl h17
    rw[if_neg (by simp)]
    exact hd
   ·
    rw[if_neg h17]
theorem zrU {α:Type}{E:Int→α→List UInt8}{R:Int→α→Bool}{s:List Mes}{d m q:Nat}{f:Fld}{x:Val α}(hf:f=(s.getD m .zero).fields.getD q .zero)(hq:q<(s.getD m .zero).fields.length)(hn:zae (s.getD m .zero).fields f.number=q)(hk:zaM f.kind=true)(hnum:1≤f.number∧f.number≤536870911)
  (hw:∀ w∈x.words,w<2 ^ 64) (hwl:x.words.length≤1099511627776) (htl:∀ t∈x.texts,t.length<2 ^ 64) (hsl:∀ y∈x.subs,(E f.of y).length<2 ^ 64) (hfit:zcB R f x=true)
  (hsub:∀ y∈x.subs,∃ d',d=d'+1∧(zdb s d' f.of.toNat (E f.of y)).2=0):(zdb s d m (zhL E f x)).2=0:=by
 obtain⟨n,hnn⟩:∃ n:Nat,f.number=n:=⟨f.number.toNat,by omega⟩
 have htag:∀ w:Nat,(w=0∨w=1∨w=2∨w=5)→zcg n w=true:=fun w h=>by unfold zcg;simp;omega
 have hfc:=(zeg hfit).2.2
 unfold zhL
 by_cases hkn:zac f.kind=true
 ·
  have h17:f.kind≠17:=by intro e;rw[e] at hkn;exact absurd hkn (by decide)
  have h15:f.kind≠15:=by intro e;rw[e] at hkn;exact absurd hkn (by decide)
  rw[if_pos hkn,hnn]
  by_cases hr:f.rep=true
  ·
   rw[if_pos hr]
   have hpl:=zeo f.kind x.words hw
   exact zgM (x:=2) (run:=true) hf hq (by rw[←hnn];exact hn) (htag 2 (by omega)) (zgF _) (by omega) (by rw[hr,hkn];rfl) (.inl rfl) (fun _=>(zd2 hkn x.words hw).1) (fun e=>by cases e) (fun e=>by cases e)
  ·
   rw[if_neg hr]
   have hw0:x.words.getD 0 0<2 ^ 64:=by
    cases hx:x.words with
    | nil=>simp
    | cons a r=>simp;exact hw a (by rw[hx];simp)
   obtain⟨wn,hwn⟩:∃ wn:Nat,zas f.kind=wn:=⟨_,rfl⟩
   have hwc:=zgu hkn
   have h1:=zgr hkn hw0
   rw[hwn] at h1 hwc ⊢
   have:=zg1 f.kind hw0
   exact zgM (x:=wn) (run:=false) hf hq (by rw[←hnn];exact hn) (htag wn (by omega)) h1 (by omega) (by
    have:decide (wn=2)=false:=by simp;omega
    rw[this];simp) (.inr ⟨hk,hwn⟩) (fun e=>by cases e) (fun _ e=>absurd e h15) (fun _ e=>absurd e h17)
 ·
  have hkf:zac f.kind=false:=by simpa using hkn
  have hk2:zas f.kind=2:=zoH hk hkf
  rw[if_neg hkn,hnn]
  have hrun:false=(f.rep&&zac f.kind&&decide (2=2)):=by rw[hkf];simp
  rw[List.flatMap_def,List.flatMap_def]
  refine zla (zec fun l hl=>?_) (zec fun l hl=>?_)
  ·
   obtain⟨t,ht,rfl⟩:=List.mem_map.1 hl
   refine zgM (x:=2) (run:=false) hf hq (by rw[←hnn];exact hn) (htag 2 (by omega)) (zgF _) (htl t ht) hrun (.inr ⟨hk,hk2⟩) (fun e=>by cases e) (fun _ e=>?_) (fun _ e=>?_)
   ·
    rcases hfc with ⟨h,-⟩|⟨h,-⟩|⟨-,-,-,-,-,h⟩
    ·
     rw[h] at hkf;cases hkf
    ·
     omega
    ·
     exact h e t ht
   ·
    rcases hfc with ⟨h,-⟩|⟨-,-,h,-⟩|⟨-,h,-⟩
    ·
     rw[h] at hkf;cases hkf
    ·
     rw[h] at ht;simp at ht
    ·
     exact absurd e h
  ·
   obtain⟨y,hy,rfl⟩:=List.mem_map.1 hl
   refine zgM (x:=2) (run:=false) hf hq (by rw[←hnn];exact hn) (htag 2 (by omega)) (zgF _) (hsl y hy) hrun (.inr ⟨hk,hk2⟩) (fun e=>by cases e) (fun _ e=>?_) (fun _ _=>hsub y hy)
   rcases hfc with ⟨h,-⟩|⟨h,-⟩|⟨-,-,-,-,h,-⟩
   ·
    rw[h] at hkf;cases hkf
   ·
    omega
   ·
    rw[h] at hy;simp at hy
theorem zmU {s:List Mes}{d m:Nat}{t:List UInt8}(h:zbf (s.getD m .zero).fields t=true):(zdb s d m t).2=0:=by
 unfold zbf at h
 simp only[Bool.and_eq_true,decide_eq_true_eq] at h
 obtain⟨⟨h1,h2⟩,h3⟩:=h
 obtain⟨r,hr⟩:∃ r,zaJ t 0=(r,0):=⟨(zaJ t 0).1,Prod.ext rfl h1⟩
 rw[hr] at h2 h3
 simp only at h2 h3
 have hlook:zao (s.getD m .zero).fields t 0=(r,-1,false,0):=by
  unfold zao
  rw[hr]
  simp only
  rw[if_neg (by simp),if_pos h3]
 refine zo0 hlook h2 ?_
 unfold zgW
 simp only
 rw[if_pos (by omega)]
theorem zsN {w:World}{s:List Mes}(hs:zaw s=true):∀ (d k m:Nat) (v:Value) (x:M (d+1)),zat (d+1) w v x→mwt (d+1) x≤1099511627776→m<s.length→zav s (d+1) (m:Int) x=true→zdE (d+1) x≤k →
  (zdb s k m (zfE s (d+1) (m:Int) x)).2=0:=by
 have step:∀ (d k m:Nat) (v:Value) (x:M (d+1)),zat (d+1) w v x→mwt (d+1) x≤1099511627776→m<s.length→zav s (d+1) (m:Int) x=true →
   (∀ u∈M.vals x,∀ y∈u.subs,∀ o:Nat,zav s d (o:Int) y=true→o<s.length→∃ k',k=k'+1∧(zdb s k' o (zfE s d (o:Int) y)).2=0)→(zdb s k m (zfE s (d+1) (m:Int) x)).2=0:=by
  intro d k m v x h hw hm hr hrec
  have hsn:=sane hs h hw
  have hr':=hr
  unfold zav at hr'
  rw[if_neg (by omega),Int.toNat_natCast,Bool.and_eq_true,List.all_eq_true] at hr'
  obtain⟨hv,hu⟩:=hr'
  have hok:=(zfb hv).1
  have hN:=zbs hs m hm
  have henc:zfE s (d+1) (m:Int) x=((M.vals x).map fun v=>zhL (zfE s d) ((s.getD m .zero).fields.getD (qOf (s.getD m .zero).fields v).toNat .zero) v).flatten++(M.unk x).flatten:=by
   show (M.vals x).flatMap _++(M.unk x).flatMap id=_
   rw[Int.toNat_natCast,List.flatMap_def,List.flatMap_id]
   rfl
  rw[henc]
  refine zla (zec fun l hl=>?_) (zec fun t ht=>zmU (hu t ht))
  obtain⟨u,hum,rfl⟩:=List.mem_map.1 hl
  obtain⟨h1,h2,h3,h4⟩:=hok.at' u hum
  obtain⟨g1,g2,g3,g4⟩:=(hsn u hum).1
  have hq:(qOf (s.getD m .zero).fields u).toNat<(s.getD m .zero).fields.length:=by omega
  have hkr:=(zco hs m hm _ (zfn (s.getD m .zero).fields .zero hq)).1
  have hnum:1≤((s.getD m .zero).fields.getD (qOf (s.getD m .zero).fields u).toNat .zero).number∧((s.getD m .zero).fields.getD (qOf (s.getD m .zero).fields u).toNat .zero).number≤536870911:=by
   have h5:=(zcl hs m hm _ hq).2
   unfold zeN at h5
   have:=of_decide_eq_true h5
   omega
  have hof:=zfs hs hm hq
  refine zrU rfl hq (hN.at hq) hkr hnum g1 g2 g3 (fun y hy=>g4 y hy _) h4 fun y hy=>?_
  obtain⟨o,ho⟩:∃ o:Nat,((s.getD m .zero).fields.getD (qOf (s.getD m .zero).fields u).toNat .zero).of=o:=⟨_,(Int.toNat_of_nonneg hof.1).symm⟩
  have hR:zav s d ((s.getD m .zero).fields.getD (qOf (s.getD m .zero).fields u).toNat .zero).of y=true:=by
   rcases (zeg h4).2.2 with ⟨-,-,e,-⟩|⟨-,-,-,e⟩|⟨-,-,-,-,e,-⟩
   ·
    rw[e] at hy;simp at hy
   ·
    exact e y hy
   ·
    rw[e] at hy;simp at hy
  rw[ho] at hR hof ⊢
  rw[Int.toNat_natCast]
  exact hrec u hum y hy o hR (by omega)
 intro d
 induction d with
 | zero =>
  intro k m v x h hw hm hr _
  exact step 0 k m v x h hw hm hr fun u _ y _=>Empty.elim y
 | succ d ih =>
  intro k m v x h hw hm hr hk
  refine step (d+1) k m v x h hw hm hr fun u hu y hy o hR ho=>?_
  have h1:=zmS hu hy
  obtain⟨g1,v',g2⟩:=(sane hs h hw u hu).2 y hy
  obtain⟨k',rfl⟩:∃ k',k=k'+1:=⟨k - 1,by omega⟩
  exact⟨k',rfl,ih k' o v' y g2 g1 ho hR (by omega)⟩
end
section
open Go.RowKit
end
end Go.Proofs.YtpckoeicbjfnhaaGreatDoor
