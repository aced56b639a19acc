/- Parts of a proof: texts of the author, merged. No condition of their own. -/
import Derived.Test.YtpckoeicbjfnhaaGreatDoorY13
import Derived.Test.YtpckoeicbjfnhaaGreatDoorY18
import Derived.Test.YtpckoeicbjfnhaaGreatDoorY20
import Derived.Test.YtpckoeicbjfnhaaGreatDoorY21
import Derived.Test.YtpckoeicbjfnhaaGreatDoorY23
import Derived.Test.YtpckoeicbjfnhaaGreatDoorY30
import Derived.Test.YtpckoeicbjfnhaaGreatDoorY32
import Derived.Test.YtpckoeicbjfnhaaGreatDoorY38
import Derived.Test.YtpckoeicbjfnhaaGreatDoorY40
import Derived.Test.YtpckoeicbjfnhaaGreatDoorY42
namespace Go.Proofs.YtpckoeicbjfnhaaGreatDoor
set_option maxRecDepth 100000
set_option maxHeartbeats 16000000
section
open Go.RowKit Go.Shelf
theorem zqk {d:Nat}{x:M (d+1)}{l:List Int}(h:zlH (d+1) x l):∃ n t,l=n::t:=by
 cases l with
 | nil=>exact h.elim
 | cons n t=>exact⟨n,t,rfl⟩
theorem zkF {w:World}{v wv:Value}{d:Nat}{x:M (d+1)}{way:List Int}(h:zat (d+1) w v x)(hw:mwt (d+1) x≤1099511627776)(hW:za1 w wv way)(hs:zlH (d+1) x way) :
  Calls Tryz.prog 43 #[v,wv] w fun e w'=>e= .returned (.bool (zbZ (d+1) x way))∧Below w.heap.size w w':=by
 obtain⟨hl,a,c,rfl,-,hat⟩:=hW.open
 have HAT:=hid hat
 obtain⟨n,HN⟩:∃ n,Hid (n=way.length):=⟨_,rfl⟩
 rw[←HN.out] at hl ⊢
 obtain⟨x1,n1,c1,x2,n2,c2,rfl⟩:=h.form
 obtain⟨B,HB⟩:∃ B,Hid (B=w.heap.size):=⟨_,rfl⟩
 obtain⟨W0,HW0⟩:∃ W,Hid (W=w.alloc (.cells #[.slice x1 n1 c1,.slice x2 n2 c2] 27)):=⟨_,rfl⟩
 have hb0:Below w.heap.size w W0:=by rw[HW0.out];(with_reducible repeat first|exact Below.refl _ _|refine pzA ?_ _|refine pzB ?_ _|refine zab ?_ _|refine Below.drew ?_)
 have hk0:Blk W0 B [.slice x1 n1 c1,.slice x2 n2 c2] 27:=by rw[HW0.out,HB.out];exact Blk.new w [.slice x1 n1 c1,.slice x2 n2 c2] _
 have hz0:W0.heap.size=B+1:=by rw[HW0.out,HB.out];simp
 have HB0:=hid hb0
 have HK0:=hid hk0
 have HM0:Hid (∀ W,But B W0 W→zat (d+1) W (.agg #[.slice x1 n1 c1,.slice x2 n2 c2]) x):=fun W hW=>h.keep fun p u hu=>by
  have hp:p.block<w.heap.size:=World.block_lt_of_cell? w _ hu
  exact hW.cell (by rw[HB.out];omega) (zaa hb0 _ _ hu)
 obtain⟨z,HZ⟩:∃ z,Hid (z=zbZ (d+1) x way):=⟨_,rfl⟩
 rw[←HZ.out]
 have HMW:=hid hw
 have HSF:=hid hs
 clear hat h hb0 hk0 hw hs hW
 go_enter Tryz.func43,Tryz.ntmps43
 go_upto_region 1 with fail
 rw[←HW0.out,←HB.out]
 go_wp2_with fail
 go_loopw [11] (fun v11 wr=>∃ (k:Nat) (d':Nat) (y:M (d'+1)) (a1:Option Addr) (m1 q1:Nat) (a2:Option Addr) (m2 q2:Nat),v11= .int .i64 k∧k≤n∧Hid (Below w.heap.size w wr∧Blk wr B [.slice a1 m1 q1,.slice a2 m2 q2] 27∧(∀ W,But B wr W→zat (d'+1) W (.agg #[.slice a1 m1 q1,.slice a2 m2 q2]) y)∧mwt (d'+1) y≤1099511627776∧zlH (d'+1) y (way.drop k)∧zbZ (d'+1) y (way.drop k)=z)) (fun v11 _=>n - (intOf v11).toNat)
 case atStart=>exact⟨0,d,x,x1,n1,c1,x2,n2,c2,rfl,by omega,HB0.out,HK0.out,HM0.out,HMW.out,HSF.out,HZ.out.symm⟩
 case round =>
  obtain⟨k,d',y,a1,m1,q1,a2,m2,q2,rfl,hk,HI⟩:=hrel
  obtain⟨nn,t,ht⟩:=zqk HI.out.2.2.2.2.1
  have hlt:k<n:=by
   rw[HN.out]
   rcases Nat.lt_or_ge k way.length with h|h
   ·
    exact h
   ·
    rw[List.drop_of_length_le h] at ht;cases ht
  have hget:way[k]?=some nn:=by
   have:(way.drop k)[0]?=some nn:=by rw[ht];rfl
   simpa using this
  have htt:way.drop (k+1)=t:=by
   rw[←List.drop_drop,ht];rfl
  obtain⟨-,b,o,ha,g0⟩:=HAT.out k nn hget
  have r0:=zaa HI.out.1 _ _ g0
  have hbl:b<wr.heap.size:=World.block_lt_of_cell? wr _ r0
  have hix:=zaj Tryz.underlying50 zcZ ha k hlt (cap:=c)
  have k0:=HI.out.2.1.cell 0 _ rfl
  have k1:=HI.out.2.1.cell 1 _ rfl
  have kl:=HI.out.2.1.lt
  have HG:=hid (zsS (HI.out.2.2.1 wr (But.refl _ _)) HI.out.2.2.2.1 nn)
  unfold zn6 at HG
  obtain⟨gb,HGB⟩:∃ b,Hid (b=(zb9 (M.vals y) nn).isSome):=⟨_,rfl⟩
  rw[←HGB.out] at HG
  clear g0 ha hget
  go_upto_region 5 with (go_at_call 78;refine HG.out.mono ?_;rintro e w1 ⟨num,p1,r1,s1,p2,r2,s2,p3,r3,s3,rfl,hb1,hv1⟩)
  obtain⟨V,HV⟩:∃ W,Hid (W=w1.alloc (.cells #[.int .i64 num,.slice p1 r1 s1,.slice p2 r2 s2,.slice p3 r3 s3] 81)):=⟨_,rfl⟩
  obtain⟨G,HGG⟩:∃ G,Hid (G=w1.heap.size):=⟨_,rfl⟩
  rw[←HV.out,←HGG.out]
  have hb1v:Below w1.heap.size w1 V:=by rw[HV.out];(with_reducible repeat first|exact Below.refl _ _|refine pzA ?_ _|refine pzB ?_ _|refine zab ?_ _|refine Below.drew ?_)
  have hkv:Blk V G [.int .i64 num,.slice p1 r1 s1,.slice p2 r2 s2,.slice p3 r3 s3] 81:=by rw[HV.out,HGG.out];exact Blk.new w1 [.int .i64 num,.slice p1 r1 s1,.slice p2 r2 s2,.slice p3 r3 s3] _
  have hbV:Below wr.heap.size wr V:=hb1.trans (hb1v.mono hb1.size)
  have HBV:=hid hbV
  have HWV:=hid (HI.out.1.trans (hbV.mono HI.out.1.size))
  have HTH:=hid HI.out.2.2.2.2.2
  clear hix hbl r0 k0 k1 kl HG
  cases gb with
  | false =>
   have HZF:Hid (z=false):=by
    have h0:zb9 (M.vals y) nn=none:=by
     cases h:zb9 (M.vals y) nn with
     | none=>rfl
     | some m=>have:=HGB.out;rw[h] at this;cases this
    rw[Hid,←HTH.out,ht,zn7 h0]
   clear hkv hb1v hbV hv1 hb1
   go_wp2_with fail
   go_ret
   exact⟨by rw[HZF.out];rfl,HWV.out⟩
  | true =>
   obtain⟨m,hm⟩:∃ m,zb9 (M.vals y) nn=some m:=by
    cases h:zb9 (M.vals y) nn with
    | none=>have:=HGB.out;rw[h] at this;cases this
    | some m=>exact⟨m,rfl⟩
   by_cases hlast:k+1=n
   ·
    have HZF:Hid (z=true):=by
     rw[Hid,←HTH.out,ht]
     have:t=[]:=by rw[←htt,List.drop_of_length_le (by rw[←HN.out];omega)]
     subst this
     exact zho hm
    have e1:(k:Int)=(n:Int) - 1:=by omega
    have e2:((k:Int) == (n:Int) - 1)=true:=by rw[e1];simp
    have e3:((k:Int) != (n:Int) - 1)=false:=by rw[e1];simp
    have e4:decide ((k:Int)=(n:Int) - 1)=true:=decide_eq_true e1
    clear hkv hb1v hbV hv1 hb1 hlast e1
    go_wp2_with fail
    go_ret
    exact⟨by rw[HZF.out];rfl,HWV.out⟩
   ·
    have hne:t≠[]:=by
     rw[←htt]
     intro e
     have:=List.length_drop (i:=k+1) (l:=way)
     rw[e,←HN.out] at this
     simp at this
     omega
    have hsf:=HI.out.2.2.2.2.1
    rw[ht] at hsf
    obtain hsf|⟨p,l,hsub,hsp⟩:=hsf m hm
    ·
     exact absurd hsf hne
    ·
     have hmw:mwt d' p≤1099511627776:=by
      have h1:m∈M.vals y:=List.mem_of_find?_eq_some hm
      have h2:=za4 (vwt (mwt d')) (M.vals y) m h1
      have h3:=za4 (mwt d') m.subs p (by rw[hsub];simp)
      have h4:vwt (mwt d') m=1+m.words.length+twt m.texts+(m.subs.map (mwt d')).sum:=rfl
      have h5:=HI.out.2.2.2.1
      have h6:mwt (d'+1) y=1+twt (M.unk y)+((M.vals y).map (vwt (mwt d'))).sum:=rfl
      omega
     have hth:=HTH.out
     rw[ht,zgf hm hsub hne] at hth
     obtain⟨b,o,v1,v2,ha,hbn,g0,g1,hap⟩:=ztC (hv1 m hm) (k:=0) (p:=p) (by rw[hsub];rfl)
     obtain⟨y1,j1,i1,y2,j2,i2,e⟩:=hap.here.form
     cases e
     rw[Nat.zero_mul,Nat.add_zero] at g0 g1
     have h0:=zaa hb1v _ _ g0
     have h1:=zaa hb1v _ _ g1
     have hr3:r3=m.subs.length:=by
      obtain⟨_,_,_,e,-,-,-,hS⟩:=(hv1 m hm).here
      cases e
      obtain⟨-,_,_,e,-⟩:=hS.open
      cases e
      rfl
     have hr0:0<r3:=by rw[hr3,hsub];simp
     have hix:∀ W:World,(Instr.indexAt 79 (.slice p3 r3 s3) (.int .i64 0)).run Tryz.prog W= .ok (.pointer (some ⟨b,o,none⟩)) W:=fun W=>by
      have:=zau Tryz.underlying79 zep ha 0 hr0 (cap:=s3) W
      simpa using this
     have hbl:b<V.heap.size:=World.block_lt_of_cell? V _ h0
     have hkB:=HI.out.2.1.below hbV
     have k0:=hkB.cell 0 _ rfl
     have k1:=hkB.cell 1 _ rfl
     have kl:=hkB.lt
     have f0:=hkB.free 0
     have f1:=hkB.free 1
     have v3:=hkv.cell 3 _ rfl
     have vl:=hkv.lt
     have hbB:b≠B:=by have:=HI.out.2.1.lt;omega
     have hs1:=hkB.set 0 (.slice y1 j1 i1)
     have hs2:=hs1.set 1 (.slice y2 j2 i2)
     have hbut:But B V ((V.setCell ⟨B,0,none⟩ (.slice y1 j1 i1)).setCell ⟨B,1,none⟩ (.slice y2 j2 i2)):=(But.set hkB 0 _).trans (But.set hs1 1 _)
     have hBw:w.heap.size≤B:=by rw[HB.out];exact Nat.le_refl _
     have HNEW:Hid (Below w.heap.size w ((V.setCell ⟨B,0,none⟩ (.slice y1 j1 i1)).setCell ⟨B,1,none⟩ (.slice y2 j2 i2))∧Blk ((V.setCell ⟨B,0,none⟩ (.slice y1 j1 i1)).setCell ⟨B,1,none⟩ (.slice y2 j2 i2)) B [.slice y1 j1 i1,.slice y2 j2 i2] 27∧(∀ W,But B ((V.setCell ⟨B,0,none⟩ (.slice y1 j1 i1)).setCell ⟨B,1,none⟩ (.slice y2 j2 i2)) W→zat d' W (.agg #[.slice y1 j1 i1,.slice y2 j2 i2]) p)∧mwt d' p≤1099511627776∧zlH d' p (way.drop (k+1))∧zbZ d' p (way.drop (k+1))=z):=by
      refine⟨(HWV.out.setCell hBw _).setCell hBw _,hs2,fun W hW=>hap W fun c hc h0=>?_,hmw,by rw[htt];exact hsp,by rw[htt];exact hth⟩
      have hcB:c≠B:=by have:=HI.out.2.1.lt;omega
      exact ((hbut.trans hW).block c (Nat.lt_of_lt_of_le hc hb1v.size) hcB).trans (hb1v.block c hc)
     have e1:¬ (k:Int)=(n:Int) - 1:=by omega
     have e2:((k:Int) == (n:Int) - 1)=false:=by simpa using e1
     have e3:((k:Int) != (n:Int) - 1)=true:=by simpa using e1
     have e4:decide ((k:Int)=(n:Int) - 1)=false:=decide_eq_false e1
     clear hkv hb1v hbV hv1 hb1 hlast g0 g1 hap hkB hs1 hs2 hbut hm hsub hsp hmw hth hne ha hbn hr3
     go_wp2_with fail
     go_roundw
     case rel =>
      cases d' with
      | zero=>exact p.elim
      | succ d''=>exact⟨k+1,d'',p,y1,j1,i1,y2,j2,i2,by go_num,by omega,HNEW.out⟩
     case measure=>simp[intOf];omega
end
section
open Go.RowKit
def zcv {d:Nat}(x y:M d)(l:List (List Int)):Nat × Nat × Nat:=
 (znb (fun w=> !zbZ d x w) l,znb (fun w=>zbZ d x w && !zbZ d y w) l,znb (fun w=>zbZ d x w&&zbZ d y w) l)
def zjk (s:List Mes)(root d:Int)(a b:List UInt8)(w:World)(e:Ending)(w':World):Prop:=
 ∃ n1 n2 n3:Nat,e= .returned (.tuple #[.int .i64 (n1:Int),.int .i64 (n2:Int),.int .i64 (n3:Int),.int .u8 (zdJ s root a b d:Nat)])∧Below w.heap.size w w' ∧
  (zdJ s root a b d=0→(n1,n2,n3)=zcv (tof s d.toNat root.toNat a) (tof s d.toNat root.toNat b) (zaX s (d.toNat+1) (d.toNat+1) root (tof s d.toNat root.toNat a) (tof s d.toNat root.toNat b))) ∧
  (zdJ s root a b d≠0→n1=0∧n2=0∧n3=0)
theorem zkG {w:World}{vs va vb:Value}{s:List Mes}{la lb:List UInt8}(hS:zap w vs s)(ha:zal w va la)(hb:zal w vb lb)(hla:la.length≤1073741824)(hlb:lb.length≤1073741824)(root d:Int) :
  Calls Tryz.prog 19 #[vs,.int .i64 root,va,vb,.int .i64 d] w (zjk s root d la lb w):=by
 have HBO:=hid (zi0 hS ha hb (by omega) (by omega) root d)
 have HS:=hid hS
 obtain⟨-,sa,sc,rfl,-⟩:=hS.open
 obtain⟨-,aa,ac,rfl,-⟩:=ha.open
 obtain⟨-,ba,bc,rfl,-⟩:=hb.open
 obtain⟨sn,HSN⟩:∃ n,Hid (n=s.length):=⟨_,rfl⟩
 obtain⟨an,HAN⟩:∃ n,Hid (n=la.length):=⟨_,rfl⟩
 obtain⟨bn,HBN⟩:∃ n,Hid (n=lb.length):=⟨_,rfl⟩
 rw[←HSN.out] at HBO HS ⊢
 rw[←HAN.out] at HBO ⊢
 rw[←HBN.out] at HBO ⊢
 obtain⟨Q,HQ⟩:∃ Q:Ending→World→Prop,Hid (Q=zjk s root d la lb w):=⟨_,rfl⟩
 rw[←HQ.out]
 obtain⟨z,HZ⟩:∃ z,Hid (z=zdJ s root la lb d):=⟨_,rfl⟩
 unfold zh7 at HBO
 rw[←HZ.out] at HBO
 have HMW:Hid (mwt (d.toNat+1) (tof s d.toNat root.toNat la)+mwt (d.toNat+1) (tof s d.toNat root.toNat lb)≤1099511627776):=by
  have h1:=zcs s d.toNat root.toNat la
  have h2:=zcs s d.toNat root.toNat lb
  show _≤_
  omega
 clear hS ha hb hla hlb
 go_enter Tryz.func19,Tryz.ntmps19
 go_upto_region 2 with (go_at_call 41;refine HBO.out.mono ?_;rintro e w1 ⟨a1,n1,c1,a2,n2,c2,b1,m1,e1,b2,m2,e2,rfl,hb1,hM⟩)
 obtain⟨W2,HW2⟩:∃ W,Hid (W=(w1.alloc (.cells #[.slice a1 n1 c1,.slice a2 n2 c2] 27)).alloc (.cells #[.slice b1 m1 e1,.slice b2 m2 e2] 27)):=⟨_,rfl⟩
 obtain⟨X,HX⟩:∃ X,Hid (X=w1.heap.size):=⟨_,rfl⟩
 rw[←HW2.out,←HX.out]
 have hb12:Below w1.heap.size w1 W2:=by rw[HW2.out];(with_reducible repeat first|exact Below.refl _ _|refine pzA ?_ _|refine pzB ?_ _|refine zab ?_ _|refine Below.drew ?_)
 have hkX:Blk W2 X [.slice a1 n1 c1,.slice a2 n2 c2] 27:=by rw[HW2.out,HX.out];exact (Blk.new w1 [.slice a1 n1 c1,.slice a2 n2 c2] _).alloc _
 have hkY:Blk W2 (X+1) [.slice b1 m1 e1,.slice b2 m2 e2] 27:=by rw[HW2.out,HX.out];exact Blk.new' _ [.slice b1 m1 e1,.slice b2 m2 e2] _ _ (by simp)
 have HB2:=hid (hb1.trans (hb12.mono hb1.size))
 by_cases hz:z=0
 ·
  obtain⟨hM1,hM2⟩:=hM hz
  subst hz
  obtain⟨h1,h2⟩:=zhh HZ.out.symm
  obtain⟨g1,g2,-,g4⟩:=za7 h1
  obtain⟨-,-,-,g5⟩:=za7 h2
  have r1:=zb7 g1 d.toNat root.toNat la (by omega) g4
  have r2:=zb7 g1 d.toNat root.toNat lb (by omega) g5
  rw[show ((root.toNat:Nat):Int)=root by omega] at r1 r2
  have HM:=hid (And.intro (hM1.below hb12) (hM2.below hb12))
  obtain⟨x,HXX⟩:∃ x,Hid (x=tof s d.toNat root.toNat la):=⟨_,rfl⟩
  obtain⟨y,HYY⟩:∃ x,Hid (x=tof s d.toNat root.toNat lb):=⟨_,rfl⟩
  rw[←HXX.out,←HYY.out] at HM HMW
  rw[←HXX.out] at r1
  rw[←HYY.out] at r2
  have HWY:=hid (zmI g1 _ _ W2 _ _ _ root x y (HS.out.below HB2.out) HM.out.1 HM.out.2 r1 r2 HMW.out)
  have HTH:=hid (zgg (s:=s) (d.toNat+1) (d.toNat+1) root x y)
  obtain⟨L,HL⟩:∃ L,Hid (L=zaX s (d.toNat+1) (d.toNat+1) root x y):=⟨_,rfl⟩
  rw[←HL.out] at HWY HTH
  have HLL:Hid (L.length≤1099511627776):=by rw[HL.out];exact Nat.le_trans (zdF g1 _ _ root x y) HMW.out
  have HFIN:Hid (∀ n1 n2 n3 W,Below w.heap.size w W→(n1,n2,n3)=zcv x y L→Q (.returned (.tuple #[.int .i64 (n1:Nat),.int .i64 (n2:Nat),.int .i64 (n3:Nat),.int .u8 0])) W):=fun n1 n2 n3 W hW he=>by
   rw[HQ.out]
   refine⟨n1,n2,n3,by rw[←HZ.out];rfl,hW,fun _=>by rw[←HXX.out,←HYY.out,←HL.out];exact he,fun h=>absurd HZ.out.symm h⟩
  have HKB:=hid (And.intro hkX hkY)
  have x0:=hkX.cell 0 _ rfl
  have x1:=hkX.cell 1 _ rfl
  have xl:=hkX.lt
  have y0:=hkY.cell 0 _ rfl
  have y1:=hkY.cell 1 _ rfl
  have yl:=hkY.lt
  have HMX:Hid (mwt (d.toNat+1) x≤1099511627776∧mwt (d.toNat+1) y≤1099511627776):=by have:=HMW.out;constructor <;> omega
  clear hM hb12 hb1 hkX hkY hM1 hM2 h1 h2 g1 g2 g4 g5 r1 r2 HBO HZ
  go_upto_region 4 with fail
  go_wp2_with (go_at_call 31;refine HWY.out.mono ?_;rintro e w3 ⟨v3,rfl,hN3,hb3⟩;obtain⟨la',lc',rfl⟩:∃ la lc,v3= .slice la L.length lc:=(by obtain⟨-,la,lc,h,-⟩:=hN3.here.open;exact⟨la,lc,h⟩);obtain⟨ln,HLN⟩:∃ n,Hid (n=L.length):=⟨_,rfl⟩;rw[←HLN.out] at hN3 ⊢)
  have HN3:=hid hN3.here
  have HB3:=hid hb3
  have HBW3:=hid (HB2.out.trans (hb3.mono HB2.out.size))
  have hln:ln≤1099511627776:=by rw[HLN.out];exact HLL.out
  clear x0 x1 xl y0 y1 yl hN3 hb3
  go_loopw [10,11,12,37] (fun v10 v11 v12 v37 wr=>∃ n1 n2 n3 k:Nat,v10= .int .i64 (n1:Int)∧v11= .int .i64 (n2:Int)∧v12= .int .i64 (n3:Int)∧v37= .int .i64 (k:Int)∧k≤ln∧n1≤k∧n2≤k∧n3≤k∧Hid ((n1,n2,n3)=zcv x y (L.take k)∧Below w3.heap.size w3 wr)) (fun _ _ _ v37 _=>ln - (intOf v37).toNat)
  case atStart=>exact⟨0,0,0,0,rfl,rfl,rfl,rfl,by omega,by omega,by omega,by omega,by simp[zcv,znb],Below.refl _ _⟩
  case round =>
   obtain⟨n1,n2,n3,k,rfl,rfl,rfl,rfl,hk,hn1,hn2,hn3,HI⟩:=hrel
   by_cases hlt:k<ln
   ·
    obtain⟨way,hway⟩:∃ way,L[k]?=some way:=⟨_,List.getElem?_eq_getElem (by rw[←HLN.out];exact hlt)⟩
    have hBk:Below W2.heap.size W2 wr:=HB3.out.trans (HI.out.2.mono HB3.out.size)
    have HBR:=hid (HB2.out.trans (hBk.mono HB2.out.size))
    have hkX:=HKB.out.1.below hBk
    have hkY:=HKB.out.2.below hBk
    have x0:=hkX.cell 0 _ rfl
    have x1:=hkX.cell 1 _ rfl
    have xl:=hkX.lt
    obtain⟨-,la2,lc2,he,-,hat⟩:=(HN3.out.below HI.out.2).open
    obtain⟨b,o,a9,c9,ha,g0,hW⟩:=hat k way hway
    rw[←HLN.out] at he
    obtain⟨rfl,rfl⟩:la'=la2∧lc'=lc2:=by cases he;exact⟨rfl,rfl⟩
    clear he hat
    have hbl:b<wr.heap.size:=World.block_lt_of_cell? wr _ g0
    have hix:=zaj Tryz.underlying31 zcE ha k hlt (cap:=lc')
    obtain⟨wn,HWN⟩:∃ n,Hid (n=way.length):=⟨_,rfl⟩
    rw[←HWN.out] at g0 hW
    obtain⟨-,hsx,hsy⟩:=HTH.out way (List.mem_of_getElem? hway)
    obtain⟨tx,HTX⟩:∃ t,Hid (t=zbZ (d.toNat+1) x way):=⟨_,rfl⟩
    obtain⟨ty,HTY⟩:∃ t,Hid (t=zbZ (d.toNat+1) y way):=⟨_,rfl⟩
    have HC1:=hid (zkF (HM.out.1.below hBk) HMX.out.1 hW hsx)
    have HC2:Hid (∀ W,Below wr.heap.size wr W→Calls Tryz.prog 43 #[.agg #[.slice b1 m1 e1,.slice b2 m2 e2],.slice a9 wn c9] W fun e w'=>e= .returned (.bool ty)∧Below W.heap.size W w'):=fun W hb=>by
     rw[HTY.out]
     exact zkF ((HM.out.2.below hBk).below hb) HMX.out.2 (hW.below hb) hsy
    rw[←HTX.out] at HC1
    have HKY:Hid (Blk wr (X+1) [.slice b1 m1 e1,.slice b2 m2 e2] 27):=hkY
    have HCN:Hid (zcv x y (L.take (k+1))=(n1+(if tx=false then 1 else 0),n2+(if tx=true∧ty=false then 1 else 0),n3+(if tx=true∧ty=true then 1 else 0))):=by
     have h0:=HI.out.1
     unfold zcv at h0 ⊢
     obtain⟨rfl,rfl,rfl⟩:n1=_∧n2=_∧n3=_:=by
      injection h0 with e1 e2
      injection e2 with e2 e3
      exact⟨e1,e2,e3⟩
     rw[Hid,zlI hway,zlI hway,zlI hway,←HTX.out,←HTY.out]
     cases tx <;> cases ty <;> simp
    have HI2:=hid HI.out.2
    clear hBk hkX hkY ha hW hsx hsy hway HI
    go_upto_region 8 with fail
    clear g0 hix hbl
    go_wp2_with fail
    refine HC1.out.mono ?_
    rintro e w5 ⟨rfl,hb5⟩
    have HB5:=hid (HI2.out.trans (hb5.mono HI2.out.size))
    have hkY:=HKY.out.below hb5
    have y0:=hkY.cell 0 _ rfl
    have y1:=hkY.cell 1 _ rfl
    have yl:=hkY.lt
    have HB5r:=hid hb5
    clear hb5 hkY x0 x1 xl
    cases tx with
    | false =>
     go_wp2_with fail
     go_roundw
     case rel=>exact⟨n1+1,n2,n3,k+1,by go_num,rfl,rfl,by go_num,hlt,by omega,by omega,by omega,by rw[HCN.out];simp,HB5.out⟩
     case measure=>simp[intOf];omega
    | true =>
     go_wp2_with fail
     refine (HC2.out w5 HB5r.out).mono ?_
     rintro e w6 ⟨rfl,hb6⟩
     have HB6:=hid (HB5.out.trans (hb6.mono HB5.out.size))
     clear hb6 y0 y1 yl
     cases ty with
     | false =>
      go_wp2_with fail
      go_roundw
      case rel=>exact⟨n1,n2+1,n3,k+1,rfl,by go_num,rfl,by go_num,hlt,by omega,by omega,by omega,by rw[HCN.out];simp,HB6.out⟩
      case measure=>simp[intOf];omega
     | true =>
      go_wp2_with fail
      go_roundw
      case rel=>exact⟨n1,n2,n3+1,k+1,rfl,rfl,by go_num,by go_num,hlt,by omega,by omega,by omega,by rw[HCN.out];simp,HB6.out⟩
      case measure=>simp[intOf];omega
   ·
    obtain rfl:k=ln:=by omega
    have HE:=hid (HFIN.out n1 n2 n3 wr (HBW3.out.trans (HI.out.2.mono HBW3.out.size)) (by have:=HI.out.1;rw[List.take_of_length_le (by rw[←HLN.out];exact Nat.le_refl _)] at this;exact this))
    clear hk
    go_wp2_with fail
    exact bodyPost_ret (v:=.tuple #[.int .i64 (n1:Int),.int .i64 (n2:Int),.int .i64 (n3:Int),.int .u8 0]) (by simp[results,Tryz.results19,go_sem]) rfl HE.out
 ·
  have e1:((z:Int) != 0)=true:=by simpa using hz
  have e2:((z:Int) == 0)=false:=by simpa using hz
  have HFIN:Hid (Q (.returned (.tuple #[.int .i64 0,.int .i64 0,.int .i64 0,.int .u8 (z:Nat)])) W2):=by
   rw[HQ.out]
   exact⟨0,0,0,by rw[←HZ.out];rfl,HB2.out,fun h=>absurd (HZ.out.trans h) hz,fun _=>⟨rfl,rfl,rfl⟩⟩
  clear hkX hkY hM hb12 hb1
  go_wp2_with fail
  exact bodyPost_ret (v:=.tuple #[.int .i64 0,.int .i64 0,.int .i64 0,.int .u8 (z:Int)]) (by simp[results,Tryz.results19,go_sem]) rfl HFIN.out
end
section
open Go.RowKit
theorem zjl {s:List Mes}{root d:Int}{a:List UInt8}(ha:(zaP s root a d).2=0)(hl:a.length≤1073741824){w:World}{v:Value}(hv:zat (d.toNat+1) w v (tof s d.toNat root.toNat a)) :
  (zaP s root (zbv s d.toNat root.toNat a) d).2=0∧tof s d.toNat root.toNat (zbv s d.toNat root.toNat a)=tof s d.toNat root.toNat a:=by
 obtain⟨g1,g2,-,g4⟩:=za7 ha
 obtain⟨h1,h2⟩:=zgc g1 (by omega) g4 hl hv
 refine⟨?_,h2⟩
 unfold zaP
 rw[if_neg (by have:=zjB ha;omega)]
 exact h1
theorem zlJ {s:List Mes}{root d:Int}{a b:List UInt8}(ha:(zaP s root a d).2=0)(hb:(zaP s root b d).2=0)(hla:a.length≤1073741824)(hlb:b.length≤1073741824)
  {w w2:World} {v v2:Value} (hv:zat (d.toNat+1) w v (tof s d.toNat root.toNat a)) (hv2:zat (d.toNat+1) w2 v2 (tof s d.toNat root.toNat b)) :
  zbg s root b a d=zbg s root a b d∧zbg s root (zbv s d.toNat root.toNat a) (zbv s d.toNat root.toNat b) d=zbg s root a b d ∧
   decide (zbv s d.toNat root.toNat a=zbv s d.toNat root.toNat b)=(decide ((zbg s root a b d).2.1.length=0) && !(zbg s root a b d).2.2) ∧
   (zcv (tof s d.toNat root.toNat b) (tof s d.toNat root.toNat a) (zbg s root a b d).2.1).2.1=(zcv (tof s d.toNat root.toNat a) (tof s d.toNat root.toNat b) (zbg s root a b d).2.1).1 ∧
   (zcv (tof s d.toNat root.toNat b) (tof s d.toNat root.toNat a) (zbg s root a b d).2.1).1=(zcv (tof s d.toNat root.toNat a) (tof s d.toNat root.toNat b) (zbg s root a b d).2.1).2.1 ∧
   (zcv (tof s d.toNat root.toNat b) (tof s d.toNat root.toNat a) (zbg s root a b d).2.1).2.2=(zcv (tof s d.toNat root.toNat a) (tof s d.toNat root.toNat b) (zbg s root a b d).2.1).2.2 ∧
   (zcv (tof s d.toNat root.toNat a) (tof s d.toNat root.toNat b) (zbg s root a b d).2.1).1+(zcv (tof s d.toNat root.toNat a) (tof s d.toNat root.toNat b) (zbg s root a b d).2.1).2.1+(zcv (tof s d.toNat root.toNat a) (tof s d.toNat root.toNat b) (zbg s root a b d).2.1).2.2=(zbg s root a b d).2.1.length:=by
 obtain⟨g1,g2,-,g4⟩:=za7 ha
 obtain⟨-,-,-,g5⟩:=za7 hb
 obtain⟨n1,n2⟩:=zjl ha hla hv
 obtain⟨m1,m2⟩:=zjl hb hlb hv2
 have r1:=zb7 g1 d.toNat root.toNat a (by omega) g4
 have r2:=zb7 g1 d.toNat root.toNat b (by omega) g5
 rw[show ((root.toNat:Nat):Int)=root by omega] at r1 r2
 have hns:=zqd g1 (by omega) g4 g5 hla hlb hv hv2
 rw[zh9 hb ha,zh9 n1 m1,n2,m2,zh9 ha hb]
 have hth:=zgg (s:=s) (d.toNat+1) (d.toNat+1) root (tof s d.toNat root.toNat a) (tof s d.toNat root.toNat b)
 generalize tof s d.toNat root.toNat a=x at *
 generalize tof s d.toNat root.toNat b=y at *
 have hnil:=zrx g1 r1 r2
 refine⟨by rw[zhe s _ _ root y x,zkq _ _ y x],rfl,?_,?_,?_,?_,?_⟩
 ·
  simp only
  rw[Bool.eq_iff_iff,decide_eq_true_iff,Bool.and_eq_true,decide_eq_true_iff,Bool.not_not,List.length_eq_zero_iff,zoQ,hns,hnil]
 ·
  exact (zkE fun w hw=>(hth w hw).1).symm
 ·
  exact zkE fun w hw=>(hth w hw).1.symm
 ·
  exact zkD fun w _=>Bool.and_comm _ _
 ·
  exact zsT _ _ _ fun w hw=>(hth w hw).1
end
section
open Go.RowKit
structure zgN (B O:Nat)(out:List UInt8)(ov:Value)(w:World):Prop where
 box:Blk w O [ov] 47
 own:Own w B ov out
 off:∀ b,ov.ownBlock=some b→b≠O
structure zbM (O:Nat)(ov:Value)(w w':World):Prop where
 os:w'.os=w.os
 tape:w'.tape=w.tape
 output:w'.output=w.output
 size:w.heap.size≤w'.heap.size
 block:∀ b,b<w.heap.size→b≠O→w'.heap[b]?=w.heap[b]?
theorem zbM.trans {O:Nat}{ov ov':Value}{w w1 w2:World}(h:zbM O ov w w1)(h2:zbM O ov' w1 w2):zbM O ov w w2:=
 ⟨h2.os.trans h.os,h2.tape.trans h.tape,h2.output.trans h.output,Nat.le_trans h.size h2.size,fun b hb hn=>(h2.block b (Nat.lt_of_lt_of_le hb h.size) hn).trans (h.block b hb hn)⟩
theorem zbM.of {O:Nat}{ov:Value}{w w':World}(h:Below w.heap.size w w'):zbM O ov w w':=⟨h.os,h.tape,h.output,h.size,fun b hb _=>h.block b hb⟩
theorem zbM.below {O B:Nat}{ov:Value}{w w':World}(h:zbM O ov w w')(hB:B≤O)(hs:B≤w.heap.size):Below B w w':=⟨h.os,h.tape,h.output,h.size,fun b hb=>h.block b (by omega) (by omega)⟩
theorem zbM.blk {O b:Nat}{ov:Value}{w w':World}{cs:List Value}{T:TypeId}(h:zbM O ov w w')(hb:Blk w b cs T)(hn:b≠O):Blk w' b cs T:=(h.block b hb.lt hn).trans hb
theorem zbM.cell {O b j:Nat}{ov u:Value}{w w':World}(h:zbM O ov w w')(hn:b≠O)(hc:w.cell? ⟨b,j,none⟩=some u):w'.cell? ⟨b,j,none⟩=some u:=
 (World.cell?_of_block (h.block b (World.block_lt_of_cell? w _ hc) hn)).trans hc
theorem zgN.later {B O:Nat}{out:List UInt8}{ov:Value}{w w':World}(h:zgN B O out ov w)(hb:Below w.heap.size w w'):zgN B O out ov w':=
 ⟨h.box.below hb,h.own.below_of hb,h.off⟩
theorem zgO {w:World}{B O F:Nat}{f:Fld}{ov vt:Value}{out t:List UInt8}(hp:zgN B O out ov w)(hB:B≤w.heap.size)(hF:Blk w F f.cells 73)(n x:Nat)(hn:f.number=n)(h:zcg n x=true)(hl:out.length≤549755813888)(hvt:zal w vt t)(ht:t.length≤549755813888)(hf:zcI x t=true) :
  Calls Tryz.prog 127 #[.int .i64 x,vt,.pointer (some ⟨O,0,none⟩),.pointer (some ⟨F,0,none⟩)] w fun e w'=>e= .returned (.tuple #[])∧∃ ov',zgN B O (out++zcj f.number x t) ov' w'∧zbM O ov w w':=by
 have HP:=hid hp
 have HBB:=hid hB
 have HRP:=hid (zpf n x h (hp.own.bytes (by omega)) hl hvt ht hf)
 have c0:=hp.box.cell 0 _ rfl
 have z0:=hp.box.free 0
 have l0:=hp.box.lt
 have c1:=hF.cell 1 _ rfl
 have lF:=hF.lt
 obtain⟨oa,on,oc,rfl⟩:=zaS hp.own
 obtain⟨-,ta,tcap,rfl,-⟩:=hvt.open
 rw[hn] at c1 ⊢
 clear hp hF h hvt ht hf hl hB
 obtain⟨Q,HQ⟩:∃ Q:Ending→World→Prop,Hid (Q=fun e w'=>e= .returned (.tuple #[])∧∃ ov',zgN B O (out++zcj (n:Int) x t) ov' w'∧zbM O (.slice oa on oc) w w'):=⟨_,rfl⟩
 rw[←HQ.out]
 go_enter Tryz.func127,Tryz.ntmps127
 go_wp2_with (go_at_call 128;refine HRP.out.mono ?_;rintro e w1 ⟨v1,rfl,hO1,hb1⟩;obtain⟨a1,n1,k1,rfl⟩:=zaS hO1;have q0:=zaa hb1 _ _ c0;have hbx:=HP.out.box.below hb1;have q1:=hbx.free 0;have q2:=hbx.lt;have HX:=hid hbx;have HO1:=hid hO1;have HB1:=hid hb1;clear hO1 hb1 hbx)
 rw[HQ.out]
 go_end0
 have hk:∀ b,b≠O→(w1.setCell ⟨O,0,none⟩ (.slice a1 n1 k1)).heap[b]?=w1.heap[b]?:=fun b hb=>Below.heap_setCell _ _ _ b (by show b≠O;exact hb)
 have hg:w1.grownBy (w1.setCell ⟨O,0,none⟩ (.slice a1 n1 k1)) (some O):=zbb _ _ _
 refine⟨rfl,_,⟨by simpa using HX.out.set 0 (.slice a1 n1 k1),?_,fun b e=>?_⟩,⟨hg.os.trans HB1.out.os,hg.tape.trans HB1.out.tape,hg.output.trans HB1.out.output,Nat.le_trans HB1.out.size hg.size,fun b hb hn=>(hk b hn).trans (HB1.out.block b hb)⟩⟩
 ·
  have hO:=HO1.out
  have h2:Own (w1.setCell ⟨O,0,none⟩ (.slice a1 n1 k1)) w.heap.size (.slice a1 n1 k1) (out++zcj (n:Int) x t):=by
   unfold Own at hO ⊢
   exact zdl hO fun b e=>hk b (by have:=(World.ownsRow.lt hO b e).1;omega)
  exact h2.mono HBB.out
 ·
  have hO:=HO1.out
  unfold Own at hO
  have:=(World.ownsRow.lt hO b e).1;omega
theorem zm5 {w:World}{B O F:Nat}{f:Fld}{ov vt:Value}{out t:List UInt8}(hp:zgN B O out ov w)(hB:B≤w.heap.size)(hF:Blk w F f.cells 73)(n:Nat)(hn:f.number=n)(h:zcg n 2=true)(hl:out.length≤549755813888)(hvt:zal w vt t)(ht:t.length≤549755813888) :
  Calls Tryz.prog 127 #[.int .i64 2,vt,.pointer (some ⟨O,0,none⟩),.pointer (some ⟨F,0,none⟩)] w fun e w'=>e= .returned (.tuple #[])∧∃ ov',zgN B O (out++zcj f.number 2 t) ov' w'∧zbM O ov w w':=
 zgO hp hB hF n 2 hn h hl hvt ht (zgF t)
end
section
open Go.RowKit
theorem zsU {w:World}{a:Option Addr}{n c base:Nat}{T:TypeId}{l:List VW}(h:zaf znz T 7 0 base w (.slice a n c) l)(hl:l.length≤140737488355328)(k:Nat)(x:VW)(hk:l[k]?=some x) :
  ∃ b o,a=some ⟨b,o,none⟩∧base≤b∧b<w.heap.size∧∀ j u,x.cells[j]?=some u→w.cell? ⟨b,o+k*7+j,none⟩=some u:=by
 have hown:=h.own
 obtain⟨rows,g1,g2,⟨-,-,a',cap',he,-,-,-,g3⟩,g4⟩:=h.at hl (w':=w) (fun _ _ _=>rfl)
 have hkl:=(List.getElem?_eq_some_iff.1 hk).1
 obtain⟨r,hr⟩:∃ r,rows[k]?=some r:=⟨_,List.getElem?_eq_getElem (by omega)⟩
 have hx:r=x.cells:=g4 k r x hr hk
 cases he
 have hfl:∀ j u,x.cells[j]?=some u→rows.flatten[k*7+j]?=some u:=by
  intro j u hu
  have hj:j<7:=by
   have:=(List.getElem?_eq_some_iff.1 hu).1
   simpa [VW.cells,zdh] using this
  rw[zen rows k j r g2 hr hj,hx];exact hu
 obtain⟨b,o,ha,-⟩:=g3 (k*7) _ (by simpa using hfl 0 _ (by rfl))
 cases ha
 obtain⟨h1,h2⟩:=hown b rfl
 refine⟨b,o,rfl,h1,h2,fun j u hu=>?_⟩
 obtain⟨b',o',ha',hc⟩:=g3 (k*7+j) u (hfl j u hu)
 cases ha'
 rw[Nat.add_assoc];exact hc
end
section
open Go.RowKit
def zhp (w:World)(v:Value)(l:List VW):Prop:=∃ a c,v= .slice a l.length c∧l.length≤1099511627776∧∀ (k:Nat) (x:VW),l[k]?=some x→∃ b o,a=some ⟨b,o,none⟩∧∀ j u,x.cells[j]?=some u→w.cell? ⟨b,o+k*7+j,none⟩=some u
theorem zhp.keep {w w':World}{v:Value}{l:List VW}(h:zhp w v l)(hk:∀ p u,w.cell? p=some u→w'.cell? p=some u):zhp w' v l:=by
 obtain⟨a,c,h1,h2,h3⟩:=h
 refine⟨a,c,h1,h2,fun k x hx=>?_⟩
 obtain⟨b,o,ha,hc⟩:=h3 k x hx
 exact⟨b,o,ha,fun j u hu=>hk _ _ (hc j u hu)⟩
theorem zql {w:World}{v:Value}{base:Nat}{T:TypeId}{l:List VW}(h:zaf znz T 7 0 base w v l)(hl:l.length≤1099511627776):zhp w v l:=by
 obtain⟨a,c,rfl⟩:=h.form
 refine⟨a,c,rfl,hl,fun k x hx=>?_⟩
 obtain⟨b,o,ha,-,-,hc⟩:=zsU h (by omega) k x hx
 exact⟨b,o,ha,hc⟩
end
section
open Go.RowKit
theorem zfh {α β:Type}(g:α→List β){l:List α}{k:Nat}{x:α}(h:l[k]?=some x):(l.take (k+1)).flatMap g=(l.take k).flatMap g++g x:=by
 rw[List.take_add_one,h,List.flatMap_append];simp
theorem zcw {α β:Type}(g:α→List β)(l:List α)(k:Nat):((l.take k).flatMap g).length≤(l.flatMap g).length:=by
 conv=>rhs;rw[←List.take_append_drop k l,List.flatMap_append,List.length_append]
 omega
theorem zm6 {w:World}{f:Fld}{bv v:Value}{l:List UInt8}{xs:List VW}(hk:zac f.kind=true)(hb:zal w bv l)(hl:l.length≤1099511627776)(hv:zhp w v xs)(hx:∀ x∈xs,x.r.at'≤x.r.to∧x.r.to≤l.length)
  (hw:(xs.flatMap (zam f l)).length≤68719476736) :
  Calls Tryz.prog 130 #[f.val,bv,v] w fun e w'=>∃ v',e= .returned v'∧Own w' w.heap.size v' (zbR f.kind (xs.flatMap (zam f l)))∧Below w.heap.size w w':=by
 have HK:=hid hk
 have HB:=hid hb
 have HL:=hid hl
 have HX:=hid hx
 have HW:=hid hw
 have HLT:Hid (∀ k,∀ y∈(xs.take k).flatMap (zam f l),y<2 ^ 64):=fun k y hy=>by
  obtain⟨z,-,hz⟩:=List.mem_flatMap.1 hy
  exact zed hz
 obtain⟨-,va,vcap,rfl,-⟩:=hb.open
 obtain⟨xa,xc,rfl,hxl,hxc⟩:=hv
 have HXC:=hid hxc
 obtain⟨ln,HLN⟩:∃ n,Hid (n=l.length):=⟨_,rfl⟩
 obtain⟨xn,HXN⟩:∃ n,Hid (n=xs.length):=⟨_,rfl⟩
 rw[←HLN.out] at HB HL HX ⊢
 rw[←HXN.out] at hxl ⊢
 obtain⟨X,HXX⟩:∃ X,Hid (X=w.heap.size):=⟨_,rfl⟩
 obtain⟨W1,HW1⟩:∃ W,Hid (W=w.alloc (.cells #[.string f.name,.int .i64 f.number,.int .i64 f.kind,.bool f.rep,.bool f.packed,.int .i64 f.of] 73)):=⟨_,rfl⟩
 have hb1:Below w.heap.size w W1:=by rw[HW1.out];exact (Below.refl _ _).alloc (Nat.le_refl _) _
 have hk1:Blk W1 X f.cells 73:=by rw[HW1.out,HXX.out];exact Blk.new w [.string f.name,.int .i64 f.number,.int .i64 f.kind,.bool f.rep,.bool f.packed,.int .i64 f.of] _
 have HB1:=hid hb1
 have HK1:=hid hk1
 have HZ1:Hid (w.heap.size≤W1.heap.size):=hb1.size
 obtain⟨Q,HQ⟩:∃ Q:Ending→World→Prop,Hid (Q=fun e w'=>∃ v',e= .returned v'∧Own w' w.heap.size v' (zbR f.kind (xs.flatMap (zam f l)))∧Below w.heap.size w w'):=⟨_,rfl⟩
 rw[←HQ.out]
 clear hk hb hl hx hw hxc hb1 hk1
 rw[show f.val= .agg #[.string f.name,.int .i64 f.number,.int .i64 f.kind,.bool f.rep,.bool f.packed,.int .i64 f.of] from rfl]
 go_enter Tryz.func130,Tryz.ntmps130
 go_wp2_with fail
 rw[←HW1.out,←HXX.out]
 go_loopw [7,19] (fun v7 v19 wr=>∃ (k:Nat) (wa:Option Addr) (wn wc:Nat),v19= .int .i64 (k:Int)∧v7= .slice wa wn wc∧k≤xn∧Hid (zan wr W1.heap.size (.slice wa wn wc) ((xs.take k).flatMap (zam f l))∧Below W1.heap.size W1 wr)) (fun _ v19 _=>xn - (intOf v19).toNat)
 case atStart=>exact⟨0,none,0,0,rfl,rfl,by omega,World.ownsRow_nil _ _ _ _,Below.refl _ _⟩
 case round =>
  obtain⟨k,wa,wn,wc,rfl,rfl,hkn,HI⟩:=hrel
  have hB0:Below w.heap.size w wr:=HB1.out.trans (HI.out.2.mono HZ1.out)
  have HB0:=hid hB0
  have hkx:=HK1.out.below HI.out.2
  have c2:=hkx.cell 2 _ rfl
  have lx:=hkx.lt
  by_cases hlt:k<xn
  ·
   obtain⟨x,hx⟩:∃ x,xs[k]?=some x:=⟨_,List.getElem?_eq_getElem (by rw[←HXN.out];exact hlt)⟩
   obtain⟨vb,vo,haa,hvc⟩:=HXC.out k x hx
   subst haa
   have hcv:∀ j u,x.cells[j]?=some u→wr.cell? ⟨vb,vo+k*7+j,none⟩=some u:=fun j u hu=>zaa hB0 _ _ (hvc j u hu)
   have n0:=hcv 0 _ rfl
   have n1:=hcv 1 _ rfl
   have n2:=hcv 2 _ rfl
   have n3:=hcv 3 _ rfl
   have n4:=hcv 4 _ rfl
   have n5:=hcv 5 _ rfl
   have n6:=hcv 6 _ rfl
   rw[Nat.add_zero] at n0
   obtain⟨hx1,hx2⟩:=HX.out x (List.mem_of_getElem? hx)
   have HTK:Hid ((xs.take (k+1)).flatMap (zam f l)=(xs.take k).flatMap (zam f l)++zam f l x):=zfh _ hx
   have HLE:Hid (((xs.take k).flatMap (zam f l)).length≤68719476736∧((xs.take (k+1)).flatMap (zam f l)).length≤68719476736):=by
    have h1:=zcw (zam f l) xs k
    have h2:=zcw (zam f l) xs (k+1)
    have:=HW.out
    exact⟨by omega,by omega⟩
   obtain⟨pw,HPW⟩:∃ pw,Hid (pw=zam f l x):=⟨_,rfl⟩
   rw[←HPW.out] at HTK
   obtain⟨⟨x1,x2,x3,x4,x5⟩,xk,xrun⟩:=x
   simp only at n0 n1 n2 n3 n4 n5 n6 hx1 hx2
   obtain⟨W6,HW6⟩:∃ W6,Hid (W6=wr.alloc (.cells #[.int .i64 x1,.int .i64 x2,.int .i64 x3,.int .i64 x4,.int .i64 x5,.int .i64 xk,.bool xrun] 212)):=⟨_,rfl⟩
   obtain⟨VB,HVB⟩:∃ VB,Hid (VB=wr.heap.size):=⟨_,rfl⟩
   have hb6:Below wr.heap.size wr W6:=by rw[HW6.out];exact (Below.refl _ _).alloc (Nat.le_refl _) _
   have hv6:Blk W6 VB [.int .i64 x1,.int .i64 x2,.int .i64 x3,.int .i64 x4,.int .i64 x5,.int .i64 xk,.bool xrun] 212:=by rw[HW6.out,HVB.out];exact Blk.new wr [.int .i64 x1,.int .i64 x2,.int .i64 x3,.int .i64 x4,.int .i64 x5,.int .i64 xk,.bool xrun] _
   have hO6:=HI.out.1.later hb6
   have hB16:Below W1.heap.size W1 W6:=HI.out.2.trans (hb6.mono HI.out.2.size)
   have HO6:=hid hO6
   have HB16:=hid hB16
   obtain⟨pa,pc,hcut,-,hby⟩:=(HB.out.below (HB0.out.trans (hb6.mono hB0.size))).cut HLN.out x4 x5 hx1 hx2
   obtain⟨y,HY⟩:∃ y,Hid (y=(l.drop x4).take (x5 - x4)):=⟨_,rfl⟩
   rw[←HY.out] at hby
   have HBY:=hid hby
   have HYV:Hid (y=zah l ⟨⟨x1,x2,x3,x4,x5⟩,xk,xrun⟩):=HY.out
   have HYL:Hid (y.length≤1099511627776):=by have h:=HL.out;show _≤_;rw[HY.out,List.length_take];omega
   have hkx6:=hkx.below hb6
   have HKX6:=hid hkx6
   have HZ6:Hid (W1.heap.size≤W6.heap.size):=hB16.size
   have d3:=hv6.cell 3 _ rfl
   have d4:=hv6.cell 4 _ rfl
   have d6:=hv6.cell 6 _ rfl
   have e2:=hkx6.cell 2 _ rfl
   have lv:=hv6.lt
   have lx6:=hkx6.lt
   have HV6:=hid hv6
   clear hvc hcv hx hb6 hv6 hO6 hB16 hby hkx hkx6 hB0 c2 lx HI
   go_upto_region 5 with fail
   rw[←HW6.out,←HVB.out]
   clear n0 n1 n2 n3 n4 n5 n6
   have HPT:Hid (∀ u∈pw,u<2 ^ 64):=by rw[HPW.out];exact fun u hu=>zed hu
   have HPL:Hid (((xs.take k).flatMap (zam f l)).length+pw.length≤68719476736):=by
    have h:=HLE.out.2
    rw[HTK.out,List.length_append] at h
    exact h
   cases xrun with
   | true =>
    have HPE:Hid (pw=(zce f.kind y).1):=by
     rw[Hid,HPW.out,HYV.out];unfold zam;rw[if_pos rfl]
    have HRW:=hid (zl8 HBY.out HYL.out f.kind HK.out)
    clear hx1 hx2
    go_wp2_with (first|(go_at_call 182;refine HRW.out.mono ?_;rintro e w6 ⟨v6,rfl,hO6,hb6⟩;rw[←HPE.out] at hO6;obtain⟨a6,c6',rfl⟩:=hO6.form;obtain⟨v7,w7,hr,hO7,hg7,hat7⟩:=zme (HO6.out.later hb6) (hO6.words (by have:=HPL.out;omega) HPT.out) (by have:=HPL.out;omega) (by have:=hb6.size;have:=HZ6.out;omega);obtain⟨a7,n7,c7,rfl⟩:=hO7.form';have HR:=hid hr;have HO7:=hid hO7;have HB7:Hid (Below W1.heap.size W1 w7):=(HB16.out.trans (hb6.mono HZ6.out)).grown hg7 (by have:=hb6.size;have:=HZ6.out;omega) (fun q e=>((HO6.out.later hb6).own q e).1);clear hr hO7 hg7 hat7 hO6 hb6)|(at_builtin;refine zad rfl _ _ _ rfl _ _ rfl rfl HR.out ?_))
    go_roundw
    case rel=>exact⟨k+1,_,_,_,by go_num,rfl,by omega,by rw[HTK.out];exact HO7.out,HB7.out⟩
    case measure=>simp[intOf];omega
   | false =>
    obtain⟨zw,HZW⟩:∃ zw,Hid (zw=zdd f.kind y):=⟨_,rfl⟩
    obtain⟨z1,z2⟩:=zw
    have HPE:Hid (pw=[z1]):=by
     rw[Hid,HPW.out];unfold zam;rw[if_neg (show ¬ false=true by decide),if_pos HK.out,←HYV.out,←HZW.out]
    have HRD:=hid (zdx HK.out HBY.out)
    rw[←HZW.out] at HRD
    clear hx1 hx2
    go_wp2_with (first|(go_at_call 131;refine HRD.out.mono ?_;rintro e w6 ⟨rfl,hb6⟩;obtain⟨v7,w7,hr,hO7,hg7,hat7⟩:=zmf (HO6.out.later hb6) z1 (by have:=HPL.out;omega) (by have:=hb6.size;have:=HZ6.out;omega);obtain⟨a7,n7,c7,rfl⟩:=hO7.form';have HR:=hid hr;have HO7:=hid hO7;have HB7:Hid (Below W1.heap.size W1 w7):=(HB16.out.trans (hb6.mono HZ6.out)).grown hg7 (by have:=hb6.size;have:=HZ6.out;omega) (fun q e=>((HO6.out.later hb6).own q e).1);clear hr hO7 hg7 hat7 hb6)|(at_builtin;refine zad rfl _ _ _ rfl _ _ rfl rfl HR.out ?_))
    go_roundw
    case rel=>exact⟨k+1,_,_,_,by go_num,rfl,by omega,by rw[HTK.out,HPE.out];exact HO7.out,HB7.out⟩
    case measure=>simp[intOf];omega
  ·
   obtain rfl:k=xn:=by omega
   have HE:Hid ((xs.take k).flatMap (zam f l)=xs.flatMap (zam f l)):=by rw[Hid,HXN.out,List.take_length]
   have hO:=HI.out.1
   rw[HE.out] at hO
   have HWS:=hid (hO.words (by have:=HW.out;omega) (by have:=HLT.out k;rw[HE.out] at this;exact this))
   have HPK:=hid (zsh HK.out HWS.out HW.out)
   clear hO hB0 hkx
   go_wp2_with (go_at_call 183;refine HPK.out.mono ?_;rintro e w6 ⟨v6,rfl,hO6,hb6⟩;obtain⟨a6,c6,rfl⟩:=zdT hO6)
   rw[HQ.out]
   exact⟨_,rfl,hO6.mono HB0.out.size,HB0.out.trans (hb6.mono HB0.out.size)⟩
end
end Go.Proofs.YtpckoeicbjfnhaaGreatDoor
