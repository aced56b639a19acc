/- Parts of a proof: texts of the author, merged. No condition of their own. -/
import Derived.Test.YtdpnmdkbdibkpaaGreatDoorZ07
import Derived.Test.YtdpnmdkbdibkpaaGreatDoorZ08
import Derived.Test.YtdpnmdkbdibkpaaGreatDoorZ12
import Derived.Test.YtdpnmdkbdibkpaaGreatDoorZ13
import Derived.Test.YtdpnmdkbdibkpaaGreatDoorZ27
import Derived.Test.YtdpnmdkbdibkpaaGreatDoorZ28
import Derived.Lib.AppendZerosOnto
import Derived.Lib.IndexLaws
import Derived.Lib.Join
namespace Go.Proofs.YtdpnmdkbdibkpaaGreatDoor
set_option maxRecDepth 100000
set_option maxHeartbeats 16000000
section
open Go.RowKit Go.Shelf
theorem zpk {α:Type}{f:α→Nat}{sub:Int→List (List Int)→α→α}(h:∀ o u y,f (sub o u y)≤f y)(fs:List Fld)(keep:Bool)(ws:List (List Int))(v:Val α):((pval sub fs keep ws v).map (vwt f)).sum≤vwt f v:=by
 unfold pval
 split
 ·
  simp only[List.map_cons,List.map_nil,List.sum_cons,List.sum_nil,vwt]
  have:(((v.subs.take 1).map (sub (fs.getD (zak fs v.num).toNat .zero).of (zbd ws v.num))).map f).sum≤(v.subs.map f).sum:=by
   cases v.subs with
   | nil=>simp
   | cons y r =>
    have:=h (fs.getD (zak fs v.num).toNat .zero).of (zbd ws v.num) y
    rw[show (y::r).take 1=[y] from rfl]
    simp only[List.map_cons,List.map_nil,List.sum_cons,List.sum_nil]
    omega
  simp only[List.length_nil,twt,List.map_nil,List.sum_nil] at *
  omega
 ·
  split <;> simp
theorem zlN (s:List Mes)(keep:Bool):∀ (d m:Nat) (ws:List (List Int)) (x:M d),mwt d (zdw s keep d m ws x)≤mwt d x
 | 0,_,_,_=>Nat.le_refl _
 | d+1,m,ws,x=>by
  have key:∀ l:List (Val (M d)),((l.flatMap (pval (fun o u y=>zdw s keep d o.toNat u y) (s.getD m .zero).fields keep ws)).map (vwt (mwt d))).sum≤(l.map (vwt (mwt d))).sum:=by
   intro l
   induction l with
   | nil=>simp
   | cons v r ih =>
    have:=zpk (f:=mwt d) (fun o u y=>zlN s keep d o.toNat u y) (s.getD m .zero).fields keep ws v
    rw[List.flatMap_cons,List.map_append,List.sum_append,List.map_cons,List.sum_cons]
    exact Nat.add_le_add this ih
  have h1:=key (M.vals x)
  have h2:twt (if keep=true then [] else M.unk x)≤twt (M.unk x):=by split <;> simp[twt]
  show 1+twt (if keep=true then [] else M.unk x)+_≤1+twt (M.unk x)+_
  exact Nat.add_le_add (Nat.add_le_add_left h2 1) h1
theorem zoc {w:World}{sv v mv:Value}{s:List Mes}{d:Nat}{x:M d}{ws:List (List Int)}(hS:zaj w sv s)(root:Int)(hx:zac d w v x)(hM:zaM w mv ws)(hL:zdc ws)(hwt:mwt d x≤1099511627776)(keep:Bool) :
  Calls Tryz.prog 40 #[sv,.int .i64 root,v,zb1 mv,.bool keep] w (zdV w d (zbv s root [zae s d root x]) (zdw s keep d root.toNat (mOf ws) x)):=by
 obtain⟨a1,n1,c1,a2,n2,c2,rfl⟩:=hx.form
 obtain⟨X,HX⟩:∃ X,Hid (X=w.heap.size):=⟨_,rfl⟩
 unfold zb1
 have hx2:=hx
 have hM2:=hM
 have hS2:=hS
 obtain⟨-,sa,sc,rfl,-⟩:=hS2.open
 obtain⟨-,ma,mc,rfl,-,-⟩:=hM2.open
 obtain⟨sn,HSN⟩:∃ n,Hid (n=s.length):=⟨_,rfl⟩
 obtain⟨mn,HMN⟩:∃ n,Hid (n=ws.length):=⟨_,rfl⟩
 rw[←HSN.out] at hS hS2 ⊢
 rw[←HMN.out] at hM hM2 ⊢
 obtain⟨W1,HW1⟩:∃ W,Hid (W=((w.alloc (.cells #[.slice a1 n1 c1,.slice a2 n2 c2] 27)).alloc (.cells #[.slice ma mn mc] 69)).alloc (.cells #[.slice none 0 0,.slice none 0 0] 27)):=⟨_,rfl⟩
 have hx1:Blk W1 X [.slice a1 n1 c1,.slice a2 n2 c2] 27:=by rw[HW1.out,HX.out];exact ((Blk.new w [.slice a1 n1 c1,.slice a2 n2 c2] _).alloc _).alloc _
 have hm1:Blk W1 (X+1) [.slice ma mn mc] 69:=by rw[HW1.out,HX.out];exact (Blk.new' _ [.slice ma mn mc] _ _ (by simp)).alloc _
 have hr1:Blk W1 (X+1+1) [.slice none 0 0,.slice none 0 0] 27:=by rw[HW1.out,HX.out];exact Blk.new' _ [.slice none 0 0,.slice none 0 0] _ _ (by simp)
 have hb1:Below w.heap.size w W1:=by rw[HW1.out];(with_reducible repeat first|exact Below.refl _ _|refine pzA ?_ _|refine pzB ?_ _|refine zab ?_ _|refine Below.drew ?_)
 obtain⟨W2,HW2⟩:∃ W,Hid (W=W1.alloc (.cells #[.slice a1 n1 c1,.slice a2 n2 c2] 27)):=⟨_,rfl⟩
 obtain⟨G,HG⟩:∃ G,Hid (G=W1.heap.size):=⟨_,rfl⟩
 have hb12:Below W1.heap.size W1 W2:=by rw[HW2.out];exact (Below.refl _ _).alloc (Nat.le_refl _) _
 have hg2:Blk W2 G [.slice a1 n1 c1,.slice a2 n2 c2] 27:=by rw[HW2.out,HG.out];exact Blk.new W1 [.slice a1 n1 c1,.slice a2 n2 c2] _
 have hb2:=hb1.trans (hb12.mono hb1.size)
 obtain⟨code,HC⟩:∃ c,Hid (c=zbv s root [zae s d root x]):=⟨_,rfl⟩
 have HMAY:=hid (zi0 (hS.below hb2) root (zkX (s:=s) (root:=root) hg2 (hx.below hb2) hwt) (n:=1) (c:=1) rfl (by decide))
 rw[←HC.out] at HMAY ⊢
 have hc12:code≤12:=by rw[HC.out];exact zc0 _ _ _
 have HB2:=hid hb2
 have HXB:=hid (And.intro (hx1.below hb12) (And.intro (hm1.below hb12) (hr1.below hb12)))
 have HS0:=hid hS
 have HMS:=hid (And.intro hM hL)
 have HXM:=hid hx
 have HWT:=hid hwt
 obtain⟨Q,HQ⟩:∃ Q:Ending→World→Prop,Hid (Q=zdV w d code (zdw s keep d root.toNat (mOf ws) x)):=⟨_,rfl⟩
 rw[←HQ.out]
 have k0:=hx1.cell 0 _ rfl
 have k1:=hx1.cell 1 _ rfl
 have kl:=hx1.lt
 clear hx1 hm1 hr1 hb1 hb12 hg2 hb2 hS hS2 hM hM2 hL hx hx2 hwt
 go_enter Tryz.func40,Tryz.ntmps40
 go_upto_region 1 with fail
 rw[←HW1.out,←HX.out]
 go_wp2_with fail
 rw[←HW2.out,←HG.out]
 refine HMAY.out.mono ?_
 rintro e w3 ⟨rfl,hb3⟩
 have HB3:=hid (HB2.out.trans (hb3.mono HB2.out.size))
 have HX3:=hid (And.intro (HXB.out.1.below hb3) (And.intro (HXB.out.2.1.below hb3) (HXB.out.2.2.below hb3)))
 have k0:=HX3.out.1.cell 0 _ rfl
 have k1:=HX3.out.1.cell 1 _ rfl
 have kl:=HX3.out.1.lt
 have m0:=HX3.out.2.1.cell 0 _ rfl
 have ml:=HX3.out.2.1.lt
 clear hb3 HMAY HXB
 by_cases h0:code=0
 ·
  subst h0
  obtain⟨g1,g2,g3,g4⟩:=zfi HC.out.symm
  obtain⟨r,rfl⟩:∃ r:Nat,root=r:=⟨root.toNat,by omega⟩
  have hrt:zae s d (r:Int) x=true:=by simpa using g4
  have HP:=hid (zlM HS0.out keep d r w3 _ _ x ws (by omega) HB3.out HXM.out (HMS.out.1.below HB3.out) HMS.out.2 hrt HWT.out)
  unfold zb1 at HP
  obtain⟨y,HY⟩:∃ y,Hid (y=zdw s keep d r (mOf ws) x):=⟨_,rfl⟩
  rw[←HY.out] at HP
  have HYW:Hid (mwt d y≤1099511627776):=by
   have h1:=zlN s keep d r (mOf ws) x
   rw[←HY.out] at h1
   exact Nat.le_trans h1 HWT.out
  rw[Int.toNat_natCast,←HY.out] at HQ
  clear g1 g2 g3 g4 hrt HC hc12
  go_wp2_with fail
  refine HP.out.mono ?_
  rintro e w4 ⟨v4,rfl,hb4,hap4⟩
  have hM4:=hap4.here
  obtain⟨p1,q1,o1,p2,q2,o2,rfl⟩:=hM4.form
  have HCP:=hid (zdt (w0:=w4) d w4 _ y (Below.refl _ _) hM4 HYW.out)
  have HB4:=hid (HB3.out.trans (hb4.mono HB3.out.size))
  have HR4:=hid (HX3.out.2.2.below hb4)
  clear hb4 hap4 hM4 k0 k1 kl m0 ml HX3
  go_wp2_with fail
  refine HCP.out.mono ?_
  rintro e w5 ⟨v5,rfl,hb5,hap5⟩
  obtain⟨s1,t1,u1,s2,t2,u2,rfl⟩:=hap5.here.form
  have HB5:=hid (HB4.out.trans (hb5.mono HB4.out.size))
  have hr5:=HR4.out.below hb5
  have hlt4:=HR4.out.lt
  have r0:=hr5.cell 0 _ rfl
  have r1:=hr5.cell 1 _ rfl
  have f0:=hr5.free 0
  have f1:=hr5.free 1
  have rl:=hr5.lt
  have z1:=hr5.set 0 (.slice s1 t1 u1)
  have z2:=z1.set 1 (.slice s2 t2 u2)
  have q0:=z2.cell 0 _ rfl
  have q1':=z2.cell 1 _ rfl
  have HE:Hid (Q (.returned (.tuple #[.agg #[.slice s1 t1 u1,.slice s2 t2 u2],.int .u8 0])) ((w5.setCell ⟨X+1+1,0,none⟩ (.slice s1 t1 u1)).setCell ⟨X+1+1,1,none⟩ (.slice s2 t2 u2))):=by
   rw[HQ.out]
   refine⟨(HB5.out.setCell (by rw[HX.out];show w.heap.size≤w.heap.size+1+1;omega) _).setCell (by rw[HX.out];show w.heap.size≤w.heap.size+1+1;omega) _,fun h=>absurd rfl h,fun _=>⟨_,_,_,_,_,_,rfl,?_⟩⟩
   intro w2 hw2
   refine hap5 _ fun b hb hc=>?_
   have hne:b≠X+1+1:=by omega
   have h4:=HB4.out.size
   rw[hw2 b (by simpa using hb) (.inr (by omega)),Below.heap_setCell _ _ _ b hne,Below.heap_setCell _ _ _ b hne]
  clear hr5 z1 z2 hap5 hb5 hlt4 HCP HP
  go_wp2_with fail
  refine bodyPost_ret (v:=.tuple #[.agg #[.slice s1 t1 u1,.slice s2 t2 u2],.int .u8 0]) ?_ rfl HE.out
  simp[results,Tryz.results40,go_sem,q0,q1']
 ·
  have hne:((code:Int) != 0)=true:=by simpa using h0
  have hr3:=HX3.out.2.2
  have r0:=hr3.cell 0 _ rfl
  have r1:=hr3.cell 1 _ rfl
  have f0:=hr3.free 0
  have f1:=hr3.free 1
  have rl:=hr3.lt
  have z1:=hr3.set 0 (.slice none 0 0)
  have z2:=z1.set 1 (.slice none 0 0)
  have q0:=z2.cell 0 _ rfl
  have q1':=z2.cell 1 _ rfl
  have HE:Hid (Q (.returned (.tuple #[.agg #[.slice none 0 0,.slice none 0 0],.int .u8 (code:Int)])) ((w3.setCell ⟨X+1+1,0,none⟩ (.slice none 0 0)).setCell ⟨X+1+1,1,none⟩ (.slice none 0 0))):=by
   rw[HQ.out]
   exact⟨(HB3.out.setCell (by rw[HX.out];show w.heap.size≤w.heap.size+1+1;omega) _).setCell (by rw[HX.out];show w.heap.size≤w.heap.size+1+1;omega) _,fun _=>rfl,fun h=>absurd h h0⟩
  clear hr3 z1 z2 HX3 HC h0
  go_wp2_with fail
  refine bodyPost_ret (v:=.tuple #[.agg #[.slice none 0 0,.slice none 0 0],.int .u8 (code:Int)]) ?_ rfl HE.out
  simp[results,Tryz.results40,go_sem,q0,q1']
theorem zod {w:World}{sv v mv:Value}{s:List Mes}{d:Nat}{x:M d}{ws:List (List Int)}(hS:zaj w sv s)(root:Int)(hx:zac d w v x)(hM:zaM w mv ws)(hL:zdc ws)(hwt:mwt d x≤1099511627776) :
  Calls Tryz.prog 19 #[sv,.int .i64 root,v,zb1 mv] w (zdV w d (zbv s root [zae s d root x]) (zdw s false d root.toNat (mOf ws) x)):=by
 obtain⟨a1,n1,c1,a2,n2,c2,rfl⟩:=hx.form
 obtain⟨X,HX⟩:∃ X,Hid (X=w.heap.size):=⟨_,rfl⟩
 have hS2:=hS
 have hM2:=hM
 obtain⟨-,sa,sc,rfl,-⟩:=hS2.open
 obtain⟨-,ma,mc,rfl,-,-⟩:=hM2.open
 obtain⟨W1,HW1⟩:∃ W,Hid (W=((w.alloc (.cells #[.slice a1 n1 c1,.slice a2 n2 c2] 27)).alloc (.cells #[.slice ma ws.length mc] 69)).alloc (.cells #[.slice none 0 0,.slice none 0 0] 27)):=⟨_,rfl⟩
 have hx1:Blk W1 X [.slice a1 n1 c1,.slice a2 n2 c2] 27:=by rw[HW1.out,HX.out];exact ((Blk.new w [.slice a1 n1 c1,.slice a2 n2 c2] _).alloc _).alloc _
 have hm1:Blk W1 (X+1) [.slice ma ws.length mc] 69:=by rw[HW1.out,HX.out];exact (Blk.new' _ [.slice ma ws.length mc] _ _ (by simp)).alloc _
 have hr1:Blk W1 (X+1+1) [.slice none 0 0,.slice none 0 0] 27:=by rw[HW1.out,HX.out];exact Blk.new' _ [.slice none 0 0,.slice none 0 0] _ _ (by simp)
 have hb1:Below w.heap.size w W1:=by rw[HW1.out];(with_reducible repeat first|exact Below.refl _ _|refine pzA ?_ _|refine pzB ?_ _|refine zab ?_ _|refine Below.drew ?_)
 have HP:=hid (zoc (hS.below hb1) root (hx.below hb1) (hM.below hb1) hL hwt false)
 obtain⟨code,HC⟩:∃ c,Hid (c=zbv s root [zae s d root x]):=⟨_,rfl⟩
 obtain⟨y,HY⟩:∃ y,Hid (y=zdw s false d root.toNat (mOf ws) x):=⟨_,rfl⟩
 unfold zb1 at HP ⊢
 rw[←HC.out,←HY.out] at HP ⊢
 obtain⟨sn,HSN⟩:∃ n,Hid (n=s.length):=⟨_,rfl⟩
 obtain⟨mn,HMN⟩:∃ n,Hid (n=ws.length):=⟨_,rfl⟩
 rw[←HSN.out] at HP ⊢
 rw[←HMN.out] at HP hm1 HW1 ⊢
 obtain⟨Q,HQ⟩:∃ Q:Ending→World→Prop,Hid (Q=zdV w d code y):=⟨_,rfl⟩
 rw[←HQ.out]
 have k0:=hx1.cell 0 _ rfl
 have k1:=hx1.cell 1 _ rfl
 have kl:=hx1.lt
 have m0:=hm1.cell 0 _ rfl
 have ml:=hm1.lt
 have HB1:=hid hb1
 have HR1:=hid hr1
 clear hx1 hm1 hr1 hb1 hS hS2 hM hM2 hL hx hwt
 go_enter Tryz.func19,Tryz.ntmps19
 go_upto_region 1 with fail
 rw[←HW1.out,←HX.out]
 go_wp2_with fail
 refine HP.out.mono ?_
 rintro e w2 ⟨hb2,hne,hz⟩
 have hB2:=HB1.out.trans (hb2.mono HB1.out.size)
 have hr2:=HR1.out.below hb2
 have r0:=hr2.cell 0 _ rfl
 have r1:=hr2.cell 1 _ rfl
 have f0:=hr2.free 0
 have f1:=hr2.free 1
 have rl:=hr2.lt
 have HB2:=hid hB2
 have HRW:=hid (And.intro HR1.out.lt hr2)
 clear k0 k1 kl m0 ml hb2 hr2
 by_cases h0:code=0
 ·
  obtain⟨p1,q1,o1,p2,q2,o2,rfl,hM⟩:=hz h0
  have z1:=HRW.out.2.set 0 (.slice p1 q1 o1)
  have z2:=z1.set 1 (.slice p2 q2 o2)
  have t0:=z2.cell 0 _ rfl
  have t1:=z2.cell 1 _ rfl
  have HE:Hid (Q (.returned (.tuple #[.agg #[.slice p1 q1 o1,.slice p2 q2 o2],.int .u8 0])) ((w2.setCell ⟨X+1+1,0,none⟩ (.slice p1 q1 o1)).setCell ⟨X+1+1,1,none⟩ (.slice p2 q2 o2))):=by
   rw[HQ.out]
   refine⟨(hB2.setCell (by rw[HX.out];show w.heap.size≤w.heap.size+1+1;omega) _).setCell (by rw[HX.out];show w.heap.size≤w.heap.size+1+1;omega) _,fun h=>absurd h0 h,fun _=>⟨_,_,_,_,_,_,rfl,?_⟩⟩
   intro w3 hw3
   refine hM _ fun b hb hc=>?_
   have hlt:=HRW.out.1
   have hne:b≠X+1+1:=by omega
   have h4:=HB1.out.size
   rw[hw3 b (by simpa using hb) (.inr (by omega)),Below.heap_setCell _ _ _ b hne,Below.heap_setCell _ _ _ b hne]
  clear z1 z2 hM hne hz hB2
  go_wp2_with fail
  refine bodyPost_ret (v:=.tuple #[.agg #[.slice p1 q1 o1,.slice p2 q2 o2],.int .u8 0]) ?_ rfl HE.out
  simp[results,Tryz.results19,go_sem,t0,t1]
 ·
  obtain rfl:=hne h0
  have z1:=HRW.out.2.set 0 (.slice none 0 0)
  have z2:=z1.set 1 (.slice none 0 0)
  have t0:=z2.cell 0 _ rfl
  have t1:=z2.cell 1 _ rfl
  have HE:Hid (Q (.returned (.tuple #[.agg #[.slice none 0 0,.slice none 0 0],.int .u8 (code:Int)])) ((w2.setCell ⟨X+1+1,0,none⟩ (.slice none 0 0)).setCell ⟨X+1+1,1,none⟩ (.slice none 0 0))):=by
   rw[HQ.out]
   exact⟨(hB2.setCell (by rw[HX.out];show w.heap.size≤w.heap.size+1+1;omega) _).setCell (by rw[HX.out];show w.heap.size≤w.heap.size+1+1;omega) _,fun _=>rfl,fun h=>absurd h h0⟩
  clear z1 z2 hne hz hB2 h0
  go_wp2_with fail
  refine bodyPost_ret (v:=.tuple #[.agg #[.slice none 0 0,.slice none 0 0],.int .u8 (code:Int)]) ?_ rfl HE.out
  simp[results,Tryz.results19,go_sem,t0,t1]
end
section
open Go.RowKit
def s15:List Mes:=[⟨⟨#[109]⟩,[⟨⟨#[97]⟩,1,3,false,false,0⟩]⟩]
def v15:Val (M 0):=⟨1,[5],[],[]⟩
def x15:M 1:=(⟨[v15],[[16,1]]⟩:zec (M 0))
def y15:M 1:=(⟨[],[[16,1]]⟩:zec (M 0))
def z15:M 1:=(⟨[v15],[[16,1],[16,1]]⟩:zec (M 0))
theorem zoe:zdc [[1]]:=⟨by decide,by simp⟩
theorem zpG:mOf [[1]]=[[1]]:=by decide +kernel
theorem part15:zdw s15 false 1 0 [[1]] x15=y15:=by kernel_rfl
theorem join15:zdL s15 1 0 y15 x15=z15:=by kernel_rfl
theorem may15:zbv s15 0 [zae s15 1 0 x15]=0:=by decide +kernel
theorem may15b:zbv s15 0 [zae s15 1 0 y15,zae s15 1 0 x15]=0:=by decide +kernel
theorem zk3 (w:World):Calls Tryz.prog 4 #[] w fun e w'=>e= .returned (.bool true)∧Below w.heap.size w w':=by
 obtain⟨X,HX⟩:∃ X,Hid (X=w.heap.size):=⟨_,rfl⟩
 obtain⟨W1,HW1⟩:∃ W,Hid (W=((w.alloc (.cells #[.string ⟨#[97]⟩,.int .i64 1,.int .i64 3,.bool false,.bool false,.int .i64 0] 51)).alloc (.cells #[.string ⟨#[109]⟩,.slice (some ⟨X,0,none⟩) 1 1] 64))):=⟨_,rfl⟩
 have hz1:W1.heap.size=X+1+1:=by rw[HW1.out,HX.out];simp
 have hS:zaj W1 (.slice (some ⟨X+1,0,none⟩) 1 1) s15:=by
  rw[HW1.out,HX.out]
  refine zh7 (Blk.new' _ [.string ⟨#[109]⟩,.slice (some ⟨w.heap.size,0,none⟩) 1 1] _ _ (by simp)) (by decide) ?_
  refine zme (Blk.alloc (Blk.new w _ _) _) 1 rfl (by omega) ?_
  intro f hf
  simp at hf
  rcases hf with rfl
  exact⟨by decide,by decide,by decide,by decide⟩
 have hB1:Below w.heap.size w W1:=by rw[HW1.out];(with_reducible repeat first|exact Below.refl _ _|refine pzA ?_ _|refine pzB ?_ _|refine zab ?_ _|refine Below.drew ?_)
 obtain⟨W2,HW2⟩:∃ W,Hid (W=(((W1.alloc (.cells #[.int .u64 5] 65)).alloc (.cells #[.int .i64 1,.slice (some ⟨X+1+1,0,none⟩) 1 1,.slice none 0 0,.slice none 0 0] 32)).alloc (.cells #[.string ⟨#[16,1]⟩] 9)).alloc (.cells #[.slice (some ⟨X+1+1+1,0,none⟩) 1 1,.slice (some ⟨X+1+1+1+1,0,none⟩) 1 1] 27)):=⟨_,rfl⟩
 have hb12:Below W1.heap.size W1 W2:=by rw[HW2.out];(with_reducible repeat first|exact Below.refl _ _|refine pzA ?_ _|refine pzB ?_ _|refine zab ?_ _|refine Below.drew ?_)
 have hz2:W2.heap.size=X+1+1+1+1+1+1:=by rw[HW2.out];simp[hz1]
 have hm2:Blk W2 (X+1+1+1+1+1) [.slice (some ⟨X+1+1+1,0,none⟩) 1 1,.slice (some ⟨X+1+1+1+1,0,none⟩) 1 1] 27:=by rw[HW2.out];exact Blk.new' _ [.slice (some ⟨X+1+1+1,0,none⟩) 1 1,.slice (some ⟨X+1+1+1+1,0,none⟩) 1 1] _ _ (by simp[hz1])
 have b0:Blk W2 (X+1+1) [.int .u64 5] 65:=by rw[HW2.out];exact (((Blk.new' _ [.int .u64 5] _ _ hz1.symm).alloc _).alloc _).alloc _
 have b1:Blk W2 (X+1+1+1) [.int .i64 1,.slice (some ⟨X+1+1,0,none⟩) 1 1,.slice none 0 0,.slice none 0 0] 32:=by rw[HW2.out];exact ((Blk.new' _ [.int .i64 1,.slice (some ⟨X+1+1,0,none⟩) 1 1,.slice none 0 0,.slice none 0 0] _ _ (by simp[hz1])).alloc _).alloc _
 have b2:Blk W2 (X+1+1+1+1) [.string ⟨#[16,1]⟩] 9:=by rw[HW2.out];exact (Blk.new' _ [.string ⟨#[16,1]⟩] _ _ (by simp[hz1])).alloc _
 have hM:zac 1 W2 (.agg #[.slice (some ⟨X+1+1+1,0,none⟩) 1 1,.slice (some ⟨X+1+1+1+1,0,none⟩) 1 1]) x15:=
  ⟨_,_,rfl,zoX (d:=0) (x:=v15) b1 ⟨_,_,_,rfl,by decide,znI (l:=[5]) b0 1 rfl (by omega) (by simp),zfa _,zds _ _ _⟩,⟨zcS (cs:=[[16,1]].map zbA) b2 1 1 rfl (by omega),by decide⟩⟩
 have HS:=hid (hS.below hb12)
 have HM:=hid hM
 have HB2:=hid (hB1.trans (hb12.mono hB1.size))
 have HV0:Hid (W2.cell? ⟨X+1+1+1+1+1,0,none⟩=some (.slice (some ⟨X+1+1+1,0,none⟩) 1 1)∧W2.cell? ⟨X+1+1+1+1+1,1,none⟩=some (.slice (some ⟨X+1+1+1+1,0,none⟩) 1 1)):=⟨hm2.cell 0 _ rfl,hm2.cell 1 _ rfl⟩
 have HZ1:=hid hz1
 have HZ2:=hid hz2
 clear hz1 hS hB1 hb12 hz2 hm2 b0 b1 b2 hM
 go_enter Tryz.func4,Tryz.ntmps4
 go_upto_region 2 with fail
 rw[←HX.out,←HW1.out]
 go_upto_region 3 with fail
 rw[HZ1.out,←HW2.out]
 refine zd1 (fun w'=>Below W2.heap.size W2 w'∧w'.cell? ⟨X+1+1+1+1+1,0,none⟩=some (.slice (some ⟨X+1+1+1,0,none⟩) 1 1)∧w'.cell? ⟨X+1+1+1+1+1,1,none⟩=some (.slice (some ⟨X+1+1+1+1,0,none⟩) 1 1)) 10 ⟨9,3,[.slice none 0 0,.slice none 0 0],27⟩ [(0,0),(1,0),(2,1),(3,1),(4,1),(5,1),(6,0),(7,0),(8,0)] [(10,2,0),(11,0,0)] (by kernel_rfl) rfl rfl (by kernel_rfl) (by kernel_rfl) (fun _ _ dst _ _ h=>by cases dst <;> exact h) ⟨_,rfl,rfl,rfl,fun a w=>by kernel_rfl⟩ (fun w w' h hb=>⟨h.1.trans (hb.mono h.1.size),⟨zaa hb _ _ h.2.1,zaa hb _ _ h.2.2⟩⟩) W2.heap.size (fun w h=>h.1.size) ⟨(Below.refl _ _).drew,HV0.out⟩ (fun OPS _=>?_)
 simp only[List.map_cons,List.map_nil,List.filterMap_cons,List.filterMap_nil,List.getElem?_cons_succ,List.getElem?_cons_zero]
 refine zcz (v:=?v0) ?hy0 ?hr0
 case hy0=>(intro u w hw;unfold zbw;simp only[Act.put,pzC,pzD,pzE];go_simp;all_goals rfl)
 simp only[Act.put,pzC,pzD,pzE]
 refine zcz (v:=?v1) ?hy1 ?hr1
 case hy1=>(intro u w hw;unfold zbw;simp only[Act.put,pzC,pzD,pzE];go_simp;all_goals rfl)
 simp only[Act.put,pzC,pzD,pzE]
 intro u w3 hV3 K HKK
 have HV3:=hid hV3
 have hKK:=HKK.out
 clear hV3 HKK
 simp only[zbw,Act.put,List.setIfInBounds_toArray,List.set_cons_zero,List.set_cons_succ] at hKK ⊢
 have HKK:=hid hKK
 clear hKK
 go_wp2_with fail
 obtain⟨i1,HI1⟩:∃ n,Hid (n=w3.heap.size):=⟨_,rfl⟩
 have hbA:Below w3.heap.size w3 (w3.alloc (.cells #[.int .i64 1] 3)):=(Below.refl _ _).alloc (Nat.le_refl _) _
 have hBk:Blk (w3.alloc (.cells #[.int .i64 1] 3)) i1 [.int .i64 1] 3:=by rw[HI1.out];exact Blk.new w3 [.int .i64 1] _
 have HS0:Hid (∀ W W':World,(Below W2.heap.size W2 W∧W.cell? ⟨X+1+1+1+1+1,0,none⟩=some (.slice (some ⟨X+1+1+1,0,none⟩) 1 1)∧W.cell? ⟨X+1+1+1+1+1,1,none⟩=some (.slice (some ⟨X+1+1+1+1,0,none⟩) 1 1))→Below W.heap.size W W'→(Below W2.heap.size W2 W'∧W'.cell? ⟨X+1+1+1+1+1,0,none⟩=some (.slice (some ⟨X+1+1+1,0,none⟩) 1 1)∧W'.cell? ⟨X+1+1+1+1+1,1,none⟩=some (.slice (some ⟨X+1+1+1+1,0,none⟩) 1 1))):=fun W W' h hb=>⟨h.1.trans (hb.mono h.1.size),⟨zaa hb _ _ h.2.1,zaa hb _ _ h.2.2⟩⟩
 rw[←HI1.out]
 refine HKK.out _ _ (fun W=>((Below W2.heap.size W2 W∧W.cell? ⟨X+1+1+1+1+1,0,none⟩=some (.slice (some ⟨X+1+1+1,0,none⟩) 1 1)∧W.cell? ⟨X+1+1+1+1+1,1,none⟩=some (.slice (some ⟨X+1+1+1+1,0,none⟩) 1 1))∧Blk W i1 [.int .i64 1] 3)) (fun W W' h hb=>⟨HS0.out W W' h.1 hb,h.2.below hb⟩) (fun W h=>h.1) (fun W h=>h.2.lt |> fun hl=>by rw[World.size_alloc];rw[←HI1.out];exact hl) ⟨HS0.out _ _ HV3.out hbA,hBk⟩ hbA ?_
 clear HKK HV3 hbA hBk u
 intro u w4 hV4 K HKK
 have HV4:=hid hV4
 have hKK:=HKK.out
 clear hV4 HKK
 simp only[zbw,Act.put,List.setIfInBounds_toArray,List.set_cons_zero,List.set_cons_succ] at hKK ⊢
 have HKK:=hid hKK
 clear hKK
 go_wp2_with fail
 obtain⟨i2,HI2⟩:∃ n,Hid (n=w4.heap.size):=⟨_,rfl⟩
 have hbA:Below w4.heap.size w4 (w4.alloc (.cells #[.slice (some ⟨i1,0,none⟩) 1 1] 28)):=(Below.refl _ _).alloc (Nat.le_refl _) _
 have hBk:Blk (w4.alloc (.cells #[.slice (some ⟨i1,0,none⟩) 1 1] 28)) i2 [.slice (some ⟨i1,0,none⟩) 1 1] 28:=by rw[HI2.out];exact Blk.new w4 [.slice (some ⟨i1,0,none⟩) 1 1] _
 have HS1:Hid (∀ W W':World,((Below W2.heap.size W2 W∧W.cell? ⟨X+1+1+1+1+1,0,none⟩=some (.slice (some ⟨X+1+1+1,0,none⟩) 1 1)∧W.cell? ⟨X+1+1+1+1+1,1,none⟩=some (.slice (some ⟨X+1+1+1+1,0,none⟩) 1 1))∧Blk W i1 [.int .i64 1] 3)→Below W.heap.size W W'→((Below W2.heap.size W2 W'∧W'.cell? ⟨X+1+1+1+1+1,0,none⟩=some (.slice (some ⟨X+1+1+1,0,none⟩) 1 1)∧W'.cell? ⟨X+1+1+1+1+1,1,none⟩=some (.slice (some ⟨X+1+1+1+1,0,none⟩) 1 1))∧Blk W' i1 [.int .i64 1] 3)):=fun W W' h hb=>⟨HS0.out W W' h.1 hb,h.2.below hb⟩
 rw[←HI2.out]
 refine HKK.out _ _ (fun W=>(((Below W2.heap.size W2 W∧W.cell? ⟨X+1+1+1+1+1,0,none⟩=some (.slice (some ⟨X+1+1+1,0,none⟩) 1 1)∧W.cell? ⟨X+1+1+1+1+1,1,none⟩=some (.slice (some ⟨X+1+1+1+1,0,none⟩) 1 1))∧Blk W i1 [.int .i64 1] 3)∧Blk W i2 [.slice (some ⟨i1,0,none⟩) 1 1] 28)) (fun W W' h hb=>⟨HS1.out W W' h.1 hb,h.2.below hb⟩) (fun W h=>h.1) (fun W h=>h.2.lt |> fun hl=>by rw[World.size_alloc];rw[←HI2.out];exact hl) ⟨HS1.out _ _ HV4.out hbA,hBk⟩ hbA ?_
 clear HKK HV4 hbA hBk u
 intro u w5 hV5 K HKK
 have HV5:=hid hV5
 have hKK:=HKK.out
 clear hV5 HKK
 simp only[zbw,Act.put,List.setIfInBounds_toArray,List.set_cons_zero,List.set_cons_succ] at hKK ⊢
 have HKK:=hid hKK
 clear hKK
 have hI:zar w5 (.slice (some ⟨i1,0,none⟩) 1 1) [1]:=⟨zcS (cs:=[.int .i64 1]) HV5.out.1.2 1 1 rfl (by omega),by simp[zcb]⟩
 have hWY:zaM w5 (.slice (some ⟨i2,0,none⟩) 1 1) [[1]]:=by
  refine⟨[[.slice (some ⟨i1,0,none⟩) 1 1]],rfl,by simp,by simpa using zcS (cs:=[.slice (some ⟨i1,0,none⟩) 1 1]) HV5.out.2 1 1 rfl (by omega),fun i r x hr hx=>?_⟩
  match i with
  | 0 =>
   simp at hr hx
   subst hr
   subst hx
   exact⟨_,rfl,hI⟩
  | i+1=>simp at hr
 have HMO:=hid (zgU hWY zoe)
 rw[zpG] at HMO
 clear hI hWY
 go_wp2_with fail
 refine HMO.out.mono ?_
 rintro e w6 hpost
 obtain⟨ma,mc,rfl,-,hb6,hNW⟩:=hpost.open
 have hWa:zap 0 w5.heap.size w6 fun W=>zaM W (.slice ma [[1]].length mc) [[1]]:=by
  obtain⟨-,base,hbs,hro⟩:=hNW
  exact fun W hW=>hro.at (by decide) fun b hb hc=>hW b hb (hc.imp id fun h=>Nat.le_trans hbs h)
 clear hNW
 replace hWa:=zgt hWa
 obtain⟨i5,HI5⟩:∃ n,Hid (n=w5.heap.size):=⟨_,rfl⟩
 obtain⟨i6,HI6⟩:∃ n,Hid (n=w6.heap.size):=⟨_,rfl⟩
 rw[←HI5.out,←HI6.out] at hWa
 have HS2:Hid (∀ W W':World,(((Below W2.heap.size W2 W∧W.cell? ⟨X+1+1+1+1+1,0,none⟩=some (.slice (some ⟨X+1+1+1,0,none⟩) 1 1)∧W.cell? ⟨X+1+1+1+1+1,1,none⟩=some (.slice (some ⟨X+1+1+1+1,0,none⟩) 1 1))∧Blk W i1 [.int .i64 1] 3)∧Blk W i2 [.slice (some ⟨i1,0,none⟩) 1 1] 28)→Below W.heap.size W W'→(((Below W2.heap.size W2 W'∧W'.cell? ⟨X+1+1+1+1+1,0,none⟩=some (.slice (some ⟨X+1+1+1,0,none⟩) 1 1)∧W'.cell? ⟨X+1+1+1+1+1,1,none⟩=some (.slice (some ⟨X+1+1+1+1,0,none⟩) 1 1))∧Blk W' i1 [.int .i64 1] 3)∧Blk W' i2 [.slice (some ⟨i1,0,none⟩) 1 1] 28)):=fun W W' h hb=>⟨HS1.out W W' h.1 hb,h.2.below hb⟩
 unfold zb1 at *
 simp only[List.length_cons,List.length_nil,Nat.zero_add] at hWa ⊢
 go_wp2_with fail
 refine HKK.out _ _ (fun W=>((((Below W2.heap.size W2 W∧W.cell? ⟨X+1+1+1+1+1,0,none⟩=some (.slice (some ⟨X+1+1+1,0,none⟩) 1 1)∧W.cell? ⟨X+1+1+1+1+1,1,none⟩=some (.slice (some ⟨X+1+1+1+1,0,none⟩) 1 1))∧Blk W i1 [.int .i64 1] 3)∧Blk W i2 [.slice (some ⟨i1,0,none⟩) 1 1] 28)∧(i6≤W.heap.size∧zcc 0 i5 i6 W (fun W'=>zaM W' (.slice ma 1 mc) [[1]])))) (fun W W' h hb=>⟨HS2.out W W' h.1 hb,Nat.le_trans h.2.1 hb.size,h.2.2.below (Nat.zero_le _) h.2.1 hb⟩) (fun W h=>h.1) (fun W h=>by rw[←HI6.out];exact h.2.1) ⟨HS2.out _ _ HV5.out hb6,by rw[HI6.out];exact Nat.le_refl _,hWa⟩ hb6 ?_
 clear HKK HV5 hb6 hpost hWa u HMO
 intro u w7 hV7 K HKK
 have HV7:=hid hV7
 have hKK:=HKK.out
 clear hV7 HKK
 simp only[zbw,Act.put,List.setIfInBounds_toArray,List.set_cons_zero,List.set_cons_succ] at hKK ⊢
 have HKK:=hid hKK
 clear hKK
 have HLV:=hid (zod (HS.out.below HV7.out.1.1.1.1) 0 (HM.out.below HV7.out.1.1.1.1) HV7.out.2.2.here zoe (by decide +kernel))
 rw[may15,zpG] at HLV
 unfold zb1 at HLV
 go_wp2_with fail
 refine HLV.out.mono ?_
 rintro e w8 ⟨hb8,-,hz8⟩
 obtain⟨l1,l2,l3,r1,r2,r3,rfl,hap8⟩:=hz8 rfl
 have hap8':zap 0 w7.heap.size w8 fun W=>zac 1 W (.agg #[.slice l1 l2 l3,.slice r1 r2 r3]) y15:=by
  have h:=part15
  change zdw s15 false 1 (0:Int).toNat [[1]] x15=y15 at h
  rw[h] at hap8
  exact hap8
 have HS3:Hid (∀ W W':World,((((Below W2.heap.size W2 W∧W.cell? ⟨X+1+1+1+1+1,0,none⟩=some (.slice (some ⟨X+1+1+1,0,none⟩) 1 1)∧W.cell? ⟨X+1+1+1+1+1,1,none⟩=some (.slice (some ⟨X+1+1+1+1,0,none⟩) 1 1))∧Blk W i1 [.int .i64 1] 3)∧Blk W i2 [.slice (some ⟨i1,0,none⟩) 1 1] 28)∧(i6≤W.heap.size∧zcc 0 i5 i6 W (fun W'=>zaM W' (.slice ma 1 mc) [[1]])))→Below W.heap.size W W'→((((Below W2.heap.size W2 W'∧W'.cell? ⟨X+1+1+1+1+1,0,none⟩=some (.slice (some ⟨X+1+1+1,0,none⟩) 1 1)∧W'.cell? ⟨X+1+1+1+1+1,1,none⟩=some (.slice (some ⟨X+1+1+1+1,0,none⟩) 1 1))∧Blk W' i1 [.int .i64 1] 3)∧Blk W' i2 [.slice (some ⟨i1,0,none⟩) 1 1] 28)∧(i6≤W'.heap.size∧zcc 0 i5 i6 W' (fun W'=>zaM W' (.slice ma 1 mc) [[1]])))):=fun W W' h hb=>⟨HS2.out W W' h.1 hb,Nat.le_trans h.2.1 hb.size,h.2.2.below (Nat.zero_le _) h.2.1 hb⟩
 obtain⟨i3,HI3⟩:∃ n,Hid (n=w7.heap.size):=⟨_,rfl⟩
 obtain⟨i4,HI4⟩:∃ n,Hid (n=w8.heap.size):=⟨_,rfl⟩
 have hkp:=zgt hap8'
 rw[←HI3.out,←HI4.out] at hkp
 go_wp2_with fail
 refine HKK.out _ _ (fun W=>(((((Below W2.heap.size W2 W∧W.cell? ⟨X+1+1+1+1+1,0,none⟩=some (.slice (some ⟨X+1+1+1,0,none⟩) 1 1)∧W.cell? ⟨X+1+1+1+1+1,1,none⟩=some (.slice (some ⟨X+1+1+1+1,0,none⟩) 1 1))∧Blk W i1 [.int .i64 1] 3)∧Blk W i2 [.slice (some ⟨i1,0,none⟩) 1 1] 28)∧(i6≤W.heap.size∧zcc 0 i5 i6 W (fun W'=>zaM W' (.slice ma 1 mc) [[1]])))∧i4≤W.heap.size∧zcc 0 i3 i4 W (fun W'=>zac 1 W' (.agg #[.slice l1 l2 l3,.slice r1 r2 r3]) y15))) (fun W W' h hb=>⟨HS3.out W W' h.1 hb,Nat.le_trans h.2.1 hb.size,h.2.2.below (Nat.zero_le _) h.2.1 hb⟩) (fun W h=>h.1) (fun W h=>by rw[←HI4.out];exact h.2.1) ⟨HS3.out _ _ HV7.out hb8,by rw[HI4.out];exact Nat.le_refl _,hkp⟩ hb8 ?_
 clear HKK HV7 hb8 hz8 hap8 hap8' hkp HLV u
 refine zcz (v:=?v20) ?hy20 ?hr20
 case hy20=>(intro u w hw;unfold zbw;simp only[Act.put,pzC,pzD,pzE];go_simp;all_goals rfl)
 simp only[Act.put,pzC,pzD,pzE]
 refine zcz (v:=?v21) ?hy21 ?hr21
 case hy21=>(intro u w hw;unfold zbw;simp only[Act.put,pzC,pzD,pzE];go_simp;all_goals rfl)
 simp only[Act.put,pzC,pzD,pzE]
 refine zcz (v:=?v22) ?hy22 ?hr22
 case hy22=>(intro u w hw;unfold zbw;simp only[Act.put,pzC,pzD,pzE];go_simp;all_goals rfl)
 simp only[Act.put,pzC,pzD,pzE]
 intro p w11 hV11 hP hR hk
 unfold zbw zlB
 simp only[Act.put,pzC,pzD,pzE]
 have hr5:=hR (w5.heap.size,w6.heap.size) (by simp)
 have hr7:=hR (w7.heap.size,w8.heap.size) (by simp)
 rw[←HI5.out,←HI6.out] at hr5
 rw[←HI3.out,←HI4.out] at hr7
 obtain⟨Y,HY⟩:∃ Y,Hid (Y=(w11.setCell ⟨p,0,none⟩ (.slice l1 l2 l3)).setCell ⟨p,1,none⟩ (.slice r1 r2 r3)):=⟨_,rfl⟩
 have hk1:=hk.set 0 (.slice l1 l2 l3)
 have hk2:=hk1.set 1 (.slice r1 r2 r3)
 have hbut:=(But.set hk 0 (.slice l1 l2 l3)).trans (But.set hk1 1 (.slice r1 r2 r3))
 rw[←HY.out] at hk2 hbut
 have hp1:i1≠p:=by
  rintro rfl
  have h1:=hV11.1.1.1.2
  have h2:=h1.symm.trans hk
  simp at h2
 have hp2:i2≠p:=by
  rintro rfl
  have h1:=hV11.1.1.2
  have h2:=h1.symm.trans hk
  simp at h2
 have hYB:Below W2.heap.size W2 Y:=hV11.1.1.1.1.1.trans (hbut.to_below hP hV11.1.1.1.1.1.size)
 have hxp:X+1+1+1+1+1≠p:=by have:=HZ2.out;omega
 have hVY:((((Below W2.heap.size W2 Y∧Y.cell? ⟨X+1+1+1+1+1,0,none⟩=some (.slice (some ⟨X+1+1+1,0,none⟩) 1 1)∧Y.cell? ⟨X+1+1+1+1+1,1,none⟩=some (.slice (some ⟨X+1+1+1+1,0,none⟩) 1 1))∧Blk Y i1 [.int .i64 1] 3)∧Blk Y i2 [.slice (some ⟨i1,0,none⟩) 1 1] 28)∧(i6≤Y.heap.size∧zcc 0 i5 i6 Y (fun W'=>zaM W' (.slice ma 1 mc) [[1]])))∧i4≤Y.heap.size∧zcc 0 i3 i4 Y (fun W'=>zac 1 W' (.agg #[.slice l1 l2 l3,.slice r1 r2 r3]) y15):=
  ⟨⟨⟨⟨⟨hYB,(World.cell?_of_block (hbut.block _ (World.block_lt_of_cell? w11 _ hV11.1.1.1.1.2.1) hxp)).trans hV11.1.1.1.1.2.1,(World.cell?_of_block (hbut.block _ (World.block_lt_of_cell? w11 _ hV11.1.1.1.1.2.2) hxp)).trans hV11.1.1.1.1.2.2⟩,hbut.blk hV11.1.1.1.2 hp1⟩,hbut.blk hV11.1.1.2 hp2⟩,Nat.le_trans hV11.1.2.1 hbut.size,hV11.1.2.2.but hbut hV11.1.2.1 hr5⟩,Nat.le_trans hV11.2.1 hbut.size,hV11.2.2.but hbut hV11.2.1 hr7⟩
 have HVY:=hid hVY
 have HK2:=hid hk2
 have HMY:=hid hVY.2.2.here
 have HYB:=hid hYB
 have p0:=hk.cell 0 _ rfl
 have p1:=hk.cell 1 _ rfl
 have f0:=hk.free 0
 have f1:=hk.free 1
 have pl:=hk.lt
 clear hV11 hk hk1 hk2 hbut hP hR hr5 hr7 hYB hVY hp1 hp2 hxp
 refine zfz (fun K12 HK12=>?_)
 go_wp2_with fail
 rw[←HY.out]
 refine HK12.out _ _ HVY.out ?_
 clear HK12 K12 p0 p1 f0 f1 pl
 intro _
 refine zaF (v:=?v30) ?hy30 ?hr30
 case hy30=>(intro w hw;go_simp;all_goals rfl)
 simp only[Act.put,pzC,pzD,pzE]
 refine zbQ ?_
 have q0:=HK2.out.cell 0 _ rfl
 have q1:=HK2.out.cell 1 _ rfl
 have ql:=HK2.out.lt
 have x0:=HVY.out.1.1.1.1.2.1
 have x1:=HVY.out.1.1.1.1.2.2
 have xl:=World.block_lt_of_cell? Y _ x0
 have HJ:=hid (zpi (HS.out.below HYB.out) 0 HMY.out (HM.out.below HYB.out) (by decide +kernel) (by decide +kernel))
 rw[may15b,join15] at HJ
 have HE:=hid (HB2.out.trans (HYB.out.mono HB2.out.size))
 obtain⟨hl2,hr2⟩:l2=0∧r2=1:=by
  obtain⟨vv,uv,e,h1,h2⟩:=HMY.out
  cases e
  obtain⟨-,_,_,e1,-⟩:=h1.open
  obtain⟨-,_,_,e2,-⟩:=h2.open
  injection e1 with _ e1 _
  injection e2 with _ e2 _
  exact⟨e1,e2⟩
 subst hl2 hr2
 clear HVY HMY HS0 HS1 HS2 HS3 HV0
 go_wp2_with fail
 refine HJ.out.mono ?_
 rintro e w12 ⟨hb12,-,hz12⟩
 obtain⟨m1,m2,m3,o1,o2,o3,rfl,hap12⟩:=hz12 rfl
 have hM12:=hap12.here
 obtain⟨hm2,ho2⟩:m2=1∧o2=2:=by
  obtain⟨vv,uv,e,h1,h2⟩:=hM12
  cases e
  obtain⟨-,_,_,e1,-⟩:=h1.open
  obtain⟨-,_,_,e2,-⟩:=h2.open
  injection e1 with _ e1 _
  injection e2 with _ e2 _
  exact⟨e1,e2⟩
 subst hm2 ho2
 obtain⟨W13,HW13⟩:∃ W,Hid (W=w12.alloc (.cells #[.slice m1 1 m3,.slice o1 2 o3] 27)):=⟨_,rfl⟩
 have hb13:Below w12.heap.size w12 W13:=by rw[HW13.out];exact (Below.refl _ _).alloc (Nat.le_refl _) _
 have hg13:Blk W13 w12.heap.size [.slice m1 1 m3,.slice o1 2 o3] 27:=by rw[HW13.out];exact Blk.new w12 [.slice m1 1 m3,.slice o1 2 o3] _
 have hk13:=HK2.out.below (hb12.trans (hb13.mono hb12.size))
 have HE13:=hid (HE.out.trans ((hb12.trans (hb13.mono hb12.size)).mono HE.out.size))
 clear q0 q1 ql x0 x1 xl
 have q0:=hk13.cell 0 _ rfl
 have q1:=hk13.cell 1 _ rfl
 have ql:=hk13.lt
 have g0:=hg13.cell 0 _ rfl
 have g1:=hg13.cell 1 _ rfl
 have gl:=hg13.lt
 obtain⟨G,HG⟩:∃ G,Hid (G=w12.heap.size):=⟨_,rfl⟩
 rw[←HG.out] at g0 g1 gl
 clear hb12 hz12 hap12 hM12 hb13 hg13 hk13
 go_upto_region 5 with fail
 rw[←HW13.out,←HG.out]
 go_wp2_with fail
 go_ret
 exact⟨by simp,HE13.out⟩
end
section
open Go.RowKit
def MsgsW (w:World)(g n:Nat)(wt:Nat→Nat):Prop:=∀ i,i<n→∃ v1 v2 d,∃ x:M d,w.cell? ⟨g,i*2,none⟩=some v1∧w.cell? ⟨g,i*2+1,none⟩=some v2∧zac d w (.agg #[v1,v2]) x∧mwt d x≤1099511627776∧wt i=mwt d x
theorem zmD {w:World}{g n c:Nat}{wt:Nat→Nat}(h:MsgsW w g n wt)(hnb:n≤1099511627776) :
  Calls Tryz.prog 6 #[.slice (some ⟨g,0,none⟩) n c] w fun e w'=>(∃ b,e= .returned (.bool b)∧(b=false→∀ i,i<n→wt i≤2000))∧Below w.heap.size w w':=by
 have HM:=hid h
 clear h
 go_enter Tryz.func6,Tryz.ntmps6
 go_wp2_with fail
 go_loopw [3] (fun v3 wr=>∃ i:Nat,v3= .int .i64 i∧i≤n∧Hid (∀ j,j<i→wt j≤2000)∧Hid (Below w.heap.size w wr)) (fun v3 _=>n - (intOf v3).toNat)
 case atStart=>exact⟨0,rfl,by omega,fun j hj=>absurd hj (by omega),Below.refl _ _⟩
 case round =>
  obtain⟨i,rfl,hi,HJW,HB⟩:=hrel
  by_cases hlt:i<n
  ·
   have hm:=HM.out
   obtain⟨v1,v2,d,x,g0,g1,hM,hw,hwi⟩:=hm i hlt
   clear hm
   obtain⟨a1,n1,c1,a2,n2,c2,he⟩:=hM.form
   cases he
   replace g0:=zaa HB.out _ _ g0
   replace g1:=zaa HB.out _ _ g1
   have hbl:g<wr.heap.size:=World.block_lt_of_cell? wr _ g0
   have hix:=zad Tryz.underlying30 zbX (a:=some ⟨g,0,none⟩) rfl i hlt (cap:=c)
   simp only[Nat.zero_add] at hix
   have HSZ:=hid (zmc 71 d (by decide) wr _ x (hM.below HB.out) hw)
   obtain⟨z,HZ⟩:∃ z,Hid (z=szM 71 d x):=⟨_,rfl⟩
   rw[←HZ.out] at HSZ
   have HWI:Hid (z<5000→wt i=z):=fun hz=>by
    have:=zjI 71 d x (by rw[←HZ.out];exact hz)
    rw[hwi,←this,HZ.out]
   have hco:((71:Nat):Int) - 1=70:=by decide
   rw[hco] at HSZ
   clear hM hw hco HZ hwi
   by_cases hz:(2000:Int)<z
   ·
    go_wp2_with (go_at_call 22;refine HSZ.out.mono ?_;rintro e w1 ⟨rfl,hb1⟩)
    go_ret
    exact⟨⟨_,rfl,fun h=>by cases h⟩,HB.out.trans (hb1.mono HB.out.size)⟩
   ·
    go_wp2_with (go_at_call 22;refine HSZ.out.mono ?_;rintro e w1 ⟨rfl,hb1⟩)
    have HB1:=hid (HB.out.trans (hb1.mono HB.out.size))
    clear hb1
    go_roundw
    case rel=>exact⟨i+1,by go_num,hlt,fun j hj=>by
     by_cases hji:j=i
     ·
      subst hji;have:=HWI.out (by omega);omega
     ·
      exact HJW.out j (by omega),HB1.out⟩
    case measure=>simp[intOf];omega
  ·
   obtain rfl:i=n:=by omega
   go_wp2_with fail
   go_ret
   exact⟨⟨_,rfl,fun _=>HJW.out⟩,HB.out⟩
end
section
open Go.RowKit
end
section
open Go.RowKit
end
section
open Go.RowKit
end
section
open Go.RowKit
end
section
open Go.RowKit
def zdg:List UInt8→List (List UInt8)
 | []=>[[]]
 | c::r=>if c=46 then []::zdg r else match zdg r with
  | []=>[[c]]
  | h::t=>(c::h)::t
theorem zkd (l:List UInt8):∃ h t,zdg l=h::t:=by
 cases l with
 | nil=>exact⟨_,_,rfl⟩
 | cons c r =>
  rw[zdg]
  split
  ·
   exact⟨_,_,rfl⟩
  ·
   split <;> exact⟨_,_,rfl⟩
theorem zhl:∀ {l:List UInt8},(46:UInt8) ∉ l→zdg l=[l]
 | [],_=>rfl
 | c::r,h=>by
  have hc:c≠46:=fun e=>h (by simp[e])
  rw[zdg,if_neg hc,zhl (l:=r) (fun e=>h (by simp[e]))]
theorem zk4:∀ {a:List UInt8} (b:List UInt8),(46:UInt8) ∉ a→zdg (a++46::b)=a::zdg b
 | [],b,_=>by rw[List.nil_append,zdg,if_pos rfl]
 | c::r,b,h=>by
  have hc:c≠46:=fun e=>h (by simp[e])
  rw[List.cons_append,zdg,if_neg hc,zk4 (a:=r) b (fun e=>h (by simp[e]))]
theorem zlO:∀ l:List UInt8,(zdg l).length≤l.length+1
 | []=>by simp[zdg]
 | c::r=>by
  have:=zlO r
  rw[zdg]
  split
  ·
   simp;omega
  ·
   split
   ·
    simp
   ·
    rename_i h t e
    rw[e] at this
    simp at this ⊢
    omega
theorem zfX:∀ (l:List UInt8) (t:List UInt8),t∈zdg l→t.length≤l.length
 | [],t,h=>by simp[zdg] at h;simp[h]
 | c::r,t,h=>by
  have ih:=zfX r
  rw[zdg] at h
  split at h
  ·
   rcases List.mem_cons.1 h with rfl|h
   ·
    simp
   ·
    have:=ih t h;simp;omega
  ·
   split at h
   ·
    simp at h;subst h;simp
   ·
    rename_i hd tl e
    rcases List.mem_cons.1 h with rfl|h
    ·
     have:=ih hd (by rw[e];simp)
     simp;omega
    ·
     have:=ih t (by rw[e];simp[h])
     simp;omega
theorem zhm {l:List UInt8}(h:Lib.indexByte l 46= -1):zdg l=[l]:=
 zhl fun hm=>by
  obtain⟨k,hk⟩:=List.mem_iff_getElem?.1 hm
  exact Lib.indexByte_none h k hk
theorem zhn {l:List UInt8}{i:Nat}(h:Lib.indexByte l 46=i):i<l.length∧zdg l=l.take i::zdg (l.drop (i+1)):=by
 obtain⟨h1,h2⟩:=Lib.indexByte_some h
 obtain⟨hi,h3⟩:=List.getElem?_eq_some_iff.1 h1
 refine⟨hi,?_⟩
 have e:l=l.take i++46::l.drop (i+1):=by
  conv=>lhs;rw[←List.take_append_drop i l]
  rw[List.drop_eq_getElem_cons hi,h3]
 conv=>lhs;rw[e]
 refine zk4 _ fun hm=>?_
 obtain⟨k,hk⟩:=List.mem_iff_getElem?.1 hm
 rw[List.getElem?_take] at hk
 split at hk
 ·
  rename_i hki
  exact h2 k hki hk
 ·
  cases hk
def zbl:List (List UInt8)→List UInt8
 | []=>[]
 | [x]=>x
 | x::y::r=>x++46::zbl (y::r)
theorem zho:∀ l:List (List UInt8),Lib.join l [46]=zbl l
 | []=>rfl
 | [x]=>by rw[Lib.join_one];rfl
 | x::y::r=>by
  rw[Lib.join_cons,zbl,←zho (y::r),Lib.join_cons]
  simp[Lib.joinTail]
theorem zii:∀ {l:List (List UInt8)},l≠[]→(∀ x∈l,(46:UInt8) ∉ x)→zdg (zbl l)=l
 | [],h,_=>absurd rfl h
 | [x],_,h=>zhl (h x (by simp))
 | x::y::r,_,h=>by
  rw[zbl,zk4 _ (h x (by simp)),zii (by simp) fun z hz=>h z (by simp[List.mem_cons.1 hz])]
end
end Go.Proofs.YtdpnmdkbdibkpaaGreatDoor
