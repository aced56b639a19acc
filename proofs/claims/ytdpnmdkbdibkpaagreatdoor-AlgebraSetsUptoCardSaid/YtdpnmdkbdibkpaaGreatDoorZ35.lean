/- algebra.Set: a meaning with a value at a way, or why there is none. Meanings of at most 2^29 things, ways of at most 2^28 numbers. -/
import Derived.Test.YtdpnmdkbdibkpaaGreatDoorZ18
import Derived.Test.YtdpnmdkbdibkpaaGreatDoorZ22
import Derived.Test.YtdpnmdkbdibkpaaGreatDoorZ23
import Derived.Test.YtdpnmdkbdibkpaaGreatDoorZ27
import Derived.Test.YtdpnmdkbdibkpaaGreatDoorZ33
import Derived.Test.YtdpnmdkbdibkpaaGreatDoorZ34
namespace Go.Proofs.YtdpnmdkbdibkpaaGreatDoor
set_option maxRecDepth 100000
set_option maxHeartbeats 16000000
section
open Go.RowKit Go.Shelf
def setC (s:List Mes)(root:Int){m:Nat}(way:List Int)(x:M (m+way.length))(v:Val (M m)):Nat:=
 if zbv s root [zae s (m+way.length) root x]≠0 then zbv s root [zae s (m+way.length) root x] else if zcF s root way=false then 10 else if 0<zcD v∧zbp (zae s m) (zdm s root .zero way) v=false then 12 else 0
theorem zqd {m:Nat}{way:List Int}{w:World}{sv xv yv vv:Value}{s:List Mes}{x:M (m+way.length)}{v:Val (M m)}(hS:zaj w sv s)(root:Int)(hx:zac (m+way.length) w xv x)(hy:zar w yv way)(hv:zat (zac m) w vv v)(hwx:mwt (m+way.length) x≤536870912)(hwv:vwt (mwt m) v≤536870912)(hL:way.length≤268435456) :
  Calls Tryz.prog 9 #[sv,.int .i64 root,xv,yv,vv] w (zdV w (m+way.length) (setC s root way x v) (zdj way x v)):=by
 have HWV:=hid hv
 have HIY:=hid hy
 have HXM:=hid hx
 have HSS:=hid hS
 have HWT:=hid (And.intro hwx (And.intro hwv hL))
 obtain⟨a1,n1,c1,a2,n2,c2,rfl⟩:=hx.form
 obtain⟨V1,V2,V3,rfl,-,hVW,hVT,hVS⟩:=hv
 obtain⟨-,s1,t1,rfl,-,-⟩:=hVW.open
 obtain⟨-,s2,t2,rfl,-,-⟩:=hVT.open
 obtain⟨-,s3,t3,rfl,-,-⟩:=hVS.open
 obtain⟨k1,HK1⟩:∃ n,Hid (n=v.words.length):=⟨_,rfl⟩
 obtain⟨k2,HK2⟩:∃ n,Hid (n=v.texts.length):=⟨_,rfl⟩
 obtain⟨k3,HK3⟩:∃ n,Hid (n=v.subs.length):=⟨_,rfl⟩
 obtain⟨vn,HVN⟩:∃ n,Hid (n=v.num):=⟨_,rfl⟩
 rw[←HK1.out,←HK2.out,←HK3.out,←HVN.out] at HWV ⊢
 obtain⟨-,ya,yc,rfl,-,-⟩:=hy.open
 obtain⟨yn,HYN⟩:∃ n,Hid (n=way.length):=⟨_,rfl⟩
 obtain⟨D,HD⟩:∃ n,Hid (n=m+way.length):=⟨_,rfl⟩
 have HIY':Hid (zar w (.slice ya yn yc) way):=by rw[HYN.out];exact HIY.out
 obtain⟨X,HX⟩:∃ X,Hid (X=w.heap.size):=⟨_,rfl⟩
 have hS2:=hS
 obtain⟨-,sa,sc,rfl,-⟩:=hS2.open
 obtain⟨sn,HSN⟩:∃ n,Hid (n=s.length):=⟨_,rfl⟩
 rw[←HSN.out] at HSS ⊢
 rw[show (Value.slice ya way.length yc)= .slice ya yn yc by rw[HYN.out]]
 obtain⟨W1,HW1⟩:∃ W,Hid (W=((w.alloc (.cells #[.slice a1 n1 c1,.slice a2 n2 c2] 27)).alloc (.cells #[.int .i64 vn,.slice s1 k1 t1,.slice s2 k2 t2,.slice s3 k3 t3] 32)).alloc (.cells #[.slice none 0 0,.slice none 0 0] 27)):=⟨_,rfl⟩
 obtain⟨hx1,hv1,hr1,hz1,hb1⟩:=zjK w [.slice a1 n1 c1,.slice a2 n2 c2] [.int .i64 vn,.slice s1 k1 t1,.slice s2 k2 t2,.slice s3 k3 t3] [.slice none 0 0,.slice none 0 0] 27 32 27
 rw[←HW1.out] at hx1 hv1 hr1 hz1 hb1
 obtain⟨W2,HW2⟩:∃ W,Hid (W=W1.alloc (.cells #[.slice a1 n1 c1,.slice a2 n2 c2] 27)):=⟨_,rfl⟩
 obtain⟨G,HG⟩:∃ G,Hid (G=W1.heap.size):=⟨_,rfl⟩
 have hb12:Below W1.heap.size W1 W2:=by rw[HW2.out];exact (Below.refl _ _).alloc (Nat.le_refl _) _
 have hg2:Blk W2 G [.slice a1 n1 c1,.slice a2 n2 c2] 27:=by rw[HW2.out,HG.out];exact Blk.new W1 [.slice a1 n1 c1,.slice a2 n2 c2] _
 have hb2:=hb1.trans (hb12.mono hb1.size)
 obtain⟨may,HC⟩:∃ c,Hid (c=zbv s root [zae s (m+way.length) root x]):=⟨_,rfl⟩
 have HMAY:=hid (zi0 (HSS.out.below hb2) root (zkX (s:=s) (root:=root) hg2 (HXM.out.below hb2) (by omega)) (n:=1) (c:=1) rfl (by decide))
 rw[←HC.out] at HMAY
 rw[←HX.out] at hx1 hv1 hr1
 have hc12:may≤12:=by rw[HC.out];exact zc0 _ _ _
 obtain⟨code,HCO⟩:∃ c,Hid (c=setC s root way x v):=⟨_,rfl⟩
 have HCE:Hid (code=if may≠0 then may else if zcF s root way=false then 10 else if 0<zcD v∧zbp (zae s m) (zdm s root .zero way) v=false then 12 else 0):=by rw[Hid,HCO.out,HC.out];rfl
 obtain⟨Q,HQ⟩:∃ Q:Ending→World→Prop,Hid (Q=zdV w (m+way.length) code (zdj way x v)):=⟨_,rfl⟩
 rw[←HCO.out,←HQ.out]
 have HB2:=hid hb2
 have HXB:=hid (And.intro (hx1.below hb12) (And.intro (hv1.below hb12) (hr1.below hb12)))
 have HXW:Hid (w.heap.size≤X+1+1):=by rw[HX.out];show w.heap.size≤w.heap.size+1+1;omega
 -- an answer that is none
 have HNO:Hid (∀ (wx:World) (c:Nat),code=c→c≠0→Below w.heap.size w wx→Q (.returned (.tuple #[.agg #[.slice none 0 0,.slice none 0 0],.int .u8 (c:Int)])) ((wx.setCell ⟨X+1+1,0,none⟩ (.slice none 0 0)).setCell ⟨X+1+1,1,none⟩ (.slice none 0 0))):=by
  intro wx c hc h0 hb
  rw[HQ.out,hc]
  exact⟨(hb.setCell HXW.out _).setCell HXW.out _,fun _=>rfl,fun h=>absurd h h0⟩
 have k0:=hx1.cell 0 _ rfl
 have k1':=hx1.cell 1 _ rfl
 have kl:=hx1.lt
 clear hx1 hv1 hr1 hz1 hb1 hb12 hg2 hb2 hS hS2 hx hy hwx hwv hL hVW hVT hVS HCO HIY
 go_enter Tryz.func9,Tryz.ntmps9
 go_upto_region 1 with fail
 rw[←HW1.out,←HX.out]
 go_wp2_with fail
 rw[←HW2.out,←HG.out]
 refine HMAY.out.mono ?_
 rintro e w3 ⟨rfl,hb3⟩
 have HB3:=hid (HB2.out.trans (hb3.mono HB2.out.size))
 have HX3:=hid (And.intro (HXB.out.1.below hb3) (And.intro (HXB.out.2.1.below hb3) (HXB.out.2.2.below hb3)))
 clear k0 k1' kl hb3 HMAY HXB HW2 HG
 by_cases h0:may=0
 ·
  subst h0
  obtain⟨g1,g2,g3,g4⟩:=zfi HC.out.symm
  obtain⟨r,rfl⟩:∃ r:Nat,root=r:=⟨root.toNat,by omega⟩
  have hrt:zae s (m+way.length) (r:Int) x=true:=by simpa using g4
  have HRT:=hid (And.intro g1 (And.intro hrt (show r<s.length by omega)))
  have HLA:=hid (zlP (HSS.out.below HB3.out) g1 r (by omega) (HIY'.out.below HB3.out) (by have:=HWT.out.2.2;omega))
  clear g1 g2 g3 g4 hrt HC hc12
  go_wp2_with fail
  refine HLA.out.mono ?_
  rintro e w4 ⟨hb4,hno,hyes⟩
  have HB4:=hid (HB3.out.trans (hb4.mono HB3.out.size))
  have HX4:=hid (And.intro (HX3.out.1.below hb4) (And.intro (HX3.out.2.1.below hb4) (HX3.out.2.2.below hb4)))
  clear hb4 HLA HX3
  cases hwo:zcF s (r:Int) way with
  | false =>
   obtain rfl:=hno hwo
   have hce:code=10:=by rw[HCE.out,if_neg (by simp),if_pos hwo]
   obtain⟨W5,HW5⟩:∃ W,Hid (W=w4.alloc (.cells #[.string ⟨#[]⟩,.int .i64 0,.int .i64 0,.bool false,.bool false,.int .i64 0] 51)):=⟨_,rfl⟩
   have hb5:Below w4.heap.size w4 W5:=by rw[HW5.out];exact (Below.refl _ _).alloc (Nat.le_refl _) _
   have HE:=hid (HNO.out W5 10 hce (by decide) (HB4.out.trans (hb5.mono HB4.out.size)))
   have hr5:=HX4.out.2.2.below hb5
   have r0:=hr5.cell 0 _ rfl
   have r1:=hr5.cell 1 _ rfl
   have f0:=hr5.free 0
   have f1:=hr5.free 1
   have rl:=hr5.lt
   have z2:=(hr5.set 0 (.slice none 0 0)).set 1 (.slice none 0 0)
   have q0:=z2.cell 0 _ rfl
   have q1':=z2.cell 1 _ rfl
   clear hno hyes hwo hb5 hr5 z2 hce HX4 HNO HCE
   simp only[Fld.zero,Fld.val]
   go_upto_region 5 with fail
   rw[←HW5.out]
   go_wp2_with fail
   refine bodyPost_ret (v:=.tuple #[.agg #[.slice none 0 0,.slice none 0 0],.int .u8 (10:Int)]) ?_ rfl HE.out
   simp[results,Tryz.results9,go_sem,q0,q1']
  | true =>
   obtain rfl:=hyes hwo
   obtain⟨f,HF⟩:∃ f,Hid (f=zdm s r .zero way):=⟨_,rfl⟩
   rw[←HF.out] at HCE ⊢
   have HCE2:Hid (code=if 0<zcD v∧zbp (zae s m) f v=false then 12 else 0):=by
    rw[Hid,HCE.out,if_neg (by simp),if_neg (by rw[hwo];simp)]
   have HWO:=hid hwo
   obtain⟨fname,fnumber,fkind,frep,fpacked,fof⟩:=f
   obtain⟨W5,HW5⟩:∃ W,Hid (W=w4.alloc (.cells #[.string fname,.int .i64 fnumber,.int .i64 fkind,.bool frep,.bool fpacked,.int .i64 fof] 51)):=⟨_,rfl⟩
   obtain⟨FB,HFB⟩:∃ b,Hid (b=w4.heap.size):=⟨_,rfl⟩
   have hb5:Below w4.heap.size w4 W5:=by rw[HW5.out];exact (Below.refl _ _).alloc (Nat.le_refl _) _
   have hf5:Blk W5 FB [.string fname,.int .i64 fnumber,.int .i64 fkind,.bool frep,.bool fpacked,.int .i64 fof] 51:=by rw[HW5.out,HFB.out];exact Blk.new w4 [.string fname,.int .i64 fnumber,.int .i64 fkind,.bool frep,.bool fpacked,.int .i64 fof] _
   have HB5:=hid (HB4.out.trans (hb5.mono HB4.out.size))
   have HX5:=hid (And.intro (HX4.out.1.below hb5) (And.intro (HX4.out.2.1.below hb5) (And.intro (HX4.out.2.2.below hb5) hf5)))
   have HTV:=hid (zfK (w:=W5) (VMsg.keep HWV.out (zaa HB5.out):zat (zac m) W5 _ v))
   obtain⟨mv,HMV⟩:∃ q,Hid (q=zcD v):=⟨_,rfl⟩
   rw[←HMV.out] at HTV HCE2
   have v0:=HX5.out.2.1.cell 0 _ rfl
   have v1:=HX5.out.2.1.cell 1 _ rfl
   have v2:=HX5.out.2.1.cell 2 _ rfl
   have v3:=HX5.out.2.1.cell 3 _ rfl
   have vl:=HX5.out.2.1.lt
   clear hno hyes hwo hb5 hf5 HX4 HCE
   simp only[Fld.val]
   go_upto_region 7 with fail
   rw[←HW5.out,←HFB.out]
   -- the end: the meaning,set
   have HEND:Hid (∀ wx,Below W5.heap.size W5 wx→code=0→Calls Tryz.prog 28 #[.agg #[.slice a1 n1 c1,.slice a2 n2 c2],.slice ya yn yc,.agg #[.int .i64 vn,.slice s1 k1 t1,.slice s2 k2 t2,.slice s3 k3 t3]] wx fun e w'=>∃ v',e= .returned v'∧Below wx.heap.size wx w'∧zac (m+way.length) w' v' (zdj way x v)):=by
    intro wx hb _
    obtain⟨ns,hns⟩:=zcn HWO.out
    have hok:=zc6 HRT.out.1 way r x ns HRT.out.2.2 hns HRT.out.2.1
    have hw5:=HB5.out.trans (hb.mono HB5.out.size)
    refine (zos way (zgx HWO.out) w wx _ _ _ x v hw5 HXM.out HIY'.out HWV.out hok HWT.out.1).mono ?_
    rintro e w' ⟨v',h1,h2,h3⟩
    exact⟨v',h1,h2,h3.here⟩
   have HWS:Hid (code=0→mwt (m+way.length) (zdj way x v)≤1099511627776):=by
    intro _
    obtain⟨ns,hns⟩:=zcn HWO.out
    have:=zi5 v way x (zc6 HRT.out.1 way r x ns HRT.out.2.2 hns HRT.out.2.1)
    have:=HWT.out
    omega
   have HFIT:Hid (∀ W,Below W5.heap.size W5 W→Calls Tryz.prog 26 #[.agg #[.string fname,.int .i64 fnumber,.int .i64 fkind,.bool frep,.bool fpacked,.int .i64 fof],.slice sa sn sc,.agg #[.int .i64 vn,.slice s1 k1 t1,.slice s2 k2 t2,.slice s3 k3 t3]] W fun e w'=>e= .returned (.bool (zbp (zae s m) ⟨fname,fnumber,fkind,frep,fpacked,fof⟩ v))∧Below W.heap.size W w'):=fun W hW=>by
    have hw5:=HB5.out.trans (hW.mono HB5.out.size)
    exact zj7 (zem s m) W ⟨fname,fnumber,fkind,frep,fpacked,fof⟩ _ _ v (HSS.out.below hw5) (VMsg.keep HWV.out (zaa hw5)) (by have:=HWT.out;omega)
   by_cases hm0:mv=0
   ·
    have hce:code=0:=by rw[HCE2.out,if_neg (by omega)]
    subst hm0
    go_upto_if 35 with (go_at_call 25;refine HTV.out.mono ?_;rintro e w6 ⟨rfl,hb6⟩)
    clear v0 v1 v2 v3 vl
    have HX6:=hid (And.intro (HX5.out.1.below hb6) (And.intro (HX5.out.2.1.below hb6) (HX5.out.2.2.1.below hb6)))
    have HB6:=hid (HB5.out.trans (hb6.mono HB5.out.size))
    have HST:=hid (HEND.out w6 hb6 hce)
    have HWS2:=hid (HWS.out hce)
    have x0:=HX6.out.1.cell 0 _ rfl
    have x1:=HX6.out.1.cell 1 _ rfl
    have xl:=HX6.out.1.lt
    have v0:=HX6.out.2.1.cell 0 _ rfl
    have v1:=HX6.out.2.1.cell 1 _ rfl
    have v2:=HX6.out.2.1.cell 2 _ rfl
    have v3:=HX6.out.2.1.cell 3 _ rfl
    have vl:=HX6.out.2.1.lt
    clear HX5 HEND HWS HFIT HTV HNO HCE2
    go_wp2_with fail
    refine HST.out.mono ?_
    rintro e w7 ⟨v7,rfl,hb7,hM7⟩
    obtain⟨p1,q1,o1,p2,q2,o2,rfl⟩:=hM7.form
    have HCP:=hid (zdt (w0:=w7) (m+way.length) w7 _ _ (Below.refl _ _) hM7 HWS2.out)
    have HB7:=hid (HB6.out.trans (hb7.mono HB6.out.size))
    have HR7:=hid (HX6.out.2.2.below hb7)
    clear hb7 hM7 x0 x1 xl v0 v1 v2 v3 vl HX6 HST
    go_wp2_with fail
    refine HCP.out.mono ?_
    rintro e w8 ⟨v8,rfl,hb8,hap8⟩
    obtain⟨b1,b2,b3,b4,b5,b6,rfl⟩:=hap8.here.form
    have HB8:=hid (HB7.out.trans (hb8.mono HB7.out.size))
    have hr8:=HR7.out.below hb8
    have hlt7:=HR7.out.lt
    have r0:=hr8.cell 0 _ rfl
    have r1:=hr8.cell 1 _ rfl
    have f0:=hr8.free 0
    have f1:=hr8.free 1
    have rl:=hr8.lt
    have z2:=(hr8.set 0 (.slice b1 b2 b3)).set 1 (.slice b4 b5 b6)
    have q0:=z2.cell 0 _ rfl
    have q1':=z2.cell 1 _ rfl
    have HE:Hid (Q (.returned (.tuple #[.agg #[.slice b1 b2 b3,.slice b4 b5 b6],.int .u8 0])) ((w8.setCell ⟨X+1+1,0,none⟩ (.slice b1 b2 b3)).setCell ⟨X+1+1,1,none⟩ (.slice b4 b5 b6))):=by
     rw[HQ.out]
     refine⟨(HB8.out.setCell HXW.out _).setCell HXW.out _,fun h=>absurd hce h,fun _=>⟨_,_,_,_,_,_,rfl,?_⟩⟩
     intro W hW
     refine hap8 _ fun b hb hc=>?_
     have hne:b≠X+1+1:=by omega
     have h7:=HB7.out.size
     rw[hW b (by simpa using hb) (.inr (by omega)),Below.heap_setCell _ _ _ b hne,Below.heap_setCell _ _ _ b hne]
    clear hr8 z2 hap8 hb8 hlt7 HCP hce
    go_wp2_with fail
    refine bodyPost_ret (v:=.tuple #[.agg #[.slice b1 b2 b3,.slice b4 b5 b6],.int .u8 0]) ?_ rfl HE.out
    simp[results,Tryz.results9,go_sem,q0,q1']
   ·
    have hgt:0<mv:=Nat.pos_of_ne_zero hm0
    obtain⟨fit,HFI⟩:∃ b,Hid (b=zbp (zae s m) ⟨fname,fnumber,fkind,frep,fpacked,fof⟩ v):=⟨_,rfl⟩
    rw[←HFI.out] at HFIT HCE2
    have x3:=HX5.out.2.2.2
    go_upto_if 35 with (first
     | (go_at_call 25;refine HTV.out.mono ?_;rintro e w6 ⟨rfl,hb6⟩;have hf6:=HX5.out.2.2.2.below hb6;have hv6:=HX5.out.2.1.below hb6;have e0:=hf6.cell 0 _ rfl;have e1:=hf6.cell 1 _ rfl;have e2:=hf6.cell 2 _ rfl;have e3:=hf6.cell 3 _ rfl;have e4:=hf6.cell 4 _ rfl;have e5:=hf6.cell 5 _ rfl;have el:=hf6.lt;have u0:=hv6.cell 0 _ rfl;have u1:=hv6.cell 1 _ rfl;have u2:=hv6.cell 2 _ rfl;have u3:=hv6.cell 3 _ rfl;have ul:=hv6.lt)
     | (go_at_call 26;refine (HFIT.out w6 hb6).mono ?_;rintro e w7 ⟨rfl,hb7⟩))
    have hb57:=hb6.trans (hb7.mono hb6.size)
    clear e0 e1 e2 e3 e4 e5 el u0 u1 u2 u3 ul hf6 hv6 v0 v1 v2 v3 vl x3
    cases fit with
    | false =>
     have hce:code=12:=by rw[HCE2.out,if_pos ⟨hgt,rfl⟩]
     have HE:=hid (HNO.out w7 12 hce (by decide) (HB5.out.trans (hb57.mono HB5.out.size)))
     have hr5:=HX5.out.2.2.1.below hb57
     have r0:=hr5.cell 0 _ rfl
     have r1:=hr5.cell 1 _ rfl
     have f0:=hr5.free 0
     have f1:=hr5.free 1
     have rl:=hr5.lt
     have z2:=(hr5.set 0 (.slice none 0 0)).set 1 (.slice none 0 0)
     have q0:=z2.cell 0 _ rfl
     have q1':=z2.cell 1 _ rfl
     clear hb6 hb7 hb57 hr5 z2 hce HX5 HNO HCE2 HEND HWS HFIT HTV
     go_wp2_with fail
     refine bodyPost_ret (v:=.tuple #[.agg #[.slice none 0 0,.slice none 0 0],.int .u8 (12:Int)]) ?_ rfl HE.out
     simp[results,Tryz.results9,go_sem,q0,q1']
    | true =>
     have hce:code=0:=by rw[HCE2.out,if_neg (by simp)]
     have HX6:=hid (And.intro (HX5.out.1.below hb57) (And.intro (HX5.out.2.1.below hb57) (HX5.out.2.2.1.below hb57)))
     have HB6:=hid (HB5.out.trans (hb57.mono HB5.out.size))
     have HST:=hid (HEND.out w7 hb57 hce)
     have HWS2:=hid (HWS.out hce)
     have x0:=HX6.out.1.cell 0 _ rfl
     have x1:=HX6.out.1.cell 1 _ rfl
     have xl:=HX6.out.1.lt
     have v0:=HX6.out.2.1.cell 0 _ rfl
     have v1:=HX6.out.2.1.cell 1 _ rfl
     have v2:=HX6.out.2.1.cell 2 _ rfl
     have v3:=HX6.out.2.1.cell 3 _ rfl
     have vl:=HX6.out.2.1.lt
     clear HX5 HEND HWS HFIT HTV HNO HCE2
     go_wp2_with fail
     refine HST.out.mono ?_
     rintro e w7 ⟨v7,rfl,hb7,hM7⟩
     obtain⟨p1,q1,o1,p2,q2,o2,rfl⟩:=hM7.form
     have HCP:=hid (zdt (w0:=w7) (m+way.length) w7 _ _ (Below.refl _ _) hM7 HWS2.out)
     have HB7:=hid (HB6.out.trans (hb7.mono HB6.out.size))
     have HR7:=hid (HX6.out.2.2.below hb7)
     clear hb7 hM7 x0 x1 xl v0 v1 v2 v3 vl HX6 HST
     go_wp2_with fail
     refine HCP.out.mono ?_
     rintro e w8 ⟨v8,rfl,hb8,hap8⟩
     obtain⟨b1,b2,b3,b4,b5,b6,rfl⟩:=hap8.here.form
     have HB8:=hid (HB7.out.trans (hb8.mono HB7.out.size))
     have hr8:=HR7.out.below hb8
     have hlt7:=HR7.out.lt
     have r0:=hr8.cell 0 _ rfl
     have r1:=hr8.cell 1 _ rfl
     have f0:=hr8.free 0
     have f1:=hr8.free 1
     have rl:=hr8.lt
     have z2:=(hr8.set 0 (.slice b1 b2 b3)).set 1 (.slice b4 b5 b6)
     have q0:=z2.cell 0 _ rfl
     have q1':=z2.cell 1 _ rfl
     have HE:Hid (Q (.returned (.tuple #[.agg #[.slice b1 b2 b3,.slice b4 b5 b6],.int .u8 0])) ((w8.setCell ⟨X+1+1,0,none⟩ (.slice b1 b2 b3)).setCell ⟨X+1+1,1,none⟩ (.slice b4 b5 b6))):=by
      rw[HQ.out]
      refine⟨(HB8.out.setCell HXW.out _).setCell HXW.out _,fun h=>absurd hce h,fun _=>⟨_,_,_,_,_,_,rfl,?_⟩⟩
      intro W hW
      refine hap8 _ fun b hb hc=>?_
      have hne:b≠X+1+1:=by omega
      have h7:=HB7.out.size
      rw[hW b (by simpa using hb) (.inr (by omega)),Below.heap_setCell _ _ _ b hne,Below.heap_setCell _ _ _ b hne]
     clear hr8 z2 hap8 hb8 hlt7 HCP hce
     go_wp2_with fail
     refine bodyPost_ret (v:=.tuple #[.agg #[.slice b1 b2 b3,.slice b4 b5 b6],.int .u8 0]) ?_ rfl HE.out
     simp[results,Tryz.results9,go_sem,q0,q1']
 ·
  have hne:((may:Int) != 0)=true:=by simpa using h0
  have hce:code=may:=by rw[HCE.out,if_pos h0]
  have HE:=hid (HNO.out w3 may hce h0 HB3.out)
  have hr3:=HX3.out.2.2
  have r0:=hr3.cell 0 _ rfl
  have r1:=hr3.cell 1 _ rfl
  have f0:=hr3.free 0
  have f1:=hr3.free 1
  have rl:=hr3.lt
  have z2:=(hr3.set 0 (.slice none 0 0)).set 1 (.slice none 0 0)
  have q0:=z2.cell 0 _ rfl
  have q1':=z2.cell 1 _ rfl
  clear hr3 z2 HX3 HC h0 hce HNO HCE
  go_wp2_with fail
  refine bodyPost_ret (v:=.tuple #[.agg #[.slice none 0 0,.slice none 0 0],.int .u8 (may:Int)]) ?_ rfl HE.out
  simp[results,Tryz.results9,go_sem,q0,q1']
end
end Go.Proofs.YtdpnmdkbdibkpaaGreatDoor
