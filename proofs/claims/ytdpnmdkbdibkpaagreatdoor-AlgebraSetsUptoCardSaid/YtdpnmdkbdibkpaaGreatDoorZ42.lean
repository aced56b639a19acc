/- darningref15.Set: a value set in a meaning at a way (setM). Meanings of at most 2^38 values. -/
import Derived.Test.YtdpnmdkbdibkpaaGreatDoorZ14
import Derived.Test.YtdpnmdkbdibkpaaGreatDoorZ16
import Derived.Test.YtdpnmdkbdibkpaaGreatDoorZ17
import Derived.Test.YtdpnmdkbdibkpaaGreatDoorZ23
import Derived.Test.YtdpnmdkbdibkpaaGreatDoorZ32
import Derived.Test.YtdpnmdkbdibkpaaGreatDoorZ33
import Derived.Test.YtdpnmdkbdibkpaaGreatDoorZ40
import Derived.Test.YtdpnmdkbdibkpaaGreatDoorZ41
namespace Go.Proofs.YtdpnmdkbdibkpaaGreatDoor
set_option maxRecDepth 100000
set_option maxHeartbeats 16000000
section
open Go.RowKit Go.Shelf
def zpL (m:Nat)(way:List Int):Prop:=∀ (w0 w:World) (xv yv vv:Value) (x:M (m+way.length)) (v:Val (M m)),Below w0.heap.size w0 w→zac (m+way.length) w0 xv x→zar w0 yv way→zat (zac m) w0 vv v→zge way x→mwt (m+way.length) x≤536870912 →
 Calls Tryz.prog 18 #[xv,yv,vv] w fun e w'=>∃ v',e= .returned v'∧Below w.heap.size w w'∧zap w0.heap.size w.heap.size w' fun W=>zac (m+way.length) W v' (zdj way x v)
theorem zmY (w:World)(d:Nat):zac (d+1) w (.agg #[.slice none 0 0,.slice none 0 0]) (zi9 d):=⟨_,_,rfl,zds _ _ _,zfa _⟩
theorem zi7 {m:Nat}(w0 w:World)(xv vv yv:Value)(n:Int)(x:M (m+1))(v:Val (M m))(hw:Below w0.heap.size w0 w)(hx:zac (m+1) w0 xv x)(hy:zar w0 yv [n])(hv:zat (zac m) w0 vv v)(hrise:zbc (M.vals x))(hlen:(M.vals x).length≤536870912)(goal:M (m+1))(hgoal:goal=(⟨zoK n v (M.vals x),M.unk x⟩:zec (M m))) :
  Calls Tryz.prog 18 #[xv,yv,vv] w fun e w'=>∃ v',e= .returned v'∧Below w.heap.size w w'∧zap w0.heap.size w.heap.size w' fun W=>zac (m+1) W v' goal:=by
 have HGO:=hid hgoal
 clear hgoal
 have HWV:=hid hv
 have HW0:=hid hw
 have HXM:=hid hx
 have HIY:=hid hy
 obtain⟨V1,V2,V3,rfl,hvn,hVW,hVT,hVS⟩:=hv
 obtain⟨hl1,s1,t1,rfl,-,-⟩:=hVW.open
 obtain⟨hl2,s2,t2,rfl,-,-⟩:=hVT.open
 obtain⟨hl3,s3,t3,rfl,-,-⟩:=hVS.open
 obtain⟨k1,HK1⟩:∃ n,Hid (n=v.words.length):=⟨_,rfl⟩
 obtain⟨k2,HK2⟩:∃ n,Hid (n=v.texts.length):=⟨_,rfl⟩
 obtain⟨k3,HK3⟩:∃ n,Hid (n=v.subs.length):=⟨_,rfl⟩
 obtain⟨vn,HVN⟩:∃ n,Hid (n=v.num):=⟨_,rfl⟩
 rw[←HK1.out,←HK2.out,←HK3.out,←HVN.out] at HWV ⊢
 rw[←HK1.out] at hVW hl1
 rw[←HK2.out] at hVT hl2
 rw[←HK3.out] at hVS hl3
 have HVV:=hid (And.intro hVW (And.intro hVT hVS))
 have HLV:=hid (And.intro hl1 (And.intro hl2 hl3))
 obtain⟨p1,n1,c1,p2,n2,c2,rfl⟩:=hx.form
 obtain⟨-,ya,yc,rfl,-,hyat⟩:=hy.open
 obtain⟨yb,yo,hyb,hyc,hni⟩:∃ b o,ya=some ⟨b,o,none⟩∧w0.cell? ⟨b,o,none⟩=some (.int .i64 n)∧zcb n:=by
  obtain⟨h0,b,o,h1,h2⟩:=hyat 0 n rfl
  exact⟨b,o,h1,by simpa [zoG] using h2,h0⟩
 subst hyb
 obtain⟨yn,HYN⟩:∃ q,Hid (q=([n]).length):=⟨_,rfl⟩
 rw[←HYN.out] at HIY ⊢
 have HNI:=hid hni
 have HRI:=hid hrise
 have HLE:=hid hlen
 obtain⟨Q,HQ⟩:∃ Q:Ending→World→Prop,Hid (Q=fun e w'=>∃ v',e= .returned v'∧Below w.heap.size w w'∧zap w0.heap.size w.heap.size w' fun W=>zac (m+1) W v' goal):=⟨_,rfl⟩
 rw[←HQ.out]
 obtain⟨X,HX⟩:∃ X,Hid (X=w.heap.size):=⟨_,rfl⟩
 obtain⟨W1,HW1⟩:∃ W,Hid (W=((w.alloc (.cells #[.slice p1 n1 c1,.slice p2 n2 c2] 38)).alloc (.cells #[.int .i64 vn,.slice s1 k1 t1,.slice s2 k2 t2,.slice s3 k3 t3] 42)).alloc (.cells #[.slice none 0 0,.slice none 0 0] 38)):=⟨_,rfl⟩
 obtain⟨hx1,hv1,hr1,hz1,hb1⟩:=zjK w [.slice p1 n1 c1,.slice p2 n2 c2] [.int .i64 vn,.slice s1 k1 t1,.slice s2 k2 t2,.slice s3 k3 t3] [.slice none 0 0,.slice none 0 0] 38 42 38
 rw[←HW1.out,←HX.out] at hx1 hv1 hr1 hz1 hb1
 have hb1w:Below w.heap.size w W1:=by rw[←HX.out];exact hb1
 have hb01:Below w0.heap.size w0 W1:=hw.trans (hb1w.mono hw.size)
 have HB1:=hid hb1w
 have HB01:=hid hb01
 have HBK:=hid (And.intro hx1 (And.intro hv1 hr1))
 have HZ1:=hid hz1
 have HSZ:Hid (w0.heap.size≤X∧w.heap.size=X∧X+1+1<W1.heap.size):=⟨by rw[HX.out];exact hw.size,HX.out.symm,by rw[hz1];omega⟩
 have y0:=zaa hb01 _ _ hyc
 have HYC:=hid hyc
 have yl:=World.block_lt_of_cell? W1 _ y0
 have hixy:∀ W,(Instr.indexAt 28 (.slice (some ⟨yb,yo,none⟩) yn yc) (.int .i64 0)).run Tryz.prog W= .ok (.pointer (some ⟨yb,yo,none⟩)) W:=by
  intro W
  have:=zag Tryz.underlying28 zbr (a:=some ⟨yb,yo,none⟩) rfl 0 (by rw[HYN.out];simp:0<yn) W (cap:=yc)
  simpa using this
 -- the end: what Put answers is the result
 have HEND:Hid (∀ (wx w7:World) (a1:Option Addr) (a2 a3:Nat) (a4:Option Addr) (a5 a6:Nat),Below w.heap.size w wx→Below wx.heap.size wx w7→zap w0.heap.size W1.heap.size w7 (fun W=>zac (m+1) W (.agg #[.slice a1 a2 a3,.slice a4 a5 a6]) goal)→Q (.returned (.agg #[.slice a1 a2 a3,.slice a4 a5 a6])) ((w7.setCell ⟨X+1+1,0,none⟩ (.slice a1 a2 a3)).setCell ⟨X+1+1,1,none⟩ (.slice a4 a5 a6))):=by
  intro wx w7 a1 a2 a3 a4 a5 a6 hbx hb7 hap
  have hsz:=HSZ.out
  rw[HQ.out]
  refine⟨_,rfl,((hbx.trans (hb7.mono hbx.size)).setCell (by show w.heap.size≤X+1+1;omega) _).setCell (by show w.heap.size≤X+1+1;omega) _,fun W hW=>hap W fun b hb hc=>?_⟩
  have hne:b≠X+1+1:=by omega
  rw[hW b (by simpa using hb) (by omega),Below.heap_setCell _ _ _ b hne,Below.heap_setCell _ _ _ b hne]
 clear hw hx hy hrise hlen hvn hVW hVT hVS hyat hyc hni hx1 hv1 hr1 hz1 hb1 hb1w hb01 hl1 hl2 hl3
 go_enter Tryz.func18,Tryz.ntmps18
 go_upto_region 1 with fail
 rw[←HW1.out,←HX.out]
 obtain rfl:yn=1:=HYN.out
 have hv6:=HBK.out.2.1.set 0 (.int .i64 n)
 obtain⟨W6,HW6⟩:∃ W,Hid (W=W1.setCell ⟨X+1,0,none⟩ (.int .i64 n)):=⟨_,rfl⟩
 rw[←HW6.out] at hv6
 have hbt6:But (X+1) W1 W6:=by rw[HW6.out];exact But.set HBK.out.2.1 0 _
 have hsz:=HSZ.out
 have hx6:=hbt6.blk HBK.out.1 (by omega)
 have hr6:=hbt6.blk HBK.out.2.2 (by omega)
 have hB6:Below w.heap.size w W6:=HB1.out.trans (hbt6.to_below (by omega) HB1.out.size)
 have HB06:=hid (HW0.out.trans (hB6.mono HW0.out.size))
 have HPUT:=hid (zhx (n0:=w0.heap.size) (B:=W1.heap.size) (w:=W6) (x:=x) (v:=(⟨n,v.words,v.texts,v.subs⟩:Val (M m))) (vv:=.agg #[.int .i64 n,.slice s1 k1 t1,.slice s2 k2 t2,.slice s3 k3 t3]) hbt6.size (zbz rfl HB06.out fun W hk=>HXM.out.keep hk) (zbz rfl HB06.out fun W hk=>⟨_,_,_,rfl,by have:=HNI.out;unfold zcb at this;exact this,HVV.out.1.keep hk,HVV.out.2.1.keep hk,HVV.out.2.2.keep hk fun _ _ h=>h.keep hk⟩) (Nat.le_trans HLE.out (by decide)))
 have HB6:=hid hB6
 have HR6:=hid hr6
 have hpg:(⟨zoZ ⟨n,v.words,v.texts,v.subs⟩ (M.vals x),M.unk x⟩:zec (M m))=goal:=by rw[HGO.out,zmT HRI.out]
 have HPG:=hid hpg
 have v0:=HBK.out.2.1.cell 0 _ rfl
 have vf:=HBK.out.2.1.free 0
 have vl:=HBK.out.2.1.lt
 have x0:=hx6.cell 0 _ rfl
 have x1:=hx6.cell 1 _ rfl
 have xl:=hx6.lt
 have u0:=hv6.cell 0 _ rfl
 have u1:=hv6.cell 1 _ rfl
 have u2:=hv6.cell 2 _ rfl
 have u3:=hv6.cell 3 _ rfl
 have ul:=hv6.lt
 clear hv6 hbt6 hsz hx6 hr6 hB6 hpg
 go_upto_region 3 with fail
 rw[←HW6.out]
 clear v0 vf vl y0 yl hixy
 go_wp2_with fail
 refine HPUT.out.mono ?_
 rintro e w7 ⟨v7,rfl,hb7,hap7⟩
 obtain⟨a1,a2,a3,a4,a5,a6,rfl⟩:=hap7.here.form
 have HE:=hid (HEND.out W6 w7 a1 a2 a3 a4 a5 a6 HB6.out hb7 (by rw[←HPG.out];exact hap7))
 have hr7:=HR6.out.below hb7
 have r0:=hr7.cell 0 _ rfl
 have r1:=hr7.cell 1 _ rfl
 have f0:=hr7.free 0
 have f1:=hr7.free 1
 have rl:=hr7.lt
 have z2:=(hr7.set 0 (.slice a1 a2 a3)).set 1 (.slice a4 a5 a6)
 have q0:=z2.cell 0 _ rfl
 have q1':=z2.cell 1 _ rfl
 clear hr7 z2 hap7 hb7 HPUT x0 x1 xl u0 u1 u2 u3 ul
 go_wp2_with fail
 refine bodyPost_ret (v:=.agg #[.slice a1 a2 a3,.slice a4 a5 a6]) ?_ rfl HE.out
 simp[results,Tryz.results18,go_sem,q0,q1']
theorem zhP {m:Nat}(w0 w:World)(xv vv yv:Value)(n k:Int)(rest:List Int)(x:M (m+(k::rest).length+1))(v:Val (M m))(hrec:zpL m (k::rest))(hw:Below w0.heap.size w0 w)(hx:zac (m+(k::rest).length+1) w0 xv x)(hy:zar w0 yv (n::k::rest))(hv:zat (zac m) w0 vv v)(hrise:zbc (M.vals x))(hsub:∀ w,zbu (M.vals x) n=some w→∃ y,w.subs=[y]∧zge (k::rest) y)(hwt:mwt (m+(k::rest).length+1) x≤536870912)(hlen:(M.vals x).length≤536870912)(goal:M (m+(k::rest).length+1))(hgoal:goal=zdj (n::k::rest) x v) :
  Calls Tryz.prog 18 #[xv,yv,vv] w fun e w'=>∃ v',e= .returned v'∧Below w.heap.size w w'∧zap w0.heap.size w.heap.size w' fun W=>zac (m+(k::rest).length+1) W v' goal:=by
 have HGO:=hid hgoal
 have HSUB:=hid hsub
 have HRC:=hid hrec
 have HWT:=hid hwt
 clear hgoal hsub hrec hwt
 have HWV:=hid hv
 have HW0:=hid hw
 have HXM:=hid hx
 have HIY:=hid hy
 obtain⟨V1,V2,V3,rfl,hvn,hVW,hVT,hVS⟩:=hv
 obtain⟨hl1,s1,t1,rfl,-,-⟩:=hVW.open
 obtain⟨hl2,s2,t2,rfl,-,-⟩:=hVT.open
 obtain⟨hl3,s3,t3,rfl,-,-⟩:=hVS.open
 obtain⟨k1,HK1⟩:∃ n,Hid (n=v.words.length):=⟨_,rfl⟩
 obtain⟨k2,HK2⟩:∃ n,Hid (n=v.texts.length):=⟨_,rfl⟩
 obtain⟨k3,HK3⟩:∃ n,Hid (n=v.subs.length):=⟨_,rfl⟩
 obtain⟨vn,HVN⟩:∃ n,Hid (n=v.num):=⟨_,rfl⟩
 rw[←HK1.out,←HK2.out,←HK3.out,←HVN.out] at HWV ⊢
 rw[←HK1.out] at hVW hl1
 rw[←HK2.out] at hVT hl2
 rw[←HK3.out] at hVS hl3
 have HVV:=hid (And.intro hVW (And.intro hVT hVS))
 have HLV:=hid (And.intro hl1 (And.intro hl2 hl3))
 obtain⟨p1,n1,c1,p2,n2,c2,rfl⟩:=hx.form
 obtain⟨-,ya,yc,rfl,-,hyat⟩:=hy.open
 obtain⟨yb,yo,hyb,hyc,hni⟩:∃ b o,ya=some ⟨b,o,none⟩∧w0.cell? ⟨b,o,none⟩=some (.int .i64 n)∧zcb n:=by
  obtain⟨h0,b,o,h1,h2⟩:=hyat 0 n rfl
  exact⟨b,o,h1,by simpa [zoG] using h2,h0⟩
 subst hyb
 obtain⟨yn,HYN⟩:∃ q,Hid (q=(n::k::rest).length):=⟨_,rfl⟩
 rw[←HYN.out] at HIY ⊢
 have HNI:=hid hni
 have HRI:=hid hrise
 have HLE:=hid hlen
 obtain⟨Q,HQ⟩:∃ Q:Ending→World→Prop,Hid (Q=fun e w'=>∃ v',e= .returned v'∧Below w.heap.size w w'∧zap w0.heap.size w.heap.size w' fun W=>zac ((m+(k::rest).length)+1) W v' goal):=⟨_,rfl⟩
 rw[←HQ.out]
 obtain⟨X,HX⟩:∃ X,Hid (X=w.heap.size):=⟨_,rfl⟩
 obtain⟨W1,HW1⟩:∃ W,Hid (W=((w.alloc (.cells #[.slice p1 n1 c1,.slice p2 n2 c2] 38)).alloc (.cells #[.int .i64 vn,.slice s1 k1 t1,.slice s2 k2 t2,.slice s3 k3 t3] 42)).alloc (.cells #[.slice none 0 0,.slice none 0 0] 38)):=⟨_,rfl⟩
 obtain⟨hx1,hv1,hr1,hz1,hb1⟩:=zjK w [.slice p1 n1 c1,.slice p2 n2 c2] [.int .i64 vn,.slice s1 k1 t1,.slice s2 k2 t2,.slice s3 k3 t3] [.slice none 0 0,.slice none 0 0] 38 42 38
 rw[←HW1.out,←HX.out] at hx1 hv1 hr1 hz1 hb1
 have hb1w:Below w.heap.size w W1:=by rw[←HX.out];exact hb1
 have hb01:Below w0.heap.size w0 W1:=hw.trans (hb1w.mono hw.size)
 have HB1:=hid hb1w
 have HB01:=hid hb01
 have HBK:=hid (And.intro hx1 (And.intro hv1 hr1))
 have HZ1:=hid hz1
 have HSZ:Hid (w0.heap.size≤X∧w.heap.size=X∧X+1+1<W1.heap.size):=⟨by rw[HX.out];exact hw.size,HX.out.symm,by rw[hz1];omega⟩
 have y0:=zaa hb01 _ _ hyc
 have HYC:=hid hyc
 have yl:=World.block_lt_of_cell? W1 _ y0
 have hixy:∀ W,(Instr.indexAt 28 (.slice (some ⟨yb,yo,none⟩) yn yc) (.int .i64 0)).run Tryz.prog W= .ok (.pointer (some ⟨yb,yo,none⟩)) W:=by
  intro W
  have:=zag Tryz.underlying28 zbr (a:=some ⟨yb,yo,none⟩) rfl 0 (by rw[HYN.out];simp:0<yn) W (cap:=yc)
  simpa using this
 -- the end: what Put answers is the result
 have HEND:Hid (∀ (wx w7:World) (a1:Option Addr) (a2 a3:Nat) (a4:Option Addr) (a5 a6:Nat),Below w.heap.size w wx→Below wx.heap.size wx w7→zap w0.heap.size W1.heap.size w7 (fun W=>zac ((m+(k::rest).length)+1) W (.agg #[.slice a1 a2 a3,.slice a4 a5 a6]) goal)→Q (.returned (.agg #[.slice a1 a2 a3,.slice a4 a5 a6])) ((w7.setCell ⟨X+1+1,0,none⟩ (.slice a1 a2 a3)).setCell ⟨X+1+1,1,none⟩ (.slice a4 a5 a6))):=by
  intro wx w7 a1 a2 a3 a4 a5 a6 hbx hb7 hap
  have hsz:=HSZ.out
  rw[HQ.out]
  refine⟨_,rfl,((hbx.trans (hb7.mono hbx.size)).setCell (by show w.heap.size≤X+1+1;omega) _).setCell (by show w.heap.size≤X+1+1;omega) _,fun W hW=>hap W fun b hb hc=>?_⟩
  have hne:b≠X+1+1:=by omega
  rw[hW b (by simpa using hb) (by omega),Below.heap_setCell _ _ _ b hne,Below.heap_setCell _ _ _ b hne]
 clear hw hx hy hrise hlen hvn hVW hVT hVS hyat hyc hni hx1 hv1 hr1 hz1 hb1 hb1w hb01 hl1 hl2 hl3
 go_enter Tryz.func18,Tryz.ntmps18
 go_upto_region 1 with fail
 rw[←HW1.out,←HX.out]
 have hyn:yn=(k::rest).length+1:=HYN.out
 have hy1:((yn:Int) == 1)=false:=by rw[hyn,List.length_cons];simp;omega
 obtain⟨ta,tc,hsl,hIT⟩:=zin HIY.out hyn
 obtain⟨tn,HTN⟩:∃ q,Hid (q=(k::rest).length):=⟨_,rfl⟩
 rw[←HTN.out] at hsl hIT
 have HIT:=hid hIT
 obtain⟨vv0,uv0,hve0,hVX,hUX⟩:=HXM.out
 obtain⟨rfl,rfl⟩:vv0= .slice p1 n1 c1∧uv0= .slice p2 n2 c2:=by cases hve0;exact⟨rfl,rfl⟩
 obtain⟨-,va,vc,hve1,-,hva⟩:=hVX.open
 obtain⟨hva1,hvn1,hvc1⟩:p1=va∧n1=(M.vals x).length∧c1=vc:=by injection hve1 with e1 e2 e3;exact⟨e1,e2,e3⟩
 subst hva1 hvc1
 have HVN1:=hid hvn1
 have HVA:=hid hva
 obtain⟨YB,HYB⟩:∃ b,Hid (b=W1.heap.size):=⟨_,rfl⟩
 obtain⟨W2,HW2⟩:∃ W,Hid (W=W1.alloc (.cells #[.slice none 0 0,.slice none 0 0] 38)):=⟨_,rfl⟩
 have hb2:Below W1.heap.size W1 W2:=by rw[HW2.out];exact (Below.refl _ _).alloc (Nat.le_refl _) _
 have hyb2:Blk W2 YB [.slice none 0 0,.slice none 0 0] 38:=by rw[HW2.out,HYB.out];exact Blk.new W1 [.slice none 0 0,.slice none 0 0] _
 have HB2:=hid (HB1.out.trans (hb2.mono HB1.out.size))
 have HB02:=hid (HW0.out.trans (HB2.out.mono HW0.out.size))
 have HBK2:=hid (And.intro (HBK.out.1.below hb2) (And.intro (HBK.out.2.1.below hb2) (And.intro (HBK.out.2.2.below hb2) hyb2)))
 have HSW:W1.heap.size≤W2.heap.size:=hb2.size
 have HNE:Hid (yb≠X+1+1∧YB≠X+1+1∧yb≠YB∧X≠YB∧X+1≠YB∧w.heap.size≤YB):=by
  have h1:=World.block_lt_of_cell? w0 _ HYC.out
  have h2:=HSZ.out
  have h3:=HYB.out
  have h4:yb<w0.heap.size:=h1
  show _∧_
  omega
 have HQ0:Hid (W2.drew.cell? ⟨X,0,none⟩=some (.slice p1 n1 c1)∧W2.drew.cell? ⟨X,1,none⟩=some (.slice p2 n2 c2)∧W2.drew.cell? ⟨yb,yo,none⟩=some (.int .i64 n)):=⟨HBK2.out.1.cell 0 _ rfl,HBK2.out.1.cell 1 _ rfl,zaa HB02.out _ _ HYC.out⟩
 have HGT:=hid (zkk (w:=W2.drew) (a2:=p2) (n2:=n2) (c2:=c2) (hVX.keep (zaa HB02.out.drew) fun _ _ hx=>hx.below HB02.out.drew) n)
 clear hyn hIT hve0 hVX hUX hve1 hvn1 hva hb2 hyb2 HB01 y0 yl
 go_upto_region 5 with fail
 rw[←HW2.out,←HYB.out]
 refine zaS (fun w'=>w'.cell? ⟨X,0,none⟩=some (.slice p1 n1 c1)∧w'.cell? ⟨X,1,none⟩=some (.slice p2 n2 c2)∧w'.cell? ⟨yb,yo,none⟩=some (.int .i64 n)) (fun _=>True) 4 [(0,0),(1,0),(2,0),(3,0),(4,2),(5,0)] (by kernel_rfl) rfl rfl (by kernel_rfl) (fun _ _ dst _ _ h=>by cases dst <;> exact h) HQ0.out trivial (fun OPS _=>?_)
 simp only[List.map_cons,List.map_nil,List.filterMap_cons,List.filterMap_nil,List.getElem?_cons_succ,List.getElem?_cons_zero]
 refine zav (v:=?v0) ?hy0 ?hr0
 case hy0=>(intro w hw;go_simp;all_goals rfl)
 simp only[Act.put,pzC,pzD,pzE]
 refine zav (v:=?v1) ?hy1 ?hr1
 case hy1=>(intro w hw;go_simp;all_goals rfl)
 simp only[Act.put,pzC,pzD,pzE]
 refine zav (v:=?v2) ?hy2 ?hr2
 case hy2=>(intro w hw;go_simp;all_goals rfl)
 simp only[Act.put,pzC,pzD,pzE]
 refine zav (v:=?v3) ?hy3 ?hr3
 case hy3=>(intro w hw;go_simp;all_goals rfl)
 simp only[Act.put,pzC,pzD,pzE]
 refine zcY (fun K12 HK12=>?_)
 go_wp2_with fail
 refine HGT.out.mono ?_
 rintro e w3 ⟨gi,rfl,hgi,hb3'⟩
 have hb3:Below W2.heap.size W2 w3:=(Below.refl W2.heap.size W2).drew.trans hb3'
 have HB3:=hid (HB2.out.trans (hb3.mono HB2.out.size))
 have HB23:=hid hb3
 have HBK3:=hid (And.intro (HBK2.out.1.below hb3) (And.intro (HBK2.out.2.1.below hb3) (And.intro (HBK2.out.2.2.1.below hb3) (HBK2.out.2.2.2.below hb3))))
 have HQ3:Hid (w3.cell? ⟨X,0,none⟩=some (.slice p1 n1 c1)∧w3.cell? ⟨X,1,none⟩=some (.slice p2 n2 c2)∧w3.cell? ⟨yb,yo,none⟩=some (.int .i64 n)):=⟨zaa hb3' _ _ HQ0.out.1,zaa hb3' _ _ HQ0.out.2.1,zaa hb3' _ _ HQ0.out.2.2⟩
 have HB03:=hid (HW0.out.trans (HB3.out.mono HW0.out.size))
 have HR2:=hid HBK3.out.2.2.1
 clear hb3 hb3' HGT
 go_wp2_with fail
 refine HK12.out _ _ HQ3.out ?_
 clear HK12 K12
 intro _
 refine zav (v:=?v10) ?hy10 ?hr10
 case hy10=>(intro w hw;go_simp;all_goals rfl)
 simp only[Act.put,pzC,pzD,pzE]
 refine zcE ?_
 rcases hgi with ⟨rfl,hnone⟩|⟨gk,g,rfl,hgk,hgn,hsome⟩
 ·
  obtain⟨mv,HMV⟩:∃ q,Hid (q=k1+k2+k3):=⟨_,rfl⟩
  have HMY:=hid (zdu vn s1 s2 s3 k1 k2 k3 t1 t2 t3 HLV.out.1 HLV.out.2.1 HLV.out.2.2 w3)
  rw[←HMV.out] at HMY
  have HMM:Hid (mv=zcD v):=by rw[Hid,HMV.out,HK1.out,HK2.out,HK3.out];rfl
  have v0:=HBK3.out.2.1.cell 0 _ rfl
  have v1:=HBK3.out.2.1.cell 1 _ rfl
  have v2:=HBK3.out.2.1.cell 2 _ rfl
  have v3:=HBK3.out.2.1.cell 3 _ rfl
  have vl:=HBK3.out.2.1.lt
  by_cases h0:mv=0
  ·
   have hpg:goal=x:=HGO.out.trans (zhu hnone (HMM.out.symm.trans h0))
   have HE0:=hid (fun (w4:World) (h:Below w3.heap.size w3 w4)=>HEND.out w3 w4 p1 n1 c1 p2 n2 c2 HB3.out h (by rw[hpg];exact zbz rfl (HB03.out.trans (h.mono HB03.out.size)) fun W hk=>HXM.out.keep hk))
   rw[h0,show ((0:Nat):Int)=0 from rfl] at HMY
   clear hnone h0 hpg
   go_wp2_with fail
   refine HMY.out.mono ?_
   rintro e w4 ⟨rfl,hb4⟩
   have HE:=hid (HE0.out w4 hb4)
   have hr4:=HR2.out.below hb4
   have hx4:=HBK3.out.1.below hb4
   have x0:=hx4.cell 0 _ rfl
   have x1:=hx4.cell 1 _ rfl
   have xl:=hx4.lt
   have r0:=hr4.cell 0 _ rfl
   have r1:=hr4.cell 1 _ rfl
   have f0:=hr4.free 0
   have f1:=hr4.free 1
   have rl:=hr4.lt
   have z2':=(hr4.set 0 (.slice p1 n1 c1)).set 1 (.slice p2 n2 c2)
   have q0:=z2'.cell 0 _ rfl
   have q1':=z2'.cell 1 _ rfl
   clear hb4 hr4 hx4 z2' HE0 HMY v0 v1 v2 v3 vl
   go_wp2_with fail
   refine bodyPost_ret (v:=.agg #[.slice p1 n1 c1,.slice p2 n2 c2]) ?_ rfl HE.out
   simp[results,Tryz.results18,go_sem,q0,q1']
  ·
   have hpg:(⟨zoZ ⟨n,[],[],[zdj (k::rest) (zi9 (m+rest.length)) v]⟩ (M.vals x),M.unk x⟩:zec (M (m+(k::rest).length)))=goal:=by
    rw[zim HRI.out]
    exact (HGO.out.trans (zi3 hnone (by rw[←HMM.out];exact h0))).symm
   have HPG:=hid hpg
   have he0:((mv:Int) == 0)=false:=by simpa using h0
   clear hnone h0 hpg
   go_upto_if 37 with (go_at_call 13;refine HMY.out.mono ?_;rintro e w4 ⟨rfl,hb4⟩)
   have HBC:=hid hb4
   have HB4:=hid (HB3.out.trans (hb4.mono HB3.out.size))
   have HB04:=hid (HW0.out.trans (HB4.out.mono HW0.out.size))
   have HSW:W1.heap.size≤w4.heap.size:=Nat.le_trans HSW (Nat.le_trans HB23.out.size hb4.size)
   obtain⟨z1,HZZ1⟩:∃ z:Option Addr,Hid (z=none):=⟨_,rfl⟩
   obtain⟨z1n,HZZ2⟩:∃ z:Nat,Hid (z=0):=⟨_,rfl⟩
   have HCL:Hid (w4.drew.cell? ⟨X,0,none⟩=some (.slice p1 n1 c1)∧w4.drew.cell? ⟨X,1,none⟩=some (.slice p2 n2 c2)∧w4.drew.cell? ⟨yb,yo,none⟩=some (.int .i64 n)∧w4.drew.cell? ⟨YB,0,none⟩=some (.slice none 0 0)∧w4.drew.cell? ⟨YB,1,none⟩=some (.slice none 0 0)∧w4.drew.cell? ⟨X+1,0,none⟩=some (.int .i64 vn)∧w4.drew.cell? ⟨X+1,1,none⟩=some (.slice s1 k1 t1)∧w4.drew.cell? ⟨X+1,2,none⟩=some (.slice s2 k2 t2)∧w4.drew.cell? ⟨X+1,3,none⟩=some (.slice s3 k3 t3)):=⟨zaa hb4 _ _ HQ3.out.1,zaa hb4 _ _ HQ3.out.2.1,zaa hb4 _ _ HQ3.out.2.2,(HBK3.out.2.2.2.below hb4).cell 0 _ rfl,(HBK3.out.2.2.2.below hb4).cell 1 _ rfl,zaa hb4 _ _ v0,zaa hb4 _ _ v1,zaa hb4 _ _ v2,zaa hb4 _ _ v3⟩
   clear hb4 v0 v1 v2 v3 vl HMY
   have HREC:=hid (HRC.out w0 w4.drew (.agg #[.slice none 0 0,.slice none 0 0]) _ _ (zi9 (m+rest.length)) v HB04.out.drew (zmY w0 (m+rest.length)) HIT.out HWV.out (zht k rest) (by show 1+0+0≤536870912;omega))
   have HVP:Hid (w4.drew.cell? ⟨X,0,none⟩=some (.slice p1 n1 c1)∧w4.drew.cell? ⟨X,1,none⟩=some (.slice p2 n2 c2)∧w4.drew.cell? ⟨yb,yo,none⟩=some (.int .i64 n)∧w4.drew.cell? ⟨YB,0,none⟩=some (.slice none 0 0)∧w4.drew.cell? ⟨YB,1,none⟩=some (.slice none 0 0)∧w4.drew.cell? ⟨X+1,0,none⟩=some (.int .i64 vn)∧w4.drew.cell? ⟨X+1,1,none⟩=some (.slice s1 k1 t1)∧w4.drew.cell? ⟨X+1,2,none⟩=some (.slice s2 k2 t2)∧w4.drew.cell? ⟨X+1,3,none⟩=some (.slice s3 k3 t3)):=HCL.out
   go_upto_region 10 with fail
   refine zaS (fun w'=>w'.cell? ⟨X,0,none⟩=some (.slice p1 n1 c1)∧w'.cell? ⟨X,1,none⟩=some (.slice p2 n2 c2)∧w'.cell? ⟨yb,yo,none⟩=some (.int .i64 n)∧w'.cell? ⟨YB,0,none⟩=some (.slice none 0 0)∧w'.cell? ⟨YB,1,none⟩=some (.slice none 0 0)∧w'.cell? ⟨X+1,0,none⟩=some (.int .i64 vn)∧w'.cell? ⟨X+1,1,none⟩=some (.slice s1 k1 t1)∧w'.cell? ⟨X+1,2,none⟩=some (.slice s2 k2 t2)∧w'.cell? ⟨X+1,3,none⟩=some (.slice s3 k3 t3)) (fun _=>True) 8 [(0,0),(1,0),(2,0),(3,0),(4,0),(5,0),(6,0),(7,0),(8,2),(9,2),(10,0),(11,2),(12,2)] (by kernel_rfl) rfl rfl (by kernel_rfl) (fun _ _ dst _ _ h=>by cases dst <;> exact h) HVP.out trivial (fun OPS _=>?_)
   simp only[List.map_cons,List.map_nil,List.filterMap_cons,List.filterMap_nil,List.getElem?_cons_succ,List.getElem?_cons_zero]
   refine zav (v:=?v100) ?hy100 ?hr100
   case hy100=>(intro w hw;go_simp;all_goals rfl)
   simp only[Act.put,pzC,pzD,pzE]
   refine zav (v:=?v101) ?hy101 ?hr101
   case hy101=>(intro w hw;go_simp;all_goals rfl)
   simp only[Act.put,pzC,pzD,pzE]
   refine zav (v:=?v102) ?hy102 ?hr102
   case hy102=>(intro w hw;go_simp;all_goals rfl)
   simp only[Act.put,pzC,pzD,pzE]
   refine zav (v:=?v103) ?hy103 ?hr103
   case hy103=>(intro w hw;go_simp;all_goals rfl)
   simp only[Act.put,pzC,pzD,pzE]
   refine zav (v:=?v104) ?hy104 ?hr104
   case hy104=>(intro w hw;go_simp;all_goals rfl)
   simp only[Act.put,pzC,pzD,pzE]
   refine zav (v:=?v105) ?hy105 ?hr105
   case hy105=>(intro w hw;go_simp;all_goals rfl)
   simp only[Act.put,pzC,pzD,pzE]
   refine zav (v:=?v106) ?hy106 ?hr106
   case hy106=>(intro w hw;go_simp;all_goals rfl)
   simp only[Act.put,pzC,pzD,pzE]
   refine zav (v:=?v107) ?hy107 ?hr107
   case hy107=>(intro w hw;go_simp;all_goals rfl)
   simp only[Act.put,pzC,pzD,pzE]
   refine zcY (fun K12 HK12=>?_)
   go_wp2_with fail
   refine HREC.out.mono ?_
   rintro e w8 ⟨v8,rfl,hb8,hap⟩
   obtain⟨a1,a2,a3,a4,a5,a6,rfl⟩:=hap.here.form
   have HV8:Hid (w8.cell? ⟨X,0,none⟩=some (.slice p1 n1 c1)∧w8.cell? ⟨X,1,none⟩=some (.slice p2 n2 c2)∧w8.cell? ⟨yb,yo,none⟩=some (.int .i64 n)∧w8.cell? ⟨YB,0,none⟩=some (.slice none 0 0)∧w8.cell? ⟨YB,1,none⟩=some (.slice none 0 0)∧w8.cell? ⟨X+1,0,none⟩=some (.int .i64 vn)∧w8.cell? ⟨X+1,1,none⟩=some (.slice s1 k1 t1)∧w8.cell? ⟨X+1,2,none⟩=some (.slice s2 k2 t2)∧w8.cell? ⟨X+1,3,none⟩=some (.slice s3 k3 t3)):=⟨zaa hb8 _ _ HVP.out.1,zaa hb8 _ _ HVP.out.2.1,zaa hb8 _ _ HVP.out.2.2.1,zaa hb8 _ _ HVP.out.2.2.2.1,zaa hb8 _ _ HVP.out.2.2.2.2.1,zaa hb8 _ _ HVP.out.2.2.2.2.2.1,zaa hb8 _ _ HVP.out.2.2.2.2.2.2.1,zaa hb8 _ _ HVP.out.2.2.2.2.2.2.2.1,zaa hb8 _ _ HVP.out.2.2.2.2.2.2.2.2⟩
   go_wp2_with fail
   refine HK12.out _ _ HV8.out ?_
   clear HK12 K12
   intro _
   obtain⟨W9,HW9⟩:∃ W,Hid (W=w8.alloc (.cells #[.slice a1 a2 a3,.slice a4 a5 a6] 38)):=⟨_,rfl⟩
   obtain⟨G,HG⟩:∃ b,Hid (b=w8.heap.size):=⟨_,rfl⟩
   have hb9:Below w8.heap.size w8 W9:=by rw[HW9.out];exact (Below.refl _ _).alloc (Nat.le_refl _) _
   have hg9:Blk W9 G [.slice a1 a2 a3,.slice a4 a5 a6] 38:=by rw[HW9.out,HG.out];exact Blk.new w8 [.slice a1 a2 a3,.slice a4 a5 a6] _
   have hbx9:Below w4.heap.size w4 W9:=(Below.refl w4.heap.size w4).drew.trans (hb8.trans (hb9.mono hb8.size))
   have hB9:=HB4.out.trans (hbx9.mono HB4.out.size)
   have hB8s:w4.heap.size≤w8.heap.size:=hb8.size
   have HB09:=hid (HW0.out.trans (hB9.mono HW0.out.size))
   have hnum:zap w0.heap.size w4.heap.size W9 fun W=>zat (zac (m+(k::rest).length)) W (.agg #[.int .i64 n,.slice none 0 0,.slice none 0 0,.slice (some ⟨G,0,none⟩) 1 1]) (⟨n,[],[],[zdj (k::rest) (zi9 (m+rest.length)) v]⟩:Val (M (m+(k::rest).length))):=fun W hW=>by
    refine zfD (by have:=HNI.out;unfold zcb at this;exact this) (T:=38) (c1:=.slice a1 a2 a3) (c2:=.slice a4 a5 a6) ((hW G hg9.lt (.inr (by rw[HG.out];exact hB8s))).trans hg9) ?_
    refine hap W fun b hlt hc=>?_
    rw[hW b (Nat.lt_of_lt_of_le hlt hb9.size) hc]
    exact hb9.block b hlt
   have HPUT:=hid (zhx (n0:=w0.heap.size) (B:=w4.heap.size) (w:=W9) (x:=x) hbx9.size (zbz rfl HB09.out fun W hk=>HXM.out.keep hk) hnum (Nat.le_trans HLE.out (by decide)))
   have HB9:=hid hB9
   have HBX9:=hid hbx9
   have HV9:Hid (W9.cell? ⟨X,0,none⟩=some (.slice p1 n1 c1)∧W9.cell? ⟨X,1,none⟩=some (.slice p2 n2 c2)∧W9.cell? ⟨yb,yo,none⟩=some (.int .i64 n)∧W9.cell? ⟨YB,0,none⟩=some (.slice none 0 0)∧W9.cell? ⟨YB,1,none⟩=some (.slice none 0 0)∧W9.cell? ⟨X+1,0,none⟩=some (.int .i64 vn)∧W9.cell? ⟨X+1,1,none⟩=some (.slice s1 k1 t1)∧W9.cell? ⟨X+1,2,none⟩=some (.slice s2 k2 t2)∧W9.cell? ⟨X+1,3,none⟩=some (.slice s3 k3 t3)):=⟨zaa hb9 _ _ HV8.out.1,zaa hb9 _ _ HV8.out.2.1,zaa hb9 _ _ HV8.out.2.2.1,zaa hb9 _ _ HV8.out.2.2.2.1,zaa hb9 _ _ HV8.out.2.2.2.2.1,zaa hb9 _ _ HV8.out.2.2.2.2.2.1,zaa hb9 _ _ HV8.out.2.2.2.2.2.2.1,zaa hb9 _ _ HV8.out.2.2.2.2.2.2.2.1,zaa hb9 _ _ HV8.out.2.2.2.2.2.2.2.2⟩
   refine zcY (fun K12 HK12=>?_)
   go_wp2_with fail
   rw[←HW9.out,←HG.out]
   refine HK12.out _ _ HV9.out ?_
   clear HK12 K12 hap hb8 hb9 hg9 hbx9 hB9 hB8s hnum
   intro _
   refine zav (v:=?v120) ?hy120 ?hr120
   case hy120=>(intro w hw;go_simp;all_goals rfl)
   simp only[Act.put,pzC,pzD,pzE]
   refine zcY (fun K12 HK12=>?_)
   go_wp2_with fail
   refine HPUT.out.mono ?_
   rintro e w10 ⟨v10,rfl,hb10,hap10⟩
   obtain⟨b1,b2,b3,b4,b5,b6,rfl⟩:=hap10.here.form
   have HE:=hid (HEND.out W9 w10 b1 b2 b3 b4 b5 b6 HB9.out hb10 (by rw[←HPG.out];exact hap10.mono HSW))
   have hr7:=HR2.out.below (HBC.out.trans ((HBX9.out.trans (hb10.mono HBX9.out.size)).mono HBC.out.size))
   have HV10:Hid (w10.cell? ⟨X,0,none⟩=some (.slice p1 n1 c1)∧w10.cell? ⟨X,1,none⟩=some (.slice p2 n2 c2)∧w10.cell? ⟨yb,yo,none⟩=some (.int .i64 n)∧w10.cell? ⟨YB,0,none⟩=some (.slice none 0 0)∧w10.cell? ⟨YB,1,none⟩=some (.slice none 0 0)∧w10.cell? ⟨X+1,0,none⟩=some (.int .i64 vn)∧w10.cell? ⟨X+1,1,none⟩=some (.slice s1 k1 t1)∧w10.cell? ⟨X+1,2,none⟩=some (.slice s2 k2 t2)∧w10.cell? ⟨X+1,3,none⟩=some (.slice s3 k3 t3)):=⟨zaa hb10 _ _ HV9.out.1,zaa hb10 _ _ HV9.out.2.1,zaa hb10 _ _ HV9.out.2.2.1,zaa hb10 _ _ HV9.out.2.2.2.1,zaa hb10 _ _ HV9.out.2.2.2.2.1,zaa hb10 _ _ HV9.out.2.2.2.2.2.1,zaa hb10 _ _ HV9.out.2.2.2.2.2.2.1,zaa hb10 _ _ HV9.out.2.2.2.2.2.2.2.1,zaa hb10 _ _ HV9.out.2.2.2.2.2.2.2.2⟩
   have r0:=hr7.cell 0 _ rfl
   have r1:=hr7.cell 1 _ rfl
   have f0:=hr7.free 0
   have f1:=hr7.free 1
   have rl:=hr7.lt
   have z2':=(hr7.set 0 (.slice b1 b2 b3)).set 1 (.slice b4 b5 b6)
   have q0:=z2'.cell 0 _ rfl
   have q1':=z2'.cell 1 _ rfl
   have HVU:Hid (((w10.setCell ⟨X+1+1,0,none⟩ (.slice b1 b2 b3)).setCell ⟨X+1+1,1,none⟩ (.slice b4 b5 b6)).cell? ⟨X,0,none⟩=some (.slice p1 n1 c1)∧((w10.setCell ⟨X+1+1,0,none⟩ (.slice b1 b2 b3)).setCell ⟨X+1+1,1,none⟩ (.slice b4 b5 b6)).cell? ⟨X,1,none⟩=some (.slice p2 n2 c2)∧((w10.setCell ⟨X+1+1,0,none⟩ (.slice b1 b2 b3)).setCell ⟨X+1+1,1,none⟩ (.slice b4 b5 b6)).cell? ⟨yb,yo,none⟩=some (.int .i64 n)∧((w10.setCell ⟨X+1+1,0,none⟩ (.slice b1 b2 b3)).setCell ⟨X+1+1,1,none⟩ (.slice b4 b5 b6)).cell? ⟨YB,0,none⟩=some (.slice none 0 0)∧((w10.setCell ⟨X+1+1,0,none⟩ (.slice b1 b2 b3)).setCell ⟨X+1+1,1,none⟩ (.slice b4 b5 b6)).cell? ⟨YB,1,none⟩=some (.slice none 0 0)∧((w10.setCell ⟨X+1+1,0,none⟩ (.slice b1 b2 b3)).setCell ⟨X+1+1,1,none⟩ (.slice b4 b5 b6)).cell? ⟨X+1,0,none⟩=some (.int .i64 vn)∧((w10.setCell ⟨X+1+1,0,none⟩ (.slice b1 b2 b3)).setCell ⟨X+1+1,1,none⟩ (.slice b4 b5 b6)).cell? ⟨X+1,1,none⟩=some (.slice s1 k1 t1)∧((w10.setCell ⟨X+1+1,0,none⟩ (.slice b1 b2 b3)).setCell ⟨X+1+1,1,none⟩ (.slice b4 b5 b6)).cell? ⟨X+1,2,none⟩=some (.slice s2 k2 t2)∧((w10.setCell ⟨X+1+1,0,none⟩ (.slice b1 b2 b3)).setCell ⟨X+1+1,1,none⟩ (.slice b4 b5 b6)).cell? ⟨X+1,3,none⟩=some (.slice s3 k3 t3)):=by
    have hk:∀ b i u,b≠X+1+1→w10.cell? ⟨b,i,none⟩=some u→((w10.setCell ⟨X+1+1,0,none⟩ (.slice b1 b2 b3)).setCell ⟨X+1+1,1,none⟩ (.slice b4 b5 b6)).cell? ⟨b,i,none⟩=some u:=fun b i u hb h=>by
     rw[zaG _ _ _ _ _ hb,zaG _ _ _ _ _ hb]
     exact h
    have h:=HV10.out
    have hn:=HNE.out
    exact⟨hk _ _ _ (by omega) h.1,hk _ _ _ (by omega) h.2.1,hk _ _ _ (by omega) h.2.2.1,hk _ _ _ (by omega) h.2.2.2.1,hk _ _ _ (by omega) h.2.2.2.2.1,hk _ _ _ (by omega) h.2.2.2.2.2.1,hk _ _ _ (by omega) h.2.2.2.2.2.2.1,hk _ _ _ (by omega) h.2.2.2.2.2.2.2.1,hk _ _ _ (by omega) h.2.2.2.2.2.2.2.2⟩
   clear hr7 z2' hap10 hb10 HPUT
   go_wp2_with fail
   refine HK12.out _ _ HV10.out ?_
   clear HK12 K12
   intro _
   refine zcY (fun K12 HK12=>?_)
   go_wp2_with fail
   refine HK12.out _ _ HVU.out ?_
   clear HK12 K12 r0 r1 f0 f1
   intro _
   refine zcE ?_
   go_wp2_with fail
   refine bodyPost_ret (v:=.agg #[.slice b1 b2 b3,.slice b4 b5 b6]) ?_ rfl HE.out
   simp[results,Tryz.results18,go_sem,q0,q1']
 ·
  obtain⟨y,hys,hok⟩:=HSUB.out g hsome
  obtain⟨vb,vo,u1,u2,u3,hvb,e0,e1,e2,e3,hM⟩:=HVA.out gk g hgk
  obtain⟨S1,S2,S3,hve,-,-,-,hSS⟩:=hM
  obtain rfl:S3=u3:=by cases hve;rfl
  rw[hys] at hSS
  obtain⟨-,ga,gc,hge,-,hgat⟩:=hSS.open
  obtain⟨gb,go,x1',x2',hga,gg0,gg1,hMy⟩:=hgat 0 y rfl
  subst hge hga
  rw[Nat.zero_mul,Nat.add_zero] at gg0 gg1
  obtain⟨z1,z1n,z1c,z2,z2n,z2c,hse⟩:=hMy.form
  obtain⟨rfl,rfl⟩:x1'= .slice z1 z1n z1c∧x2'= .slice z2 z2n z2c:=by cases hse;exact⟨rfl,rfl⟩
  have hkn:gk<n1:=by rw[HVN1.out];exact (List.getElem?_eq_some_iff.1 hgk).1
  have hk03:=zaa HB03.out
  replace e0:=hk03 _ _ e0
  replace e3:=hk03 _ _ e3
  replace gg0:=hk03 _ _ gg0
  replace gg1:=hk03 _ _ gg1
  have hel:=World.block_lt_of_cell? w3 _ e3
  have hgl:=World.block_lt_of_cell? w3 _ gg0
  have hixv:=zad Tryz.underlying36 zfM hvb gk hkn (cap:=c1)
  have hixa:∀ W,(Instr.indexAt 40 (.slice (some ⟨gb,go,none⟩) 1 gc) (.int .i64 0)).run Tryz.prog W= .ok (.pointer (some ⟨gb,go,none⟩)) W:=by
   intro W
   have:=zad Tryz.underlying40 zhj (a:=some ⟨gb,go,none⟩) rfl 0 (by decide:0<1) W (cap:=gc)
   simpa using this
  have hwy:mwt (m+(k::rest).length) y≤536870912:=by
   have h1:=zau (vwt (mwt (m+(k::rest).length))) (M.vals x) g (zbO hsome).2
   have h2:1+twt (M.unk x)+((M.vals x).map (vwt (mwt (m+(k::rest).length)))).sum≤536870912:=HWT.out
   have h3:mwt (m+(k::rest).length) y≤vwt (mwt (m+(k::rest).length)) g:=by unfold vwt;rw[hys,List.map_cons,List.map_nil,List.sum_cons,List.sum_nil];omega
   omega
  have hpg:(⟨zoZ ⟨n,[],[],[zdj (k::rest) y v]⟩ (M.vals x),M.unk x⟩:zec (M (m+(k::rest).length)))=goal:=by
   rw[zim HRI.out]
   exact (HGO.out.trans (zhv hsome hys)).symm
  have HPG:=hid hpg
  have HOY:=hid (And.intro hok (And.intro hwy hMy))
  obtain⟨w4,HW4⟩:∃ W,Hid (W=(w3.setCell ⟨YB,0,none⟩ (.slice z1 z1n z1c)).setCell ⟨YB,1,none⟩ (.slice z2 z2n z2c)):=⟨_,rfl⟩
  have hy4:=(HBK3.out.2.2.2.set 0 (.slice z1 z1n z1c)).set 1 (.slice z2 z2n z2c)
  have hbt:But YB w3 w4:=by rw[HW4.out];exact (But.set HBK3.out.2.2.2 0 _).trans (But.set (HBK3.out.2.2.2.set 0 (.slice z1 z1n z1c)) 1 _)
  rw[←HW4.out] at hy4
  have hne:=HNE.out
  have HB4:Hid (Below w.heap.size w w4):=HB3.out.trans (hbt.to_below (by omega) HB3.out.size)
  have HB04:=hid (HW0.out.trans (HB4.out.mono HW0.out.size))
  have HSW:W1.heap.size≤w4.heap.size:=Nat.le_trans HSW (Nat.le_trans HB23.out.size hbt.size)
  have hv4:=hbt.blk HBK3.out.2.1 (by omega)
  have hszx:=HYB.out
  have HR2:=hid (hbt.blk HR2.out (by omega))
  have HBC:=hid (Below.refl w4.heap.size w4)
  have HCL:Hid (w4.drew.cell? ⟨X,0,none⟩=some (.slice p1 n1 c1)∧w4.drew.cell? ⟨X,1,none⟩=some (.slice p2 n2 c2)∧w4.drew.cell? ⟨yb,yo,none⟩=some (.int .i64 n)∧w4.drew.cell? ⟨YB,0,none⟩=some (.slice z1 z1n z1c)∧w4.drew.cell? ⟨YB,1,none⟩=some (.slice z2 z2n z2c)∧w4.drew.cell? ⟨X+1,0,none⟩=some (.int .i64 vn)∧w4.drew.cell? ⟨X+1,1,none⟩=some (.slice s1 k1 t1)∧w4.drew.cell? ⟨X+1,2,none⟩=some (.slice s2 k2 t2)∧w4.drew.cell? ⟨X+1,3,none⟩=some (.slice s3 k3 t3)):=⟨hbt.cell (by show X≠YB;omega) HQ3.out.1,hbt.cell (by show X≠YB;omega) HQ3.out.2.1,hbt.cell (by show yb≠YB;omega) HQ3.out.2.2,hy4.cell 0 _ rfl,hy4.cell 1 _ rfl,hv4.cell 0 _ rfl,hv4.cell 1 _ rfl,hv4.cell 2 _ rfl,hv4.cell 3 _ rfl⟩
  have x0:=HQ3.out.1
  have xl:=HBK3.out.1.lt
  have t0:=HBK3.out.2.2.2.cell 0 _ rfl
  have tt1:=HBK3.out.2.2.2.cell 1 _ rfl
  have tf0:=HBK3.out.2.2.2.free 0
  have tf1:=HBK3.out.2.2.2.free 1
  have tl:=HBK3.out.2.2.2.lt
  clear hys hok hvb e0 e1 e2 hve hSS hgat hMy hse hk03 hwy hpg hy4 hbt hne hv4 hszx hgk hgn hsome
  go_upto_region 10 with fail
  rw[←HW4.out]
  clear x0 xl t0 tt1 tf0 tf1 tl e3 gg0 gg1 hel hgl hixv hixa
  have HREC:=hid (HRC.out w0 w4.drew (.agg #[.slice z1 z1n z1c,.slice z2 z2n z2c]) _ _ y v HB04.out.drew HOY.out.2.2 HIT.out HWV.out HOY.out.1 HOY.out.2.1)
  have HVP:Hid (w4.drew.cell? ⟨X,0,none⟩=some (.slice p1 n1 c1)∧w4.drew.cell? ⟨X,1,none⟩=some (.slice p2 n2 c2)∧w4.drew.cell? ⟨yb,yo,none⟩=some (.int .i64 n)∧w4.drew.cell? ⟨YB,0,none⟩=some (.slice z1 z1n z1c)∧w4.drew.cell? ⟨YB,1,none⟩=some (.slice z2 z2n z2c)∧w4.drew.cell? ⟨X+1,0,none⟩=some (.int .i64 vn)∧w4.drew.cell? ⟨X+1,1,none⟩=some (.slice s1 k1 t1)∧w4.drew.cell? ⟨X+1,2,none⟩=some (.slice s2 k2 t2)∧w4.drew.cell? ⟨X+1,3,none⟩=some (.slice s3 k3 t3)):=HCL.out
  go_upto_region 10 with fail
  refine zaS (fun w'=>w'.cell? ⟨X,0,none⟩=some (.slice p1 n1 c1)∧w'.cell? ⟨X,1,none⟩=some (.slice p2 n2 c2)∧w'.cell? ⟨yb,yo,none⟩=some (.int .i64 n)∧w'.cell? ⟨YB,0,none⟩=some (.slice z1 z1n z1c)∧w'.cell? ⟨YB,1,none⟩=some (.slice z2 z2n z2c)∧w'.cell? ⟨X+1,0,none⟩=some (.int .i64 vn)∧w'.cell? ⟨X+1,1,none⟩=some (.slice s1 k1 t1)∧w'.cell? ⟨X+1,2,none⟩=some (.slice s2 k2 t2)∧w'.cell? ⟨X+1,3,none⟩=some (.slice s3 k3 t3)) (fun _=>True) 8 [(0,0),(1,0),(2,0),(3,0),(4,0),(5,0),(6,0),(7,0),(8,2),(9,2),(10,0),(11,2),(12,2)] (by kernel_rfl) rfl rfl (by kernel_rfl) (fun _ _ dst _ _ h=>by cases dst <;> exact h) HVP.out trivial (fun OPS _=>?_)
  simp only[List.map_cons,List.map_nil,List.filterMap_cons,List.filterMap_nil,List.getElem?_cons_succ,List.getElem?_cons_zero]
  refine zav (v:=?v300) ?hy300 ?hr300
  case hy300=>(intro w hw;go_simp;all_goals rfl)
  simp only[Act.put,pzC,pzD,pzE]
  refine zav (v:=?v301) ?hy301 ?hr301
  case hy301=>(intro w hw;go_simp;all_goals rfl)
  simp only[Act.put,pzC,pzD,pzE]
  refine zav (v:=?v302) ?hy302 ?hr302
  case hy302=>(intro w hw;go_simp;all_goals rfl)
  simp only[Act.put,pzC,pzD,pzE]
  refine zav (v:=?v303) ?hy303 ?hr303
  case hy303=>(intro w hw;go_simp;all_goals rfl)
  simp only[Act.put,pzC,pzD,pzE]
  refine zav (v:=?v304) ?hy304 ?hr304
  case hy304=>(intro w hw;go_simp;all_goals rfl)
  simp only[Act.put,pzC,pzD,pzE]
  refine zav (v:=?v305) ?hy305 ?hr305
  case hy305=>(intro w hw;go_simp;all_goals rfl)
  simp only[Act.put,pzC,pzD,pzE]
  refine zav (v:=?v306) ?hy306 ?hr306
  case hy306=>(intro w hw;go_simp;all_goals rfl)
  simp only[Act.put,pzC,pzD,pzE]
  refine zav (v:=?v307) ?hy307 ?hr307
  case hy307=>(intro w hw;go_simp;all_goals rfl)
  simp only[Act.put,pzC,pzD,pzE]
  refine zcY (fun K12 HK12=>?_)
  go_wp2_with fail
  refine HREC.out.mono ?_
  rintro e w8 ⟨v8,rfl,hb8,hap⟩
  obtain⟨a1,a2,a3,a4,a5,a6,rfl⟩:=hap.here.form
  have HV8:Hid (w8.cell? ⟨X,0,none⟩=some (.slice p1 n1 c1)∧w8.cell? ⟨X,1,none⟩=some (.slice p2 n2 c2)∧w8.cell? ⟨yb,yo,none⟩=some (.int .i64 n)∧w8.cell? ⟨YB,0,none⟩=some (.slice z1 z1n z1c)∧w8.cell? ⟨YB,1,none⟩=some (.slice z2 z2n z2c)∧w8.cell? ⟨X+1,0,none⟩=some (.int .i64 vn)∧w8.cell? ⟨X+1,1,none⟩=some (.slice s1 k1 t1)∧w8.cell? ⟨X+1,2,none⟩=some (.slice s2 k2 t2)∧w8.cell? ⟨X+1,3,none⟩=some (.slice s3 k3 t3)):=⟨zaa hb8 _ _ HVP.out.1,zaa hb8 _ _ HVP.out.2.1,zaa hb8 _ _ HVP.out.2.2.1,zaa hb8 _ _ HVP.out.2.2.2.1,zaa hb8 _ _ HVP.out.2.2.2.2.1,zaa hb8 _ _ HVP.out.2.2.2.2.2.1,zaa hb8 _ _ HVP.out.2.2.2.2.2.2.1,zaa hb8 _ _ HVP.out.2.2.2.2.2.2.2.1,zaa hb8 _ _ HVP.out.2.2.2.2.2.2.2.2⟩
  go_wp2_with fail
  refine HK12.out _ _ HV8.out ?_
  clear HK12 K12
  intro _
  obtain⟨W9,HW9⟩:∃ W,Hid (W=w8.alloc (.cells #[.slice a1 a2 a3,.slice a4 a5 a6] 38)):=⟨_,rfl⟩
  obtain⟨G,HG⟩:∃ b,Hid (b=w8.heap.size):=⟨_,rfl⟩
  have hb9:Below w8.heap.size w8 W9:=by rw[HW9.out];exact (Below.refl _ _).alloc (Nat.le_refl _) _
  have hg9:Blk W9 G [.slice a1 a2 a3,.slice a4 a5 a6] 38:=by rw[HW9.out,HG.out];exact Blk.new w8 [.slice a1 a2 a3,.slice a4 a5 a6] _
  have hbx9:Below w4.heap.size w4 W9:=(Below.refl w4.heap.size w4).drew.trans (hb8.trans (hb9.mono hb8.size))
  have hB9:=HB4.out.trans (hbx9.mono HB4.out.size)
  have hB8s:w4.heap.size≤w8.heap.size:=hb8.size
  have HB09:=hid (HW0.out.trans (hB9.mono HW0.out.size))
  have hnum:zap w0.heap.size w4.heap.size W9 fun W=>zat (zac (m+(k::rest).length)) W (.agg #[.int .i64 n,.slice none 0 0,.slice none 0 0,.slice (some ⟨G,0,none⟩) 1 1]) (⟨n,[],[],[zdj (k::rest) y v]⟩:Val (M (m+(k::rest).length))):=fun W hW=>by
   refine zfD (by have:=HNI.out;unfold zcb at this;exact this) (T:=38) (c1:=.slice a1 a2 a3) (c2:=.slice a4 a5 a6) ((hW G hg9.lt (.inr (by rw[HG.out];exact hB8s))).trans hg9) ?_
   refine hap W fun b hlt hc=>?_
   rw[hW b (Nat.lt_of_lt_of_le hlt hb9.size) hc]
   exact hb9.block b hlt
  have HPUT:=hid (zhx (n0:=w0.heap.size) (B:=w4.heap.size) (w:=W9) (x:=x) hbx9.size (zbz rfl HB09.out fun W hk=>HXM.out.keep hk) hnum (Nat.le_trans HLE.out (by decide)))
  have HB9:=hid hB9
  have HBX9:=hid hbx9
  have HV9:Hid (W9.cell? ⟨X,0,none⟩=some (.slice p1 n1 c1)∧W9.cell? ⟨X,1,none⟩=some (.slice p2 n2 c2)∧W9.cell? ⟨yb,yo,none⟩=some (.int .i64 n)∧W9.cell? ⟨YB,0,none⟩=some (.slice z1 z1n z1c)∧W9.cell? ⟨YB,1,none⟩=some (.slice z2 z2n z2c)∧W9.cell? ⟨X+1,0,none⟩=some (.int .i64 vn)∧W9.cell? ⟨X+1,1,none⟩=some (.slice s1 k1 t1)∧W9.cell? ⟨X+1,2,none⟩=some (.slice s2 k2 t2)∧W9.cell? ⟨X+1,3,none⟩=some (.slice s3 k3 t3)):=⟨zaa hb9 _ _ HV8.out.1,zaa hb9 _ _ HV8.out.2.1,zaa hb9 _ _ HV8.out.2.2.1,zaa hb9 _ _ HV8.out.2.2.2.1,zaa hb9 _ _ HV8.out.2.2.2.2.1,zaa hb9 _ _ HV8.out.2.2.2.2.2.1,zaa hb9 _ _ HV8.out.2.2.2.2.2.2.1,zaa hb9 _ _ HV8.out.2.2.2.2.2.2.2.1,zaa hb9 _ _ HV8.out.2.2.2.2.2.2.2.2⟩
  refine zcY (fun K12 HK12=>?_)
  go_wp2_with fail
  rw[←HW9.out,←HG.out]
  refine HK12.out _ _ HV9.out ?_
  clear HK12 K12 hap hb8 hb9 hg9 hbx9 hB9 hB8s hnum
  intro _
  refine zav (v:=?v320) ?hy320 ?hr320
  case hy320=>(intro w hw;go_simp;all_goals rfl)
  simp only[Act.put,pzC,pzD,pzE]
  refine zcY (fun K12 HK12=>?_)
  go_wp2_with fail
  refine HPUT.out.mono ?_
  rintro e w10 ⟨v10,rfl,hb10,hap10⟩
  obtain⟨b1,b2,b3,b4,b5,b6,rfl⟩:=hap10.here.form
  have HE:=hid (HEND.out W9 w10 b1 b2 b3 b4 b5 b6 HB9.out hb10 (by rw[←HPG.out];exact hap10.mono HSW))
  have hr7:=HR2.out.below (HBC.out.trans ((HBX9.out.trans (hb10.mono HBX9.out.size)).mono HBC.out.size))
  have HV10:Hid (w10.cell? ⟨X,0,none⟩=some (.slice p1 n1 c1)∧w10.cell? ⟨X,1,none⟩=some (.slice p2 n2 c2)∧w10.cell? ⟨yb,yo,none⟩=some (.int .i64 n)∧w10.cell? ⟨YB,0,none⟩=some (.slice z1 z1n z1c)∧w10.cell? ⟨YB,1,none⟩=some (.slice z2 z2n z2c)∧w10.cell? ⟨X+1,0,none⟩=some (.int .i64 vn)∧w10.cell? ⟨X+1,1,none⟩=some (.slice s1 k1 t1)∧w10.cell? ⟨X+1,2,none⟩=some (.slice s2 k2 t2)∧w10.cell? ⟨X+1,3,none⟩=some (.slice s3 k3 t3)):=⟨zaa hb10 _ _ HV9.out.1,zaa hb10 _ _ HV9.out.2.1,zaa hb10 _ _ HV9.out.2.2.1,zaa hb10 _ _ HV9.out.2.2.2.1,zaa hb10 _ _ HV9.out.2.2.2.2.1,zaa hb10 _ _ HV9.out.2.2.2.2.2.1,zaa hb10 _ _ HV9.out.2.2.2.2.2.2.1,zaa hb10 _ _ HV9.out.2.2.2.2.2.2.2.1,zaa hb10 _ _ HV9.out.2.2.2.2.2.2.2.2⟩
  have r0:=hr7.cell 0 _ rfl
  have r1:=hr7.cell 1 _ rfl
  have f0:=hr7.free 0
  have f1:=hr7.free 1
  have rl:=hr7.lt
  have z2':=(hr7.set 0 (.slice b1 b2 b3)).set 1 (.slice b4 b5 b6)
  have q0:=z2'.cell 0 _ rfl
  have q1':=z2'.cell 1 _ rfl
  have HVU:Hid (((w10.setCell ⟨X+1+1,0,none⟩ (.slice b1 b2 b3)).setCell ⟨X+1+1,1,none⟩ (.slice b4 b5 b6)).cell? ⟨X,0,none⟩=some (.slice p1 n1 c1)∧((w10.setCell ⟨X+1+1,0,none⟩ (.slice b1 b2 b3)).setCell ⟨X+1+1,1,none⟩ (.slice b4 b5 b6)).cell? ⟨X,1,none⟩=some (.slice p2 n2 c2)∧((w10.setCell ⟨X+1+1,0,none⟩ (.slice b1 b2 b3)).setCell ⟨X+1+1,1,none⟩ (.slice b4 b5 b6)).cell? ⟨yb,yo,none⟩=some (.int .i64 n)∧((w10.setCell ⟨X+1+1,0,none⟩ (.slice b1 b2 b3)).setCell ⟨X+1+1,1,none⟩ (.slice b4 b5 b6)).cell? ⟨YB,0,none⟩=some (.slice z1 z1n z1c)∧((w10.setCell ⟨X+1+1,0,none⟩ (.slice b1 b2 b3)).setCell ⟨X+1+1,1,none⟩ (.slice b4 b5 b6)).cell? ⟨YB,1,none⟩=some (.slice z2 z2n z2c)∧((w10.setCell ⟨X+1+1,0,none⟩ (.slice b1 b2 b3)).setCell ⟨X+1+1,1,none⟩ (.slice b4 b5 b6)).cell? ⟨X+1,0,none⟩=some (.int .i64 vn)∧((w10.setCell ⟨X+1+1,0,none⟩ (.slice b1 b2 b3)).setCell ⟨X+1+1,1,none⟩ (.slice b4 b5 b6)).cell? ⟨X+1,1,none⟩=some (.slice s1 k1 t1)∧((w10.setCell ⟨X+1+1,0,none⟩ (.slice b1 b2 b3)).setCell ⟨X+1+1,1,none⟩ (.slice b4 b5 b6)).cell? ⟨X+1,2,none⟩=some (.slice s2 k2 t2)∧((w10.setCell ⟨X+1+1,0,none⟩ (.slice b1 b2 b3)).setCell ⟨X+1+1,1,none⟩ (.slice b4 b5 b6)).cell? ⟨X+1,3,none⟩=some (.slice s3 k3 t3)):=by
   have hk:∀ b i u,b≠X+1+1→w10.cell? ⟨b,i,none⟩=some u→((w10.setCell ⟨X+1+1,0,none⟩ (.slice b1 b2 b3)).setCell ⟨X+1+1,1,none⟩ (.slice b4 b5 b6)).cell? ⟨b,i,none⟩=some u:=fun b i u hb h=>by
    rw[zaG _ _ _ _ _ hb,zaG _ _ _ _ _ hb]
    exact h
   have h:=HV10.out
   have hn:=HNE.out
   exact⟨hk _ _ _ (by omega) h.1,hk _ _ _ (by omega) h.2.1,hk _ _ _ (by omega) h.2.2.1,hk _ _ _ (by omega) h.2.2.2.1,hk _ _ _ (by omega) h.2.2.2.2.1,hk _ _ _ (by omega) h.2.2.2.2.2.1,hk _ _ _ (by omega) h.2.2.2.2.2.2.1,hk _ _ _ (by omega) h.2.2.2.2.2.2.2.1,hk _ _ _ (by omega) h.2.2.2.2.2.2.2.2⟩
  clear hr7 z2' hap10 hb10 HPUT
  go_wp2_with fail
  refine HK12.out _ _ HV10.out ?_
  clear HK12 K12
  intro _
  refine zcY (fun K12 HK12=>?_)
  go_wp2_with fail
  refine HK12.out _ _ HVU.out ?_
  clear HK12 K12 r0 r1 f0 f1
  intro _
  refine zcE ?_
  go_wp2_with fail
  refine bodyPost_ret (v:=.agg #[.slice b1 b2 b3,.slice b4 b5 b6]) ?_ rfl HE.out
  simp[results,Tryz.results18,go_sem,q0,q1']
theorem zhy {m:Nat}:∀ (way:List Int),way≠[]→zpL m way
 | [],h=>absurd rfl h
 | [n],_=>fun w0 w xv yv vv x v hw hx hy hv hok hwt=>zi7 w0 w xv vv yv n x v hw hx hy hv hok (Nat.le_trans (zdU (d:=m) x) hwt) _ rfl
 | n::k::r,_=>fun w0 w xv yv vv x v hw hx hy hv hok hwt=>zhP w0 w xv vv yv n k r x v (zhy (k::r) (by simp)) hw hx hy hv hok.1 hok.2 hwt (Nat.le_trans (zdU (d:=m+(k::r).length) x) hwt) _ rfl
end
end Go.Proofs.YtdpnmdkbdibkpaaGreatDoor
