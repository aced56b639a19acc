/- darninglaw15.AlgebraSets: true. Meanings and values of at most 2^40 things. -/
import Derived.Test.YtdpnmdkbdibkpaaGreatDoorZ10
import Derived.Test.YtdpnmdkbdibkpaaGreatDoorZ13
import Derived.Test.YtdpnmdkbdibkpaaGreatDoorZ16
import Derived.Test.YtdpnmdkbdibkpaaGreatDoorZ24
import Derived.Test.YtdpnmdkbdibkpaaGreatDoorZ29
import Derived.Test.YtdpnmdkbdibkpaaGreatDoorZ35
import Derived.Test.YtdpnmdkbdibkpaaGreatDoorZ37
import Derived.Test.YtdpnmdkbdibkpaaGreatDoorZ38
import Derived.Test.YtdpnmdkbdibkpaaGreatDoorZ39
import Derived.Test.YtdpnmdkbdibkpaaGreatDoorZ42
import Derived.Test.YtdpnmdkbdibkpaaGreatDoorZ43
import Derived.Deep.CutRange
namespace Go.Proofs.YtdpnmdkbdibkpaaGreatDoor
set_option maxRecDepth 100000
set_option maxHeartbeats 16000000
section
open Go.RowKit
theorem zle (s:List Mes)(root:Int)(d:Nat)(x:M d):zbv s root [zae s d root x]=zeW s root d x:=by
 unfold zbv zeW
 cases zae s d root x <;> rfl
theorem zpr {s:List Mes}{root:Int}{way:List Int}{w:World}{e:Ending}{w':World}(h:zfm s root way w e w'):Below w.heap.size w w'∧∃ f:Fld,e= .returned (.tuple #[f.val,.bool (zcF s root way)])∧(zcF s root way=true→f=zdm s root .zero way):=by
 obtain⟨hb,h1,h2⟩:=h
 refine⟨hb,?_⟩
 cases hw:zcF s root way with
 | false=>exact⟨.zero,h1 hw,fun h=>by cases h⟩
 | true=>exact⟨_,h2 hw,fun _=>rfl⟩
theorem zlf {m:Nat}:∀ (way:List Int) (x:M (m+way.length)) (u:Val (M m)),atM way x=some u→AtIs (m+way.length) x way m u
 | [],_,_,h=>by cases h
 | [n],x,u,h=>AtIs.one (d:=m) h
 | n::k::r,x,u,h=>by
  unfold atM at h
  cases hg:zbu (M.vals (d:=m+(k::r).length) x) n with
  | none=>rw[hg] at h;cases h
  | some g =>
   rw[hg] at h
   simp only at h
   cases hs:g.subs with
   | nil=>rw[hs] at h;cases h
   | cons y l =>
    rw[hs] at h
    exact AtIs.more (d:=m+(k::r).length) hg hs (by simp) (zlf (k::r) y u h)
theorem zi8 {m:Nat}:∀ (way:List Int) (x:M (m+way.length)),way≠[]→zcg (m+way.length) x way=(atM way x).isSome
 | [],_,h=>absurd rfl h
 | [n],x,_=>by
  show zcg (m+1) x [n]=(zbu (M.vals (d:=m) x) n).isSome
  unfold zcg
  cases hg:zfZ (M.vals (d:=m) x) n with
  | none=>rw[show zbu (M.vals (d:=m) x) n=none from hg];rfl
  | some g=>rw[show zbu (M.vals (d:=m) x) n=some g from hg];rfl
 | n::k::r,x,_=>by
  show zcg (m+(k::r).length+1) x (n::k::r)=_
  conv=>lhs;unfold zcg
  unfold atM
  cases hg:zfZ (M.vals (d:=m+(k::r).length) x) n with
  | none=>rw[show zbu (M.vals (d:=m+(k::r).length) x) n=none from hg];rfl
  | some g =>
   rw[show zbu (M.vals (d:=m+(k::r).length) x) n=some g from hg]
   simp only
   cases hs:g.subs with
   | nil=>rfl
   | cons y l=>exact zi8 (k::r) y (by simp)
theorem zlg {m:Nat}:∀ (way:List Int) (x:M (m+way.length)),way≠[]→zge way x→zlb (m+way.length) x way
 | [],_,h,_=>absurd rfl h
 | [n],x,_,_=>by
  show zlb (m+1) x [n]
  unfold zlb
  exact fun v _=> .inl rfl
 | n::k::r,x,_,h=>by
  show zlb (m+(k::r).length+1) x (n::k::r)
  unfold zlb
  intro v hv
  obtain⟨y,hy,hok⟩:=h.2 v hv
  exact .inr ⟨y,[],hy,zlg (k::r) y (by simp) hok⟩
theorem zoA {m:Nat}:∀ (way:List Int) (x:M (m+way.length)) (u:Val (M m)),zge way x→atM way x=some u→vwt (mwt m) u≤mwt (m+way.length) x
 | [],_,_,_,h=>by cases h
 | [n],x,u,_,h=>by
  have h1:=zau (vwt (mwt m)) (M.vals (d:=m) x) u (zbO h).2
  show _≤1+twt (M.unk (d:=m) x)+((M.vals (d:=m) x).map (vwt (mwt m))).sum
  omega
 | n::k::r,x,u,hok,h=>by
  cases hg:zbu (M.vals (d:=m+(k::r).length) x) n with
  | none=>rw[zlQ hg] at h;cases h
  | some g =>
   obtain⟨y,hy,hoky⟩:=hok.2 g hg
   rw[zlR hg hy] at h
   have ih:=zoA (k::r) y u hoky h
   have h1:=zau (vwt (mwt (m+(k::r).length))) (M.vals (d:=m+(k::r).length) x) g (zbO hg).2
   have h2:mwt (m+(n::k::r).length) x=1+twt (M.unk (d:=m+(k::r).length) x)+((M.vals (d:=m+(k::r).length) x).map (vwt (mwt (m+(k::r).length)))).sum:=rfl
   have h3:mwt (m+(k::r).length) y≤vwt (mwt (m+(k::r).length)) g:=by unfold vwt;rw[hy,List.map_cons,List.map_nil,List.sum_cons,List.sum_nil];omega
   omega
def ResS (W:World)(d c:Nat)(z:M d)(e:Ending)(w':World):Prop:=∃ a n k b m j,e= .returned (.tuple #[.agg #[.slice a n k,.slice b m j],.int .u8 (c:Int)])∧Below W.heap.size W w'∧(c=0→zac d w' (.agg #[.slice a n k,.slice b m j]) z)∧(c≠0→zac 1 w' (.agg #[.slice a n k,.slice b m j]) (ziG 0))
theorem ans_s {W:World}{d c:Nat}{z:M d}{e:Ending}{w':World}(h:zdV W d c z e w'):ResS W d c z e w':=by
 obtain⟨hb,h1,h0⟩:=h
 by_cases hc:c=0
 ·
  obtain⟨a,n,k,b,m,j,he,hap⟩:=h0 hc
  exact⟨a,n,k,b,m,j,by rw[he,hc];rfl,hb,fun _=>hap.here,fun h=>absurd hc h⟩
 ·
  exact⟨none,0,0,none,0,0,h1 hc,hb,fun h=>absurd h hc,fun _=>zeh _ _⟩
theorem zmZ (s:List Mes)(root:Int){m:Nat}(way:List Int)(x:M (m+way.length))(v:Val (M m)):setC s root way x v≤12:=by
 unfold setC
 have:=zc0 s root [zae s (m+way.length) root x]
 split
 ·
  exact this
 ·
  split
  ·
   omega
  ·
   split <;> omega
theorem zoB (s:List Mes)(root:Int){m:Nat}(way:List Int)(x:M (m+way.length)):atC s root way x≤12:=by
 unfold atC
 have:=zc0 s root [zae s (m+way.length) root x]
 split
 ·
  exact this
 ·
  split
  ·
   omega
  ·
   split <;> omega
theorem zfN {w:World}{sv va vw vv:Value}{s:List Mes}{m:Nat}{way:List Int}{x:M (m+way.length)}{v:Val (M m)}(hS:zaj w sv s)(root:Int)(ha:zac (m+way.length) w va x)(hy:zar w vw way)(hv:zat (zac m) w vv v)(hwa:mwt (m+way.length) x≤1099511627776)(hwv:1+vwt (mwt m) v≤1099511627776) :
  Calls Tryz.prog 3 #[sv,.int .i64 root,va,vw,vv] w fun e w'=>e= .returned (.bool true)∧Below w.heap.size w w':=by
 obtain⟨a1,a2,a3,a4,a5,a6,rfl⟩:=ha.form
 obtain⟨vq,b1,d1,e1,b2,d2,e2,b3,d3,e3,rfl⟩:=hv.form
 obtain⟨X,HX⟩:∃ X,Hid (X=w.heap.size):=⟨_,rfl⟩
 have HS:=hid hS
 have HIY:=hid hy
 have HWT:=hid (And.intro hwa hwv)
 obtain⟨-,sa,sc,rfl,-⟩:=hS.open
 obtain⟨sn,HSN⟩:∃ n,Hid (n=s.length):=⟨_,rfl⟩
 rw[←HSN.out] at HS ⊢
 obtain⟨-,ya,yc,rfl,-,-⟩:=hy.open
 obtain⟨yn,HYN⟩:∃ n,Hid (n=way.length):=⟨_,rfl⟩
 have HIY:Hid (zar w (.slice ya yn yc) way):=by rw[HYN.out];exact hy
 rw[show (Value.slice ya way.length yc)= .slice ya yn yc by rw[HYN.out]]
 obtain⟨W1,HW1⟩:∃ W,Hid (W=(w.alloc (.cells #[.slice a1 a2 a3,.slice a4 a5 a6] 27)).alloc (.cells #[.int .i64 vq,.slice b1 d1 e1,.slice b2 d2 e2,.slice b3 d3 e3] 32)):=⟨_,rfl⟩
 have hb1:Below w.heap.size w W1:=by rw[HW1.out];(with_reducible repeat first|exact Below.refl _ _|refine pzA ?_ _|refine pzB ?_ _|refine zab ?_ _|refine Below.drew ?_)
 have hx1:Blk W1 X [.slice a1 a2 a3,.slice a4 a5 a6] 27:=by rw[HW1.out,HX.out];exact (Blk.new w [.slice a1 a2 a3,.slice a4 a5 a6] _).alloc _
 have hy1:Blk W1 (X+1) [.int .i64 vq,.slice b1 d1 e1,.slice b2 d2 e2,.slice b3 d3 e3] 32:=by rw[HW1.out,HX.out];exact Blk.new' _ [.int .i64 vq,.slice b1 d1 e1,.slice b2 d2 e2,.slice b3 d3 e3] _ _ (by simp)
 have HB:=hid hb1
 have HA:=hid (show MB (m+way.length) 27 W1 X a1 a2 a3 a4 a5 a6 x from ⟨hx1,ha.below hb1⟩)
 have HC:=hid (show MV m 32 W1 (X+1) vq b1 d1 e1 b2 d2 e2 b3 d3 e3 v from ⟨hy1,VMsg.below hv hb1⟩)
 clear hS ha hv hy hwa hwv hb1 hx1 hy1
 go_enter Tryz.func3,Tryz.ntmps3
 go_upto_region 1 with fail
 rw[←HW1.out,←HX.out]
 go_wp2_with fail
 refine (zk3 W1).mono ?_
 rintro e w2 ⟨rfl,hb2⟩
 have HB:=hid (HB.out.trans (hb2.mono HB.out.size))
 have HA:=hid (HA.out.below hb2)
 have HC:=hid (HC.out.below hb2)
 clear hb2
 go_wp2_with fail
 refine (znn (HS.out.below HB.out)).mono ?_
 rintro e w3 ⟨⟨few,rfl⟩,hb3⟩
 have HB:=hid (HB.out.trans (hb3.mono HB.out.size))
 have HA:=hid (HA.out.below hb3)
 have HC:=hid (HC.out.below hb3)
 clear hb3
 cases few with
 | false =>
  go_wp2_with fail
  go_ret
  exact⟨rfl,HB.out⟩
 | true =>
  obtain⟨W4,HW4⟩:∃ W,Hid (W=(w3.alloc (.cells #[.int .i64 vq,.slice b1 d1 e1,.slice b2 d2 e2,.slice b3 d3 e3] 32)).alloc (.cells #[.slice a1 a2 a3,.slice a4 a5 a6,.slice (some ⟨w3.heap.size,0,none⟩) 1 1,.slice none 0 0] 27)):=⟨_,rfl⟩
  obtain⟨G,HG⟩:∃ G,Hid (G=w3.heap.size):=⟨_,rfl⟩
  have hb4:Below w3.heap.size w3 W4:=by rw[HW4.out];(with_reducible repeat first|exact Below.refl _ _|refine pzA ?_ _|refine pzB ?_ _|refine zab ?_ _|refine Below.drew ?_)
  have hv4:Blk W4 G [.int .i64 vq,.slice b1 d1 e1,.slice b2 d2 e2,.slice b3 d3 e3] 32:=by rw[HW4.out,HG.out];exact (Blk.new w3 [.int .i64 vq,.slice b1 d1 e1,.slice b2 d2 e2,.slice b3 d3 e3] _).alloc _
  have hg4:Blk W4 (G+1) [.slice a1 a2 a3,.slice a4 a5 a6,.slice (some ⟨G,0,none⟩) 1 1,.slice none 0 0] 27:=by rw[HW4.out,HG.out];exact Blk.new' _ [.slice a1 a2 a3,.slice a4 a5 a6,.slice (some ⟨w3.heap.size,0,none⟩) 1 1,.slice none 0 0] _ _ (by simp)
  have hval4:zat (zac m) W4 (.agg #[.int .i64 vq,.slice b1 d1 e1,.slice b2 d2 e2,.slice b3 d3 e3]) v:=VMsg.below HC.out.val hb4
  have hmv4:zac (m+1) W4 (.agg #[.slice (some ⟨G,0,none⟩) 1 1,.slice none 0 0]) (⟨[v],[]⟩:zec (M m)):=
   ⟨_,_,rfl,⟨[[.int .i64 vq,.slice b1 d1 e1,.slice b2 d2 e2,.slice b3 d3 e3]],rfl,by simp,zcS hv4 4 1 rfl (by omega),fun i r u hr hu=>by
    match i,hr,hu with
    | 0,hr,hu =>
     cases hr
     cases hu
     exact hval4⟩,zfa _⟩
  have HBIG:=hid (zmD (w:=W4) (g:=G+1) (n:=2) (c:=2) (wt:=fun i=>if i=0 then mwt (m+way.length) x else 1+vwt (mwt m) v) (fun i hi=>by
   have h3:i=0∨i=1:=by omega
   rcases h3 with rfl|rfl
   ·
    exact⟨_,_,m+way.length,x,by simpa using hg4.cell 0 _ rfl,by simpa using hg4.cell 1 _ rfl,HA.out.msg.below hb4,HWT.out.1,rfl⟩
   ·
    refine⟨_,_,m+1,(⟨[v],[]⟩:zec (M m)),by simpa using hg4.cell 2 _ rfl,by simpa using hg4.cell 3 _ rfl,hmv4,?_,?_⟩
    ·
     show 1+0+(vwt (mwt m) v+0)≤_
     have:=HWT.out.2
     omega
    ·
     show 1+vwt (mwt m) v=1+0+(vwt (mwt m) v+0)
     omega) (by decide))
  have q0:=HC.out.c0
  have q1:=HC.out.c1
  have q2:=HC.out.c2
  have q3:=HC.out.c3
  have ql:=HC.out.lt
  have p00:=HA.out.c0
  have p01:=HA.out.c1
  have p0l:=HA.out.lt
  clear hg4 hv4 hval4 hmv4
  go_wp2_with fail
  rw[←HW4.out,←HG.out]
  refine HBIG.out.mono ?_
  rintro e w5 ⟨⟨big,rfl,hbig⟩,hb5⟩
  have hb35:=hb4.trans (hb5.mono hb4.size)
  have HB:=hid (HB.out.trans (hb35.mono HB.out.size))
  have HA:=hid (HA.out.below hb35)
  have HC:=hid (HC.out.below hb35)
  have HBG:=hid hbig
  clear hb4 hb5 hb35 hbig p00 p01 p0l q0 q1 q2 q3 ql HBIG
  cases big with
  | true =>
   go_wp2_with fail
   go_ret
   exact⟨rfl,HB.out⟩
  | false =>
   have HW2:Hid (mwt (m+way.length) x≤2000∧1+vwt (mwt m) v≤2000):=⟨HBG.out rfl 0 (by decide),HBG.out rfl 1 (by decide)⟩
   clear HBG HW4 HG
   by_cases h80:80<yn
   ·
    go_wp2_with fail
    go_ret
    exact⟨rfl,HB.out⟩
   have HYL:Hid (way.length≤80):=by rw[Hid,←HYN.out];omega
   go_upto_region 5 with fail
   refine zha (fun w'=>Below w5.heap.size w5 w') 6 ⟨4,11,[.slice none 0 0,.slice none 0 0],38⟩ ⟨5,12,[.int .i64 0,.slice none 0 0,.slice none 0 0,.slice none 0 0],42⟩ [(0,0),(2,0),(1,1),(3,1)] [(6,2,0),(7,2,0)] (by kernel_rfl) rfl rfl rfl (by kernel_rfl) (fun _ _ dst _ _ h=>by cases dst <;> exact h) ⟨_,rfl,rfl,rfl,fun a w=>by kernel_rfl⟩ ⟨_,rfl,rfl,rfl,fun a w=>by kernel_rfl⟩ (by decide) (fun w w' h hb=>h.trans (hb.mono h.size)) w5.heap.size (fun w h=>h.size) (Below.refl _ _).drew (fun OPS _=>?_)
   simp only[List.map_cons,List.map_nil,List.filterMap_cons,List.filterMap_nil,List.getElem?_cons_succ,List.getElem?_cons_zero]
   refine⟨.agg #[.slice a1 a2 a3,.slice a4 a5 a6],fun u u2 w hw=>?_,?_⟩
   ·
    have h1:=HA.out.below hw
    have c0:=h1.c0
    have c1:=h1.c1
    have cl:=h1.lt
    unfold zf8
    simp only[Act.put,pzC,pzD,pzE]
    go_simp
    all_goals rfl
   simp only[Act.put,pzC,pzD,pzE]
   refine⟨.agg #[.int .i64 vq,.slice b1 d1 e1,.slice b2 d2 e2,.slice b3 d3 e3],fun u u2 w hw=>?_,?_⟩
   ·
    have h1:=HC.out.below hw
    have c0:=h1.c0
    have c1:=h1.c1
    have c2:=h1.c2
    have c3:=h1.c3
    have cl:=h1.lt
    unfold zf8
    simp only[Act.put,pzC,pzD,pzE]
    go_simp
    all_goals rfl
   simp only[Act.put,pzC,pzD,pzE]
   intro u u2 w6 hV6 K HKK
   have HOF1:=hid (zdr w5 (m+way.length) w6 _ x HA.out.msg hV6 (Nat.le_trans HW2.out.1 (by decide)))
   have HV6:=hid hV6
   clear hV6
   unfold zf8
   simp only[Act.put,pzC,pzD,pzE]
   go_wp2_with fail
   refine HOF1.out.mono ?_
   rintro e' w7 ⟨v7,rfl,hb7,hm7⟩
   obtain⟨p1,q1,r1,p2,q2,r2,rfl⟩:=hm7.here.form
   go_wp2_with fail
   refine HKK.out (.agg #[.slice p1 q1 r1,.slice p2 q2 r2]) w7 (fun W=>Below w5.heap.size w5 W∧w7.heap.size≤W.heap.size∧zcc w5.heap.size w6.heap.size w7.heap.size W (fun W2=>zac (m+way.length) W2 (.agg #[.slice p1 q1 r1,.slice p2 q2 r2]) x)) (fun W W' h hb=>⟨h.1.trans (hb.mono h.1.size),Nat.le_trans h.2.1 hb.size,h.2.2.below h.1.size h.2.1 hb⟩) (fun W h=>h.1) (fun W h=>h.2.1) ⟨HV6.out.trans (hb7.mono HV6.out.size),Nat.le_refl _,zgt hm7⟩ hb7 ?_
   simp only[Act.put,pzC,pzD,pzE]
   clear HOF1 HV6 hb7 hm7 HKK
   intro u u2 w8 hV8 K HKK
   have HV8:=hid hV8
   have HOF2:=hid (zcy (w:=w8) (zdr w5 m) HC.out.val hV8.1 (by have:=HW2.out.2;omega))
   clear hV8
   unfold zf8
   simp only[Act.put,pzC,pzD,pzE]
   go_wp2_with fail
   refine HOF2.out.mono ?_
   rintro e' w9 ⟨v9,rfl,hb9,hm9⟩
   obtain⟨vz,p3,q3,r3,p4,q4,r4,p5,q5,r5,rfl⟩:=hm9.here.form
   go_wp2_with fail
   obtain⟨VV,HVV⟩:∃ V:World→Prop,V=fun W=>Below w5.heap.size w5 W∧w9.heap.size≤W.heap.size∧w7.heap.size≤W.heap.size∧zcc w5.heap.size w6.heap.size w7.heap.size W (fun W2=>zac (m+way.length) W2 (.agg #[.slice p1 q1 r1,.slice p2 q2 r2]) x)∧zcc w5.heap.size w8.heap.size w9.heap.size W (fun W2=>zat (zac m) W2 (.agg #[.int .i64 vz,.slice p3 q3 r3,.slice p4 q4 r4,.slice p5 q5 r5]) v):=⟨_,rfl⟩
   refine HKK.out (.agg #[.int .i64 vz,.slice p3 q3 r3,.slice p4 q4 r4,.slice p5 q5 r5]) w9 VV (fun W W' h hb=>by rw[HVV] at h ⊢;exact⟨h.1.trans (hb.mono h.1.size),Nat.le_trans h.2.1 hb.size,Nat.le_trans h.2.2.1 hb.size,h.2.2.2.1.below h.1.size h.2.2.1 hb,h.2.2.2.2.below h.1.size h.2.1 hb⟩) (fun W h=>by rw[HVV] at h;exact⟨h.1,h.2.2.1,h.2.2.2.1⟩) (fun W h=>by rw[HVV] at h;exact h.2.1) (by rw[HVV];exact⟨HV8.out.1.trans (hb9.mono HV8.out.1.size),Nat.le_refl _,Nat.le_trans HV8.out.2.1 hb9.size,HV8.out.2.2.below HV8.out.1.size HV8.out.2.1 hb9,zgt hm9⟩) hb9 ?_
   simp only[Act.put,pzC,pzD,pzE]
   clear HOF2 HV8 hb9 hm9 HKK
   intro P1 P2 w10 hV10 hne hP1 hP2 hR1 hR2 hk1 hk2
   unfold zf8 zlB
   simp only[Act.put,pzC,pzD,pzE]
   have hV11:VV ((w10.setCell ⟨P1,0,none⟩ (.slice p1 q1 r1)).setCell ⟨P1,1,none⟩ (.slice p2 q2 r2)):=by
    rw[HVV] at hV10 ⊢
    exact⟨(hV10.1.setCell hP1 _).setCell hP1 _,by simpa using hV10.2.1,by simpa using hV10.2.2.1,(hV10.2.2.2.1.set hP1 (hR1 (w6.heap.size,w7.heap.size) (by simp)) _).set hP1 (hR1 (w6.heap.size,w7.heap.size) (by simp)) _,(hV10.2.2.2.2.set hP1 (hR1 (w8.heap.size,w9.heap.size) (by simp)) _).set hP1 (hR1 (w8.heap.size,w9.heap.size) (by simp)) _⟩
   have HV11:=hid hV11
   have c0:=hk1.cell 0 _ rfl
   have c1:=hk1.cell 1 _ rfl
   have f0:=hk1.free 0
   have f1:=hk1.free 1
   have l1:=hk1.lt
   obtain⟨W11,HW11⟩:∃ W,Hid (W=(w10.setCell ⟨P1,0,none⟩ (.slice p1 q1 r1)).setCell ⟨P1,1,none⟩ (.slice p2 q2 r2)):=⟨_,rfl⟩
   have hk1':Blk W11 P1 [.slice p1 q1 r1,.slice p2 q2 r2] 38:=by rw[HW11.out];exact (hk1.set 0 (.slice p1 q1 r1)).set 1 (.slice p2 q2 r2)
   have hk2':Blk W11 P2 [.int .i64 0,.slice none 0 0,.slice none 0 0,.slice none 0 0] 42:=by rw[HW11.out];exact Blk.set_other (Blk.set_other hk2 _ _ (fun h=>hne h.symm)) _ _ (fun h=>hne h.symm)
   rw[←HW11.out] at HV11
   obtain⟨W12,HW12⟩:∃ W,Hid (W=(((W11.setCell ⟨P2,0,none⟩ (.int .i64 vz)).setCell ⟨P2,1,none⟩ (.slice p3 q3 r3)).setCell ⟨P2,2,none⟩ (.slice p4 q4 r4)).setCell ⟨P2,3,none⟩ (.slice p5 q5 r5)):=⟨_,rfl⟩
   have hk3:Blk W12 P2 [.int .i64 vz,.slice p3 q3 r3,.slice p4 q4 r4,.slice p5 q5 r5] 42:=by rw[HW12.out];exact (((hk2'.set 0 (.int .i64 vz)).set 1 (.slice p3 q3 r3)).set 2 (.slice p4 q4 r4)).set 3 (.slice p5 q5 r5)
   have hk4:Blk W12 P1 [.slice p1 q1 r1,.slice p2 q2 r2] 38:=by rw[HW12.out];exact Blk.set_other (Blk.set_other (Blk.set_other (Blk.set_other hk1' _ _ hne) _ _ hne) _ _ hne) _ _ hne
   have hV12:VV W12:=by
    have h:=HV11.out
    rw[HVV] at h ⊢
    rw[HW12.out]
    exact⟨(((h.1.setCell hP2 _).setCell hP2 _).setCell hP2 _).setCell hP2 _,by simpa using h.2.1,by simpa using h.2.2.1,(((h.2.2.2.1.set hP2 (hR2 (w6.heap.size,w7.heap.size) (by simp)) _).set hP2 (hR2 (w6.heap.size,w7.heap.size) (by simp)) _).set hP2 (hR2 (w6.heap.size,w7.heap.size) (by simp)) _).set hP2 (hR2 (w6.heap.size,w7.heap.size) (by simp)) _,(((h.2.2.2.2.set hP2 (hR2 (w8.heap.size,w9.heap.size) (by simp)) _).set hP2 (hR2 (w8.heap.size,w9.heap.size) (by simp)) _).set hP2 (hR2 (w8.heap.size,w9.heap.size) (by simp)) _).set hP2 (hR2 (w8.heap.size,w9.heap.size) (by simp)) _⟩
   have HV12:=hid hV12
   have HK34:=hid (And.intro hk4 hk3)
   have HK2':=hid hk2'
   clear hV11 hV12 hk1 hk2 hk1' hk2' hk3 hk4 hR1 hR2 hV10 hP1 hP2 hne
   refine zfz (fun K12 HK12=>?_)
   go_wp2_with fail
   rw[←HW11.out]
   refine HK12.out _ _ HV11.out ?_
   clear HK12 K12 c0 c1 f0 f1 l1
   intro _
   have c0:=HK2'.out.cell 0 _ rfl
   have c1:=HK2'.out.cell 1 _ rfl
   have c2:=HK2'.out.cell 2 _ rfl
   have c3:=HK2'.out.cell 3 _ rfl
   have f0:=HK2'.out.free 0
   have f1:=HK2'.out.free 1
   have f2:=HK2'.out.free 2
   have f3:=HK2'.out.free 3
   have l1:=HK2'.out.lt
   refine zfz (fun K12 HK12=>?_)
   go_wp2_with fail
   rw[←HW12.out]
   refine HK12.out _ _ HV12.out ?_
   clear HK12 K12 c0 c1 c2 c3 f0 f1 f2 f3 l1
   intro _
   refine zbQ ?_
   have HV12:=HV12.out
   rw[HVV] at HV12
   obtain⟨hb,-,-,hKX,hKY⟩:=HV12
   have HP:=hid (show MB (m+way.length) 38 W12 P1 p1 q1 r1 p2 q2 r2 x from ⟨HK34.out.1,hKX.here⟩)
   have HQ:=hid (show MV m 42 W12 P2 vz p3 q3 r3 p4 q4 r4 p5 q5 r5 v from ⟨HK34.out.2,hKY.here⟩)
   have HB:=hid (HB.out.trans (hb.mono HB.out.size))
   have HA:=hid (HA.out.below hb)
   have HC:=hid (HC.out.below hb)
   clear hb hKX hKY HV11 HK2' HK34 HW12 HW11
   have p00:=HA.out.c0
   have p01:=HA.out.c1
   have p0l:=HA.out.lt
   have c0:=HC.out.c0
   have c1:=HC.out.c1
   have c2:=HC.out.c2
   have c3:=HC.out.c3
   have cl:=HC.out.lt
   obtain⟨ce,HCE⟩:∃ c,Hid (c=setC s root way x v):=⟨_,rfl⟩
   obtain⟨ca,HCA⟩:∃ c,Hid (c=atC s root way x):=⟨_,rfl⟩
   have HIW:=hid (HIY.out.below HB.out)
   have HCALL:=hid (zqd (HS.out.below HB.out) root HA.out.msg HIW.out HC.out.val (Nat.le_trans HW2.out.1 (by decide)) (by have:=HW2.out.2;omega) (by have:=HYL.out;omega))
   rw[←HCE.out] at HCALL
   go_wp2_with fail
   refine HCALL.out.mono ?_
   intro e v1 hres
   obtain⟨q1a,q1b,q1c,q1d,q1e,q1f,rfl,hb,hz0,hz1⟩:=ans_s hres
   obtain⟨BJ,HNJ⟩:∃ b,Hid (b=v1.heap.size):=⟨_,rfl⟩
   obtain⟨V1,HV1⟩:∃ W,Hid (W=v1.alloc (.cells #[.slice q1a q1b q1c,.slice q1d q1e q1f] 27)):=⟨_,rfl⟩
   have hb2:Below v1.heap.size v1 V1:=by rw[HV1.out];exact (Below.refl _ _).alloc (Nat.le_refl _) _
   have hk:Blk V1 BJ [.slice q1a q1b q1c,.slice q1d q1e q1f] 27:=by rw[HV1.out,HNJ.out];exact Blk.new v1 [.slice q1a q1b q1c,.slice q1d q1e q1f] _
   have HJ:=hid hk
   have HZ:Hid ((ce=0→zac (m+way.length) V1 (.agg #[.slice q1a q1b q1c,.slice q1d q1e q1f]) (zdj way x v))∧(ce≠0→zac 1 V1 (.agg #[.slice q1a q1b q1c,.slice q1d q1e q1f]) (ziG 0))):=⟨fun h=>(hz0 h).below hb2,fun h=>(hz1 h).below hb2⟩
   have hbb:=hb.trans (hb2.mono hb.size)
   have HB:=hid (HB.out.trans (hbb.mono HB.out.size))
   have HA:=hid (HA.out.below hbb)
   have HC:=hid (HC.out.below hbb)
   have HP:=hid (HP.out.below hbb)
   have HQ:=hid (HQ.out.below hbb)
   clear hres hb hb2 hz0 hz1 hk hbb HCALL p00 p01 p0l c0 c1 c2 c3 cl
   go_upto_region 7 with fail
   rw[←HV1.out,←HNJ.out]
   have p00:=HA.out.c0
   have p01:=HA.out.c1
   have p0l:=HA.out.lt
   have HCALL:=hid (alg_At (m:=m) (HS.out.below HB.out) root HA.out.msg (HIY.out.below HB.out) (Nat.le_trans HW2.out.1 (by decide)) (by have:=HYL.out;omega))
   rw[←HCA.out] at HCALL
   go_wp2_with fail
   refine HCALL.out.mono ?_
   rintro e v2 ⟨zq,z1a,z1b,z1c,z2a,z2b,z2c,z3a,z3b,z3c,rfl,hb,hval⟩
   obtain⟨BL,HNL⟩:∃ b,Hid (b=v2.heap.size):=⟨_,rfl⟩
   obtain⟨V2,HV2⟩:∃ W,Hid (W=v2.alloc (.cells #[.int .i64 zq,.slice z1a z1b z1c,.slice z2a z2b z2c,.slice z3a z3b z3c] 32)):=⟨_,rfl⟩
   obtain⟨hk,hb2⟩:=MV.new v2 hval 32
   rw[←HV2.out] at hk hb2
   rw[←HNL.out] at hk
   have hbb:=hb.trans (hb2.mono hb.size)
   have HJ2:=hid (HJ.out.below hbb)
   have HZ2:Hid ((ce=0→zac (m+way.length) V2 (.agg #[.slice q1a q1b q1c,.slice q1d q1e q1f]) (zdj way x v))∧(ce≠0→zac 1 V2 (.agg #[.slice q1a q1b q1c,.slice q1d q1e q1f]) (ziG 0))):=⟨fun h=>(HZ.out.1 h).below hbb,fun h=>(HZ.out.2 h).below hbb⟩
   have HB:=hid (HB.out.trans (hbb.mono HB.out.size))
   have HA:=hid (HA.out.below hbb)
   have HC:=hid (HC.out.below hbb)
   have HP:=hid (HP.out.below hbb)
   have HQ:=hid (HQ.out.below hbb)
   have HL:=hid hk
   clear hb hb2 hbb hk hval HCALL HJ HZ p00 p01 p0l
   go_upto_region 8 with fail
   rw[←HV2.out,←HNL.out]
   have p00:=HP.out.c0
   have p01:=HP.out.c1
   have p0l:=HP.out.lt
   obtain⟨may,HMC⟩:∃ c,Hid (c=zbv s root [zae s (m+way.length) root x]):=⟨_,rfl⟩
   obtain⟨V3,HV3⟩:∃ W,Hid (W=V2.alloc (.cells #[.slice p1 q1 r1,.slice p2 q2 r2] 38)):=⟨_,rfl⟩
   obtain⟨G,HG⟩:∃ G,Hid (G=V2.heap.size):=⟨_,rfl⟩
   have hb3:Below V2.heap.size V2 V3:=by rw[HV3.out];exact (Below.refl _ _).alloc (Nat.le_refl _) _
   have hg:Blk V3 G [.slice p1 q1 r1,.slice p2 q2 r2] 38:=by rw[HV3.out,HG.out];exact Blk.new V2 [.slice p1 q1 r1,.slice p2 q2 r2] _
   have HMAY:=hid (zn8 (HS.out.below (HB.out.trans (hb3.mono HB.out.size))) root (HP.out.msg.below hb3) (Nat.le_trans HW2.out.1 (by decide)) (hg.cell 0 _ rfl) (hg.cell 1 _ rfl))
   rw[←zle,←HMC.out] at HMAY
   clear hg
   go_wp2_with fail
   rw[←HV3.out,←HG.out]
   refine HMAY.out.mono ?_
   rintro e V4 ⟨rfl,hb4⟩
   have HB2:=hid (hb3.trans (hb4.mono hb3.size))
   clear hb3 hb4 HMAY HV3 HG p00 p01 p0l
   obtain⟨FB,HFB⟩:∃ b,Hid (b=V4.heap.size):=⟨_,rfl⟩
   obtain⟨V5,HV5⟩:∃ W,Hid (W=V4.alloc (.cells #[.string ⟨#[]⟩,.int .i64 0,.int .i64 0,.bool false,.bool false,.int .i64 0] 51)):=⟨_,rfl⟩
   have hb5:Below V4.heap.size V4 V5:=by rw[HV5.out];exact (Below.refl _ _).alloc (Nat.le_refl _) _
   have hf5:Blk V5 FB [.string ⟨#[]⟩,.int .i64 0,.int .i64 0,.bool false,.bool false,.int .i64 0] 51:=by rw[HV5.out,HFB.out];exact Blk.new V4 [.string ⟨#[]⟩,.int .i64 0,.int .i64 0,.bool false,.bool false,.int .i64 0] _
   have HFV:Hid (V2.heap.size≤FB):=by rw[HFB.out];exact HB2.out.size
   have HB2:=hid (HB2.out.trans (hb5.mono HB2.out.size))
   have HFX:=hid hf5
   clear hb5 hf5
   go_upto_region 10 with fail
   rw[←HV5.out,←HFB.out]
   have HCEU:Hid (ce=if may≠0 then may else if zcF s root way=false then 10 else if 0<zcD v∧zbp (zae s m) (zdm s root .zero way) v=false then 12 else 0):=by rw[Hid,HCE.out,HMC.out];rfl
   have HCAU:Hid (ca=if may≠0 then may else if zcF s root way=false then 10 else if (atM way x).isSome=true then 0 else 11):=by rw[Hid,HCA.out,HMC.out];rfl
   have HAV:Hid (atV s root way x=if ca=0 then (atM way x).getD .zero else .zero):=by rw[Hid,HCA.out];rfl
   have HC12:Hid (may≤12∧ce≤12∧ca≤12):=by
    rw[HCE.out,HCA.out,HMC.out]
    exact⟨zc0 _ _ _,zmZ _ _ _ _ _,zoB _ _ _ _⟩
   have HMZ:Hid (may=0→zaC s=true∧∃ r:Nat,root=r∧r<s.length∧zae s (m+way.length) (r:Int) x=true):=fun h=>by
    obtain⟨g1,g2,g3,g4⟩:=zfi (HMC.out.symm.trans h)
    obtain⟨r,rfl⟩:∃ r:Nat,root=r:=⟨root.toNat,by omega⟩
    exact⟨g1,r,rfl,by omega,by simpa using g4⟩
   clear HCE HCA HMC HV2 HNL HV1 HNJ HA HC
   by_cases hm0:may=0
   ·
    obtain⟨hsr,r,rfl,hrl,hrx⟩:=HMZ.out hm0
    have hmb:((may:Int) == 0)=true:=by simpa using hm0
    have HM0:=hid hm0
    have HRX:=hid (And.intro hsr (And.intro hrl hrx))
    have HLA:=hid (zmW (HS.out.below (HB.out.trans (HB2.out.mono HB.out.size))) hsr r hrl (HIY.out.below (HB.out.trans (HB2.out.mono HB.out.size))) (by have:=HYL.out;omega))
    clear hsr hrl hrx hm0
    go_wp2_with fail
    refine HLA.out.mono ?_
    intro e v6 hla
    obtain⟨hb6,f,rfl,hf⟩:=zpr hla
    have HFE:=hid hf
    have HB2:=hid (HB2.out.trans (hb6.mono HB2.out.size))
    have hfx:=HFX.out.below hb6
    obtain⟨fname,fnumber,fkind,frep,fpacked,fof⟩:=f
    have s0:=hfx.cell 0 _ rfl
    have s1:=hfx.cell 1 _ rfl
    have s2:=hfx.cell 2 _ rfl
    have s3:=hfx.cell 3 _ rfl
    have s4:=hfx.cell 4 _ rfl
    have s5:=hfx.cell 5 _ rfl
    have g0:=hfx.free 0
    have g1:=hfx.free 1
    have g2:=hfx.free 2
    have g3:=hfx.free 3
    have g4:=hfx.free 4
    have g5:=hfx.free 5
    have gl:=hfx.lt
    have hFV:=HFV.out
    obtain⟨V6,HV6⟩:∃ W,Hid (W=(((((v6.setCell ⟨FB,0,none⟩ (.string fname)).setCell ⟨FB,1,none⟩ (.int .i64 fnumber)).setCell ⟨FB,2,none⟩ (.int .i64 fkind)).setCell ⟨FB,3,none⟩ (.bool frep)).setCell ⟨FB,4,none⟩ (.bool fpacked)).setCell ⟨FB,5,none⟩ (.int .i64 fof)):=⟨_,rfl⟩
    have HFX:Hid (Blk V6 FB [.string fname,.int .i64 fnumber,.int .i64 fkind,.bool frep,.bool fpacked,.int .i64 fof] 51):=by rw[HV6.out];exact (((((hfx.set 0 (.string fname)).set 1 (.int .i64 fnumber)).set 2 (.int .i64 fkind)).set 3 (.bool frep)).set 4 (.bool fpacked)).set 5 (.int .i64 fof)
    have HB2:Hid (Below V2.heap.size V2 V6):=by rw[HV6.out];exact (((((HB2.out.setCell hFV _).setCell hFV _).setCell hFV _).setCell hFV _).setCell hFV _).setCell hFV _
    clear hla hb6 hf hfx hFV HLA
    simp only[Fld.val]
    obtain⟨wo,HWO⟩:∃ b,Hid (b=zcF s (r:Int) way):=⟨_,rfl⟩
    rw[←HWO.out] at HFE ⊢
    cases wo with
    | false =>
     have HCV:Hid (ce=10):=by rw[Hid,HCEU.out,if_neg (by have:=HM0.out;omega),if_pos HWO.out.symm]
     have HAVV:Hid (ca=10):=by rw[Hid,HCAU.out,if_neg (by have:=HM0.out;omega),if_pos HWO.out.symm]
     have HCN:Hid (ce≠0):=by rw[HCV.out];show 10≠0;decide
     have HCN2:Hid (ca≠0):=by rw[HAVV.out];show 10≠0;decide
     go_upto_region 12 with fail
     rw[←HV6.out]
     clear s0 s1 s2 s3 s4 s5 g0 g1 g2 g3 g4 g5 gl
     go_upto_region 17 with fail
     obtain⟨WX,HWX⟩:∃ b,Hid (b=V6.heap.size):=⟨_,rfl⟩
     obtain⟨V7,HV7⟩:∃ W,Hid (W=V6.alloc (.cells #[.int .i64 0,.slice none 0 0,.slice none 0 0,.slice none 0 0] 42)):=⟨_,rfl⟩
     have hbw:Below V6.heap.size V6 V7:=by rw[HV7.out];exact (Below.refl _ _).alloc (Nat.le_refl _) _
     have hkw:Blk V7 WX [.int .i64 0,.slice none 0 0,.slice none 0 0,.slice none 0 0] 42:=by rw[HV7.out,HWX.out];exact Blk.new V6 [.int .i64 0,.slice none 0 0,.slice none 0 0,.slice none 0 0] _
     have HWV:Hid (V2.heap.size≤WX):=by rw[HWX.out];exact HB2.out.size
     have HB2:=hid (HB2.out.trans (hbw.mono HB2.out.size))
     clear HFX
     go_upto_region 18 with fail
     rw[←HV7.out,←HWX.out]
     have HWK:=hid hkw
     have HWW:Hid (zat (zac m) V7 (.agg #[.int .i64 0,.slice none 0 0,.slice none 0 0,.slice none 0 0]) (atV s (r:Int) way x)):=by
      rw[HAV.out,if_neg HCN2.out]
      exact zfn _ _
     have HAW:Hid (vwt (mwt m) (atV s (r:Int) way x)≤1099511627776):=by
      rw[HAV.out,if_neg HCN2.out]
      show 1+0+0+0≤1099511627776
      omega
     clear hbw hkw
     have hL:=HL.out.below HB2.out
     have HLV:=hid hL.val
     have HCL:=HC12.out
     have hw1:IntKind.i64.wrap (ce:Int)=ce:=IntWalk.i64_in _ (by omega)
     have hw2:IntKind.i64.wrap (ca:Int)=ca:=IntWalk.i64_in _ (by omega)
     have he1:((ce:Int) != 10)=false:=by first|(simp;done)|(have h:=HCV.out;have hm':=HM0.out;simp;omega)
     have he2:((ca:Int) != 10)=false:=by first|(simp;done)|(have h:=HAVV.out;have hm':=HM0.out;simp;omega)
     have HVA:Hid (Below V7.heap.size V7 V7∧V7.cell? ⟨BL,0,none⟩=some (.int .i64 zq)∧V7.cell? ⟨BL,1,none⟩=some (.slice z1a z1b z1c)∧V7.cell? ⟨BL,2,none⟩=some (.slice z2a z2b z2c)∧V7.cell? ⟨BL,3,none⟩=some (.slice z3a z3b z3c)∧V7.cell? ⟨WX,0,none⟩=some (.int .i64 0)∧V7.cell? ⟨WX,1,none⟩=some (.slice none 0 0)∧V7.cell? ⟨WX,2,none⟩=some (.slice none 0 0)∧V7.cell? ⟨WX,3,none⟩=some (.slice none 0 0)):=⟨Below.refl _ _,hL.c0,hL.c1,hL.c2,hL.c3,HWK.out.cell 0 _ rfl,HWK.out.cell 1 _ rfl,HWK.out.cell 2 _ rfl,HWK.out.cell 3 _ rfl⟩
     clear hL HCL
     go_upto_region 22 with fail
     refine zaY (fun w'=>Below V7.heap.size V7 w'∧w'.cell? ⟨BL,0,none⟩=some (.int .i64 zq)∧w'.cell? ⟨BL,1,none⟩=some (.slice z1a z1b z1c)∧w'.cell? ⟨BL,2,none⟩=some (.slice z2a z2b z2c)∧w'.cell? ⟨BL,3,none⟩=some (.slice z3a z3b z3c)∧w'.cell? ⟨WX,0,none⟩=some (.int .i64 0)∧w'.cell? ⟨WX,1,none⟩=some (.slice none 0 0)∧w'.cell? ⟨WX,2,none⟩=some (.slice none 0 0)∧w'.cell? ⟨WX,3,none⟩=some (.slice none 0 0)) (fun _=>True) 12 [(0,0,0),(1,0,0),(2,0,0),(3,0,0),(4,0,0),(5,4,117),(6,4,117),(7,4,117),(8,4,117),(9,0,0),(10,0,0),(11,4,123),(13,4,123),(12,6,123),(14,6,123),(15,4,123),(16,0,0)] (by kernel_rfl) rfl rfl (by kernel_rfl) (fun _ _ dst _ _ h=>by cases dst <;> exact h) ⟨HVA.out.1.drew,HVA.out.2⟩ trivial (fun OPS _=>?_)
     simp only[List.map_cons,List.map_nil,List.filterMap_cons,List.filterMap_nil,List.getElem?_cons_succ,List.getElem?_cons_zero]
     have HVA:Hid (Below V7.heap.size V7 V7.drew∧V7.drew.cell? ⟨BL,0,none⟩=some (.int .i64 zq)∧V7.drew.cell? ⟨BL,1,none⟩=some (.slice z1a z1b z1c)∧V7.drew.cell? ⟨BL,2,none⟩=some (.slice z2a z2b z2c)∧V7.drew.cell? ⟨BL,3,none⟩=some (.slice z3a z3b z3c)∧V7.drew.cell? ⟨WX,0,none⟩=some (.int .i64 0)∧V7.drew.cell? ⟨WX,1,none⟩=some (.slice none 0 0)∧V7.drew.cell? ⟨WX,2,none⟩=some (.slice none 0 0)∧V7.drew.cell? ⟨WX,3,none⟩=some (.slice none 0 0)):=⟨HVA.out.1.drew,HVA.out.2⟩
     refine zaF (v:=?v0) ?hy0 ?hr0
     case hy0=>(intro w hw;go_simp;all_goals rfl)
     simp only[Act.put,pzC,pzD,pzE]
     refine zaF (v:=?v1) ?hy1 ?hr1
     case hy1=>(intro w hw;go_simp;all_goals rfl)
     simp only[Act.put,pzC,pzD,pzE]
     refine zaF (v:=?v2) ?hy2 ?hr2
     case hy2=>(intro w hw;go_simp;all_goals rfl)
     simp only[Act.put,pzC,pzD,pzE]
     refine zaF (v:=?v3) ?hy3 ?hr3
     case hy3=>(intro w hw;go_simp;all_goals rfl)
     simp only[Act.put,pzC,pzD,pzE]
     refine zaF (v:=?v4) ?hy4 ?hr4
     case hy4=>(intro w hw;go_simp;all_goals rfl)
     simp only[Act.put,pzC,pzD,pzE]
     refine zbq (v:=?v5) ?ht5 ?hy5 ?hr5
     case ht5=>rfl
     case hy5=>(intro w hw;go_simp;all_goals rfl)
     simp only[Act.put,pzC,pzD,pzE]
     refine zbq (v:=?v6) ?ht6 ?hy6 ?hr6
     case ht6=>rfl
     case hy6=>(intro w hw;go_simp;all_goals rfl)
     simp only[Act.put,pzC,pzD,pzE]
     refine zbq (v:=?v7) ?ht7 ?hy7 ?hr7
     case ht7=>rfl
     case hy7=>(intro w hw;go_simp;all_goals rfl)
     simp only[Act.put,pzC,pzD,pzE]
     refine zbq (v:=?v8) ?ht8 ?hy8 ?hr8
     case ht8=>rfl
     case hy8=>(intro w hw;go_simp;all_goals rfl)
     simp only[Act.put,pzC,pzD,pzE]
     refine zaF (v:=?v9) ?hy9 ?hr9
     case hy9=>(intro w hw;go_simp;all_goals rfl)
     simp only[Act.put,pzC,pzD,pzE]
     refine zaF (v:=?v10) ?hy10 ?hr10
     case hy10=>(intro w hw;go_simp;all_goals rfl)
     simp only[Act.put,pzC,pzD,pzE]
     refine zbq (v:=?v11) ?ht11 ?hy11 ?hr11
     case ht11=>rfl
     case hy11=>(intro w hw;go_simp;all_goals rfl)
     simp only[Act.put,pzC,pzD,pzE]
     refine zbq (v:=?v12) ?ht12 ?hy12 ?hr12
     case ht12=>rfl
     case hy12=>(intro w hw;go_simp;all_goals rfl)
     simp only[Act.put,pzC,pzD,pzE]
     refine zf7 (by rfl) (fun K12 HK12=>?_)
     go_wp2_with fail
     refine (zbN (VMsg.below HLV.out HVA.out.1) HAW.out).mono ?_
     rintro e u1 ⟨v1',rfl,hb,hM⟩
     obtain⟨fq,f1,g1,h1,f2,g2,h2,f3,g3,h3,rfl⟩:=hM.form
     have HMV:=hid hM
     have HVA:Hid (Below V7.heap.size V7 u1∧u1.cell? ⟨BL,0,none⟩=some (.int .i64 zq)∧u1.cell? ⟨BL,1,none⟩=some (.slice z1a z1b z1c)∧u1.cell? ⟨BL,2,none⟩=some (.slice z2a z2b z2c)∧u1.cell? ⟨BL,3,none⟩=some (.slice z3a z3b z3c)∧u1.cell? ⟨WX,0,none⟩=some (.int .i64 0)∧u1.cell? ⟨WX,1,none⟩=some (.slice none 0 0)∧u1.cell? ⟨WX,2,none⟩=some (.slice none 0 0)∧u1.cell? ⟨WX,3,none⟩=some (.slice none 0 0)):=⟨HVA.out.1.trans (hb.mono HVA.out.1.size),⟨zaa hb _ _ HVA.out.2.1,zaa hb _ _ HVA.out.2.2.1,zaa hb _ _ HVA.out.2.2.2.1,zaa hb _ _ HVA.out.2.2.2.2.1,zaa hb _ _ HVA.out.2.2.2.2.2.1,zaa hb _ _ HVA.out.2.2.2.2.2.2.1,zaa hb _ _ HVA.out.2.2.2.2.2.2.2.1,zaa hb _ _ HVA.out.2.2.2.2.2.2.2.2⟩⟩
     clear hb hM
     go_wp2_with fail
     refine HK12.out _ _ HVA.out ?_
     clear HK12 K12
     intro _
     refine zf7 (by rfl) (fun K12 HK12=>?_)
     go_wp2_with fail
     refine (zaL (zbi m) HMV.out (VMsg.below HWW.out HVA.out.1)).mono ?_
     rintro e u2 ⟨rfl,hb⟩
     have HVA:Hid (Below V7.heap.size V7 u2∧u2.cell? ⟨BL,0,none⟩=some (.int .i64 zq)∧u2.cell? ⟨BL,1,none⟩=some (.slice z1a z1b z1c)∧u2.cell? ⟨BL,2,none⟩=some (.slice z2a z2b z2c)∧u2.cell? ⟨BL,3,none⟩=some (.slice z3a z3b z3c)∧u2.cell? ⟨WX,0,none⟩=some (.int .i64 0)∧u2.cell? ⟨WX,1,none⟩=some (.slice none 0 0)∧u2.cell? ⟨WX,2,none⟩=some (.slice none 0 0)∧u2.cell? ⟨WX,3,none⟩=some (.slice none 0 0)):=⟨HVA.out.1.trans (hb.mono HVA.out.1.size),⟨zaa hb _ _ HVA.out.2.1,zaa hb _ _ HVA.out.2.2.1,zaa hb _ _ HVA.out.2.2.2.1,zaa hb _ _ HVA.out.2.2.2.2.1,zaa hb _ _ HVA.out.2.2.2.2.2.1,zaa hb _ _ HVA.out.2.2.2.2.2.2.1,zaa hb _ _ HVA.out.2.2.2.2.2.2.2.1,zaa hb _ _ HVA.out.2.2.2.2.2.2.2.2⟩⟩
     clear hb HMV
     go_wp2_with fail
     refine HK12.out _ _ HVA.out ?_
     clear HK12 K12
     intro _
     refine zbq (v:=?v16) ?ht16 ?hy16 ?hr16
     case ht16=>rfl
     case hy16=>(intro w hw;go_simp;all_goals rfl)
     simp only[Act.put,pzC,pzD,pzE]
     refine zaF (v:=?v17) ?hy17 ?hr17
     case hy17=>(intro w hw;go_simp;all_goals rfl)
     simp only[Act.put,pzC,pzD,pzE]
     refine zbQ ?_
     have HB2:=hid (HB2.out.trans (HVA.out.1.mono HB2.out.size))
     have hj:=HJ2.out.below HB2.out
     have j0:=hj.cell 0 _ rfl
     have j1:=hj.cell 1 _ rfl
     have jl:=hj.lt
     clear hj hw1 hw2 he1 he2
     have hzm:=(HZ2.out.2 HCN.out).below HB2.out
     have HOF:=hid (zeA hzm (by decide +kernel))
     have hcn:(10 != 0)=true:=by first|decide|(simpa using HCN.out)
     clear hzm
     go_wp2_with fail
     refine HOF.out.mono ?_
     rintro e u3 ⟨v3,rfl,hb3,hM3⟩
     obtain⟨f1,g1,h1,f2,g2,h2,rfl⟩:=hM3.form
     have HSM:=hid (zbi 1 u3 _ _ _ hM3 (zeh u3 0))
     have HB2:=hid (HB2.out.trans (hb3.mono HB2.out.size))
     clear hb3 hM3 HOF j0 j1 jl
     go_wp2_with fail
     refine HSM.out.mono ?_
     rintro e u4 ⟨rfl,hb4⟩
     have HE:=hid (HB.out.trans ((HB2.out.trans (hb4.mono HB2.out.size)).mono HB.out.size))
     clear hb4 HSM
     go_wp2_with fail
     go_ret
     exact⟨by simp,HE.out⟩
    | true =>
     have HCV:Hid (ce=if 0<zcD v∧zbp (zae s m) (zdm s (r:Int) .zero way) v=false then 12 else 0):=by rw[Hid,HCEU.out,if_neg (by have:=HM0.out;omega),if_neg (by rw[←HWO.out];simp)]
     have HAVV:Hid (ca=if (atM way x).isSome=true then 0 else 11):=by rw[Hid,HCAU.out,if_neg (by have:=HM0.out;omega),if_neg (by rw[←HWO.out];simp)]
     rw[←HFE.out rfl] at HCV
     obtain⟨ns,hns⟩:=zcn HWO.out.symm
     have HSOK:=hid (zc6 HRX.out.1 way r x ns HRX.out.2.1 hns HRX.out.2.2)
     have HNEW:=hid (zgx HWO.out.symm)
     obtain⟨mv,HMV0⟩:∃ q,Hid (q=q3+q4+q5):=⟨_,rfl⟩
     have HQL:Hid (q3=v.words.length∧q4=v.texts.length∧q5=v.subs.length∧q3≤140737488355328∧q4≤140737488355328∧q5≤140737488355328):=by
      obtain⟨_,_,_,e,-,h1,h2,h3⟩:=HQ.out.val
      obtain⟨l1,_,_,e1,-⟩:=h1.open
      obtain⟨l2,_,_,e2,-⟩:=h2.open
      obtain⟨l3,_,_,e3,-⟩:=h3.open
      cases e
      have g1:=(Value.slice.inj e1).2.1
      have g2:=(Value.slice.inj e2).2.1
      have g3:=(Value.slice.inj e3).2.1
      exact⟨g1,g2,g3,by omega,by omega,by omega⟩
     have HMM:Hid (mv=zcD v):=by rw[Hid,HMV0.out,HQL.out.1,HQL.out.2.1,HQL.out.2.2.1];rfl
     rw[←HMM.out] at HCV
     obtain⟨fit,HFIT0⟩:∃ b,Hid (b=zbp (zae s m) ⟨fname,fnumber,fkind,frep,fpacked,fof⟩ v):=⟨_,rfl⟩
     rw[←HFIT0.out] at HCV
     have HMY:Hid (∀ W,Calls Tryz.prog 13 #[.agg #[.int .i64 vz,.slice p3 q3 r3,.slice p4 q4 r4,.slice p5 q5 r5]] W fun e w'=>e= .returned (.int .i64 (mv:Int))∧Below W.heap.size W w'):=fun W=>by rw[HMV0.out];exact zdu vz p3 p4 p5 q3 q4 q5 r3 r4 r5 HQL.out.2.2.2.1 HQL.out.2.2.2.2.1 HQL.out.2.2.2.2.2 W
     have HFT:Hid (∀ W,Below V2.heap.size V2 W→Calls Tryz.prog 14 #[.slice sa sn sc,.agg #[.string fname,.int .i64 fnumber,.int .i64 fkind,.bool frep,.bool fpacked,.int .i64 fof],.agg #[.int .i64 vz,.slice p3 q3 r3,.slice p4 q4 r4,.slice p5 q5 r5]] W fun e w'=>e= .returned (.bool fit)∧Below W.heap.size W w'):=fun W hW=>by
      rw[HFIT0.out]
      exact zig (zdT HRX.out.1 m) W ⟨fname,fnumber,fkind,frep,fpacked,fof⟩ _ _ v (HS.out.below (HB.out.trans (hW.mono HB.out.size))) (VMsg.below HQ.out.val hW) (by have:=HW2.out.2;omega)
     obtain⟨bad,HBAD⟩:∃ b,Hid (b=decide (0<mv∧fit=false)):=⟨_,rfl⟩
     clear hns
     go_upto_region 12 with fail
     rw[←HV6.out]
     clear s0 s1 s2 s3 s4 s5 g0 g1 g2 g3 g4 g5 gl
     have hq:=HQ.out.below HB2.out
     have v0:=hq.c0
     have v1':=hq.c1
     have v2':=hq.c2
     have v3':=hq.c3
     have vl:=hq.lt
     have HQ6:=hid hq
     clear hq
     go_upto_region 15 with fail
     go_cut [97] from 84 to 96 (fun s97 wx=>s97= .bool bad∧Hid (Below V6.heap.size V6 wx))
     case first =>
      clear HZ2 HJ2 HL HP HAV HCAU HCEU HMZ HCV HAVV HSOK HNEW HW2
      by_cases hm:mv=0
      ·
       have HBE:Hid (bad=false):=by rw[Hid,HBAD.out,decide_eq_false];omega
       have HMY0:=hid (HMY.out V6)
       rw[hm,show ((0:Nat):Int)=0 from rfl] at HMY0
       clear hm HMY
       go_wp2_with (go_at_call 13;refine HMY0.out.mono ?_;rintro e w7 ⟨rfl,hb7⟩)
       go_meet
       case rel=>exact⟨by rw[HBE.out],hb7⟩
      ·
       have hgt:0<mv:=Nat.pos_of_ne_zero hm
       have HBE:Hid (bad= !fit):=by
        rw[Hid,HBAD.out]
        cases fit with
        | true=>exact decide_eq_false (by simp)
        | false=>exact decide_eq_true ⟨hgt,rfl⟩
       clear hm
       go_wp2_with (first
        | (go_at_call 13;refine (HMY.out V6).mono ?_;rintro e w7 ⟨rfl,hb7⟩;have hf7:=HFX.out.below hb7;have hv7:=HQ6.out.below hb7;have HB7:=hid (HB2.out.trans (hb7.mono HB2.out.size));have e0:=hf7.cell 0 _ rfl;have e1:=hf7.cell 1 _ rfl;have e2:=hf7.cell 2 _ rfl;have e3:=hf7.cell 3 _ rfl;have e4:=hf7.cell 4 _ rfl;have e5:=hf7.cell 5 _ rfl;have el:=hf7.lt;have u0:=hv7.c0;have u1:=hv7.c1;have u2:=hv7.c2;have u3:=hv7.c3;have ul:=hv7.lt)
        | (go_at_call 14;refine (HFT.out w7 HB7.out).mono ?_;rintro e w8 ⟨rfl,hb8⟩))
       go_meet
       case rel=>exact⟨by rw[HBE.out],hb7.trans (hb8.mono hb7.size)⟩
     case rest =>
      obtain⟨rfl,HC7⟩:=hcut
      have HB2:=hid (HB2.out.trans (HC7.out.mono HB2.out.size))
      clear HC7 v0 v1' v2' v3' vl HQ6 HFX HMY HFT
      cases bad with
      | true =>
       have hbd:0<mv∧fit=false:=of_decide_eq_true HBAD.out.symm
       have HCV:Hid (ce=12):=by rw[Hid,HCV.out,if_pos hbd]
       have HCN:Hid (ce≠0):=by rw[HCV.out];show 12≠0;decide
       clear hbd
       go_upto_region 17 with fail
       obtain⟨WX,HWX⟩:∃ b,Hid (b=wc.heap.size):=⟨_,rfl⟩
       obtain⟨V8,HV8⟩:∃ W,Hid (W=wc.alloc (.cells #[.int .i64 0,.slice none 0 0,.slice none 0 0,.slice none 0 0] 42)):=⟨_,rfl⟩
       have hbw:Below wc.heap.size wc V8:=by rw[HV8.out];exact (Below.refl _ _).alloc (Nat.le_refl _) _
       have hkw:Blk V8 WX [.int .i64 0,.slice none 0 0,.slice none 0 0,.slice none 0 0] 42:=by rw[HV8.out,HWX.out];exact Blk.new wc [.int .i64 0,.slice none 0 0,.slice none 0 0,.slice none 0 0] _
       have HWV:Hid (V2.heap.size≤WX):=by rw[HWX.out];exact HB2.out.size
       have HB2:=hid (HB2.out.trans (hbw.mono HB2.out.size))
       clear hbw
       go_upto_region 18 with fail
       rw[←HV8.out,←HWX.out]
       have HAT:=hid (zhz (m+way.length) V2 V8 _ _ x way HB2.out HP.out.msg (HIY.out.below (HB.out.trans (HB2.out.mono HB.out.size))) (zlg way x HNEW.out HSOK.out))
       obtain⟨th,HTH⟩:∃ b,Hid (b=(atM way x).isSome):=⟨_,rfl⟩
       unfold zgy at HAT
       rw[zi8 way x HNEW.out,←HTH.out] at HAT
       rw[←HTH.out] at HAVV
       have hp:=HP.out.below HB2.out
       have x0:=hp.c0
       have x1:=hp.c1
       have xl:=hp.lt
       have HKW:=hid hkw
       clear hkw hp
       go_wp2_with fail
       refine HAT.out.mono ?_
       rintro e v9 ⟨wq,w1,w2n,w3n,w4,w5n,w6n,w7,w8n,w9n,rfl,hb9,hval,hnil⟩
       have hk9:=HKW.out.below hb9
       have HB9:=hid (HB2.out.trans (hb9.mono HB2.out.size))
       obtain⟨hks,hbut⟩:=zqf (a:=.int .i64 wq) (b:=.slice w1 w2n w3n) (e:=.slice w4 w5n w6n) (f:=.slice w7 w8n w9n) hk9
       obtain⟨V9,HV9⟩:∃ W,Hid (W=(((v9.setCell ⟨WX,0,none⟩ (.int .i64 wq)).setCell ⟨WX,1,none⟩ (.slice w1 w2n w3n)).setCell ⟨WX,2,none⟩ (.slice w4 w5n w6n)).setCell ⟨WX,3,none⟩ (.slice w7 w8n w9n)):=⟨_,rfl⟩
       rw[←HV9.out] at hks hbut
       have HWK:=hid hks
       have HB2:=hid (HB9.out.trans (hbut.to_below HWV.out HB9.out.size))
       have HWW:Hid (zat (zac m) V9 (.agg #[.int .i64 wq,.slice w1 w2n w3n,.slice w4 w5n w6n,.slice w7 w8n w9n]) (atV s (r:Int) way x)):=by
        rw[HAV.out]
        cases ho:atM way x with
        | none =>
         have h1:th=false:=by rw[HTH.out,ho];rfl
         rw[if_neg (by rw[HAVV.out,h1];simp)]
         obtain⟨rfl,⟨rfl,rfl,rfl⟩,⟨rfl,rfl,rfl⟩,rfl,rfl,rfl⟩:=hnil h1
         exact zfn _ _
        | some u =>
         have h1:th=true:=by rw[HTH.out,ho];rfl
         rw[if_pos (by rw[HAVV.out,h1];rfl)]
         exact VMsg.below (hval m u (zlf way x u ho)) HB2.out
       have HAW:Hid (vwt (mwt m) (atV s (r:Int) way x)≤1099511627776):=by
        rw[HAV.out]
        split
        ·
         cases ho:atM way x with
         | none=>show 1+0+0+0≤1099511627776;omega
         | some u=>exact Nat.le_trans (zoA way x u HSOK.out ho) (Nat.le_trans HW2.out.1 (by decide))
        ·
         show 1+0+0+0≤1099511627776
         omega
       have t0:=hk9.cell 0 _ rfl
       have t1:=hk9.cell 1 _ rfl
       have t2:=hk9.cell 2 _ rfl
       have t3:=hk9.cell 3 _ rfl
       have tf0:=hk9.free 0
       have tf1:=hk9.free 1
       have tf2:=hk9.free 2
       have tf3:=hk9.free 3
       have tl:=hk9.lt
       clear hk9 hks hbut hb9 hval hnil HAT HKW HB9 x0 x1 xl
       go_upto_region 20 with fail
       rw[←HV9.out]
       clear t0 t1 t2 t3 tf0 tf1 tf2 tf3 tl
       have HCVM:Hid ((may:Int)=0):=by have:=HM0.out;show (may:Int)=0;omega
       cases th with
       | true =>
        have HAVV:Hid (ca=0):=HAVV.out
        have hL:=HL.out.below HB2.out
        have HLV:=hid hL.val
        have HCL:=HC12.out
        have hw1:IntKind.i64.wrap (ce:Int)=ce:=IntWalk.i64_in _ (by omega)
        have hw2:IntKind.i64.wrap (ca:Int)=ca:=IntWalk.i64_in _ (by omega)
        have he1:((ce:Int) != 12)=false:=by first|(simp;done)|(have h:=HCV.out;have hm':=HM0.out;simp;omega)
        have he2:((ca:Int) != (may:Int))=false:=by first|(simp;done)|(have h:=HAVV.out;have hm':=HM0.out;simp;omega)
        have HVA:Hid (Below V9.heap.size V9 V9∧V9.cell? ⟨BL,0,none⟩=some (.int .i64 zq)∧V9.cell? ⟨BL,1,none⟩=some (.slice z1a z1b z1c)∧V9.cell? ⟨BL,2,none⟩=some (.slice z2a z2b z2c)∧V9.cell? ⟨BL,3,none⟩=some (.slice z3a z3b z3c)∧V9.cell? ⟨WX,0,none⟩=some (.int .i64 wq)∧V9.cell? ⟨WX,1,none⟩=some (.slice w1 w2n w3n)∧V9.cell? ⟨WX,2,none⟩=some (.slice w4 w5n w6n)∧V9.cell? ⟨WX,3,none⟩=some (.slice w7 w8n w9n)):=⟨Below.refl _ _,hL.c0,hL.c1,hL.c2,hL.c3,HWK.out.cell 0 _ rfl,HWK.out.cell 1 _ rfl,HWK.out.cell 2 _ rfl,HWK.out.cell 3 _ rfl⟩
        clear hL HCL
        go_upto_region 22 with fail
        refine zaY (fun w'=>Below V9.heap.size V9 w'∧w'.cell? ⟨BL,0,none⟩=some (.int .i64 zq)∧w'.cell? ⟨BL,1,none⟩=some (.slice z1a z1b z1c)∧w'.cell? ⟨BL,2,none⟩=some (.slice z2a z2b z2c)∧w'.cell? ⟨BL,3,none⟩=some (.slice z3a z3b z3c)∧w'.cell? ⟨WX,0,none⟩=some (.int .i64 wq)∧w'.cell? ⟨WX,1,none⟩=some (.slice w1 w2n w3n)∧w'.cell? ⟨WX,2,none⟩=some (.slice w4 w5n w6n)∧w'.cell? ⟨WX,3,none⟩=some (.slice w7 w8n w9n)) (fun _=>True) 12 [(0,0,0),(1,0,0),(2,0,0),(3,0,0),(4,0,0),(5,4,117),(6,4,117),(7,4,117),(8,4,117),(9,0,0),(10,0,0),(11,4,123),(13,4,123),(12,6,123),(14,6,123),(15,4,123),(16,0,0)] (by kernel_rfl) rfl rfl (by kernel_rfl) (fun _ _ dst _ _ h=>by cases dst <;> exact h) ⟨HVA.out.1.drew,HVA.out.2⟩ trivial (fun OPS _=>?_)
        simp only[List.map_cons,List.map_nil,List.filterMap_cons,List.filterMap_nil,List.getElem?_cons_succ,List.getElem?_cons_zero]
        have HVA:Hid (Below V9.heap.size V9 V9.drew∧V9.drew.cell? ⟨BL,0,none⟩=some (.int .i64 zq)∧V9.drew.cell? ⟨BL,1,none⟩=some (.slice z1a z1b z1c)∧V9.drew.cell? ⟨BL,2,none⟩=some (.slice z2a z2b z2c)∧V9.drew.cell? ⟨BL,3,none⟩=some (.slice z3a z3b z3c)∧V9.drew.cell? ⟨WX,0,none⟩=some (.int .i64 wq)∧V9.drew.cell? ⟨WX,1,none⟩=some (.slice w1 w2n w3n)∧V9.drew.cell? ⟨WX,2,none⟩=some (.slice w4 w5n w6n)∧V9.drew.cell? ⟨WX,3,none⟩=some (.slice w7 w8n w9n)):=⟨HVA.out.1.drew,HVA.out.2⟩
        refine zaF (v:=?v21) ?hy21 ?hr21
        case hy21=>(intro w hw;go_simp;all_goals rfl)
        simp only[Act.put,pzC,pzD,pzE]
        refine zaF (v:=?v22) ?hy22 ?hr22
        case hy22=>(intro w hw;go_simp;all_goals rfl)
        simp only[Act.put,pzC,pzD,pzE]
        refine zaF (v:=?v23) ?hy23 ?hr23
        case hy23=>(intro w hw;go_simp;all_goals rfl)
        simp only[Act.put,pzC,pzD,pzE]
        refine zaF (v:=?v24) ?hy24 ?hr24
        case hy24=>(intro w hw;go_simp;all_goals rfl)
        simp only[Act.put,pzC,pzD,pzE]
        refine zaF (v:=?v25) ?hy25 ?hr25
        case hy25=>(intro w hw;go_simp;all_goals rfl)
        simp only[Act.put,pzC,pzD,pzE]
        refine zbq (v:=?v26) ?ht26 ?hy26 ?hr26
        case ht26=>rfl
        case hy26=>(intro w hw;go_simp;all_goals rfl)
        simp only[Act.put,pzC,pzD,pzE]
        refine zbq (v:=?v27) ?ht27 ?hy27 ?hr27
        case ht27=>rfl
        case hy27=>(intro w hw;go_simp;all_goals rfl)
        simp only[Act.put,pzC,pzD,pzE]
        refine zbq (v:=?v28) ?ht28 ?hy28 ?hr28
        case ht28=>rfl
        case hy28=>(intro w hw;go_simp;all_goals rfl)
        simp only[Act.put,pzC,pzD,pzE]
        refine zbq (v:=?v29) ?ht29 ?hy29 ?hr29
        case ht29=>rfl
        case hy29=>(intro w hw;go_simp;all_goals rfl)
        simp only[Act.put,pzC,pzD,pzE]
        refine zaF (v:=?v30) ?hy30 ?hr30
        case hy30=>(intro w hw;go_simp;all_goals rfl)
        simp only[Act.put,pzC,pzD,pzE]
        refine zaF (v:=?v31) ?hy31 ?hr31
        case hy31=>(intro w hw;go_simp;all_goals rfl)
        simp only[Act.put,pzC,pzD,pzE]
        refine zbq (v:=?v32) ?ht32 ?hy32 ?hr32
        case ht32=>rfl
        case hy32=>(intro w hw;go_simp;all_goals rfl)
        simp only[Act.put,pzC,pzD,pzE]
        refine zbq (v:=?v33) ?ht33 ?hy33 ?hr33
        case ht33=>rfl
        case hy33=>(intro w hw;go_simp;all_goals rfl)
        simp only[Act.put,pzC,pzD,pzE]
        refine zf7 (by rfl) (fun K12 HK12=>?_)
        go_wp2_with fail
        refine (zbN (VMsg.below HLV.out HVA.out.1) HAW.out).mono ?_
        rintro e u1 ⟨v1',rfl,hb,hM⟩
        obtain⟨fq,f1,g1,h1,f2,g2,h2,f3,g3,h3,rfl⟩:=hM.form
        have HMV:=hid hM
        have HVA:Hid (Below V9.heap.size V9 u1∧u1.cell? ⟨BL,0,none⟩=some (.int .i64 zq)∧u1.cell? ⟨BL,1,none⟩=some (.slice z1a z1b z1c)∧u1.cell? ⟨BL,2,none⟩=some (.slice z2a z2b z2c)∧u1.cell? ⟨BL,3,none⟩=some (.slice z3a z3b z3c)∧u1.cell? ⟨WX,0,none⟩=some (.int .i64 wq)∧u1.cell? ⟨WX,1,none⟩=some (.slice w1 w2n w3n)∧u1.cell? ⟨WX,2,none⟩=some (.slice w4 w5n w6n)∧u1.cell? ⟨WX,3,none⟩=some (.slice w7 w8n w9n)):=⟨HVA.out.1.trans (hb.mono HVA.out.1.size),⟨zaa hb _ _ HVA.out.2.1,zaa hb _ _ HVA.out.2.2.1,zaa hb _ _ HVA.out.2.2.2.1,zaa hb _ _ HVA.out.2.2.2.2.1,zaa hb _ _ HVA.out.2.2.2.2.2.1,zaa hb _ _ HVA.out.2.2.2.2.2.2.1,zaa hb _ _ HVA.out.2.2.2.2.2.2.2.1,zaa hb _ _ HVA.out.2.2.2.2.2.2.2.2⟩⟩
        clear hb hM
        go_wp2_with fail
        refine HK12.out _ _ HVA.out ?_
        clear HK12 K12
        intro _
        refine zf7 (by rfl) (fun K12 HK12=>?_)
        go_wp2_with fail
        refine (zaL (zbi m) HMV.out (VMsg.below HWW.out HVA.out.1)).mono ?_
        rintro e u2 ⟨rfl,hb⟩
        have HVA:Hid (Below V9.heap.size V9 u2∧u2.cell? ⟨BL,0,none⟩=some (.int .i64 zq)∧u2.cell? ⟨BL,1,none⟩=some (.slice z1a z1b z1c)∧u2.cell? ⟨BL,2,none⟩=some (.slice z2a z2b z2c)∧u2.cell? ⟨BL,3,none⟩=some (.slice z3a z3b z3c)∧u2.cell? ⟨WX,0,none⟩=some (.int .i64 wq)∧u2.cell? ⟨WX,1,none⟩=some (.slice w1 w2n w3n)∧u2.cell? ⟨WX,2,none⟩=some (.slice w4 w5n w6n)∧u2.cell? ⟨WX,3,none⟩=some (.slice w7 w8n w9n)):=⟨HVA.out.1.trans (hb.mono HVA.out.1.size),⟨zaa hb _ _ HVA.out.2.1,zaa hb _ _ HVA.out.2.2.1,zaa hb _ _ HVA.out.2.2.2.1,zaa hb _ _ HVA.out.2.2.2.2.1,zaa hb _ _ HVA.out.2.2.2.2.2.1,zaa hb _ _ HVA.out.2.2.2.2.2.2.1,zaa hb _ _ HVA.out.2.2.2.2.2.2.2.1,zaa hb _ _ HVA.out.2.2.2.2.2.2.2.2⟩⟩
        clear hb HMV
        go_wp2_with fail
        refine HK12.out _ _ HVA.out ?_
        clear HK12 K12
        intro _
        refine zbq (v:=?v37) ?ht37 ?hy37 ?hr37
        case ht37=>rfl
        case hy37=>(intro w hw;go_simp;all_goals rfl)
        simp only[Act.put,pzC,pzD,pzE]
        refine zaF (v:=?v38) ?hy38 ?hr38
        case hy38=>(intro w hw;go_simp;all_goals rfl)
        simp only[Act.put,pzC,pzD,pzE]
        refine zbQ ?_
        have HB2:=hid (HB2.out.trans (HVA.out.1.mono HB2.out.size))
        have hj:=HJ2.out.below HB2.out
        have j0:=hj.cell 0 _ rfl
        have j1:=hj.cell 1 _ rfl
        have jl:=hj.lt
        clear hj hw1 hw2 he1 he2
        have hzm:=(HZ2.out.2 HCN.out).below HB2.out
        have HOF:=hid (zeA hzm (by decide +kernel))
        have hcn:(12 != 0)=true:=by first|decide|(simpa using HCN.out)
        clear hzm
        go_wp2_with fail
        refine HOF.out.mono ?_
        rintro e u3 ⟨v3,rfl,hb3,hM3⟩
        obtain⟨f1,g1,h1,f2,g2,h2,rfl⟩:=hM3.form
        have HSM:=hid (zbi 1 u3 _ _ _ hM3 (zeh u3 0))
        have HB2:=hid (HB2.out.trans (hb3.mono HB2.out.size))
        clear hb3 hM3 HOF j0 j1 jl
        go_wp2_with fail
        refine HSM.out.mono ?_
        rintro e u4 ⟨rfl,hb4⟩
        have HE:=hid (HB.out.trans ((HB2.out.trans (hb4.mono HB2.out.size)).mono HB.out.size))
        clear hb4 HSM
        go_wp2_with fail
        go_ret
        exact⟨by simp,HE.out⟩
       | false =>
        have HAVV:Hid (ca=11):=HAVV.out
        have hL:=HL.out.below HB2.out
        have HLV:=hid hL.val
        have HCL:=HC12.out
        have hw1:IntKind.i64.wrap (ce:Int)=ce:=IntWalk.i64_in _ (by omega)
        have hw2:IntKind.i64.wrap (ca:Int)=ca:=IntWalk.i64_in _ (by omega)
        have he1:((ce:Int) != 12)=false:=by first|(simp;done)|(have h:=HCV.out;have hm':=HM0.out;simp;omega)
        have he2:((ca:Int) != 11)=false:=by first|(simp;done)|(have h:=HAVV.out;have hm':=HM0.out;simp;omega)
        have HVA:Hid (Below V9.heap.size V9 V9∧V9.cell? ⟨BL,0,none⟩=some (.int .i64 zq)∧V9.cell? ⟨BL,1,none⟩=some (.slice z1a z1b z1c)∧V9.cell? ⟨BL,2,none⟩=some (.slice z2a z2b z2c)∧V9.cell? ⟨BL,3,none⟩=some (.slice z3a z3b z3c)∧V9.cell? ⟨WX,0,none⟩=some (.int .i64 wq)∧V9.cell? ⟨WX,1,none⟩=some (.slice w1 w2n w3n)∧V9.cell? ⟨WX,2,none⟩=some (.slice w4 w5n w6n)∧V9.cell? ⟨WX,3,none⟩=some (.slice w7 w8n w9n)):=⟨Below.refl _ _,hL.c0,hL.c1,hL.c2,hL.c3,HWK.out.cell 0 _ rfl,HWK.out.cell 1 _ rfl,HWK.out.cell 2 _ rfl,HWK.out.cell 3 _ rfl⟩
        clear hL HCL
        go_upto_region 22 with fail
        refine zaY (fun w'=>Below V9.heap.size V9 w'∧w'.cell? ⟨BL,0,none⟩=some (.int .i64 zq)∧w'.cell? ⟨BL,1,none⟩=some (.slice z1a z1b z1c)∧w'.cell? ⟨BL,2,none⟩=some (.slice z2a z2b z2c)∧w'.cell? ⟨BL,3,none⟩=some (.slice z3a z3b z3c)∧w'.cell? ⟨WX,0,none⟩=some (.int .i64 wq)∧w'.cell? ⟨WX,1,none⟩=some (.slice w1 w2n w3n)∧w'.cell? ⟨WX,2,none⟩=some (.slice w4 w5n w6n)∧w'.cell? ⟨WX,3,none⟩=some (.slice w7 w8n w9n)) (fun _=>True) 12 [(0,0,0),(1,0,0),(2,0,0),(3,0,0),(4,0,0),(5,4,117),(6,4,117),(7,4,117),(8,4,117),(9,0,0),(10,0,0),(11,4,123),(13,4,123),(12,6,123),(14,6,123),(15,4,123),(16,0,0)] (by kernel_rfl) rfl rfl (by kernel_rfl) (fun _ _ dst _ _ h=>by cases dst <;> exact h) ⟨HVA.out.1.drew,HVA.out.2⟩ trivial (fun OPS _=>?_)
        simp only[List.map_cons,List.map_nil,List.filterMap_cons,List.filterMap_nil,List.getElem?_cons_succ,List.getElem?_cons_zero]
        have HVA:Hid (Below V9.heap.size V9 V9.drew∧V9.drew.cell? ⟨BL,0,none⟩=some (.int .i64 zq)∧V9.drew.cell? ⟨BL,1,none⟩=some (.slice z1a z1b z1c)∧V9.drew.cell? ⟨BL,2,none⟩=some (.slice z2a z2b z2c)∧V9.drew.cell? ⟨BL,3,none⟩=some (.slice z3a z3b z3c)∧V9.drew.cell? ⟨WX,0,none⟩=some (.int .i64 wq)∧V9.drew.cell? ⟨WX,1,none⟩=some (.slice w1 w2n w3n)∧V9.drew.cell? ⟨WX,2,none⟩=some (.slice w4 w5n w6n)∧V9.drew.cell? ⟨WX,3,none⟩=some (.slice w7 w8n w9n)):=⟨HVA.out.1.drew,HVA.out.2⟩
        refine zaF (v:=?v42) ?hy42 ?hr42
        case hy42=>(intro w hw;go_simp;all_goals rfl)
        simp only[Act.put,pzC,pzD,pzE]
        refine zaF (v:=?v43) ?hy43 ?hr43
        case hy43=>(intro w hw;go_simp;all_goals rfl)
        simp only[Act.put,pzC,pzD,pzE]
        refine zaF (v:=?v44) ?hy44 ?hr44
        case hy44=>(intro w hw;go_simp;all_goals rfl)
        simp only[Act.put,pzC,pzD,pzE]
        refine zaF (v:=?v45) ?hy45 ?hr45
        case hy45=>(intro w hw;go_simp;all_goals rfl)
        simp only[Act.put,pzC,pzD,pzE]
        refine zaF (v:=?v46) ?hy46 ?hr46
        case hy46=>(intro w hw;go_simp;all_goals rfl)
        simp only[Act.put,pzC,pzD,pzE]
        refine zbq (v:=?v47) ?ht47 ?hy47 ?hr47
        case ht47=>rfl
        case hy47=>(intro w hw;go_simp;all_goals rfl)
        simp only[Act.put,pzC,pzD,pzE]
        refine zbq (v:=?v48) ?ht48 ?hy48 ?hr48
        case ht48=>rfl
        case hy48=>(intro w hw;go_simp;all_goals rfl)
        simp only[Act.put,pzC,pzD,pzE]
        refine zbq (v:=?v49) ?ht49 ?hy49 ?hr49
        case ht49=>rfl
        case hy49=>(intro w hw;go_simp;all_goals rfl)
        simp only[Act.put,pzC,pzD,pzE]
        refine zbq (v:=?v50) ?ht50 ?hy50 ?hr50
        case ht50=>rfl
        case hy50=>(intro w hw;go_simp;all_goals rfl)
        simp only[Act.put,pzC,pzD,pzE]
        refine zaF (v:=?v51) ?hy51 ?hr51
        case hy51=>(intro w hw;go_simp;all_goals rfl)
        simp only[Act.put,pzC,pzD,pzE]
        refine zaF (v:=?v52) ?hy52 ?hr52
        case hy52=>(intro w hw;go_simp;all_goals rfl)
        simp only[Act.put,pzC,pzD,pzE]
        refine zbq (v:=?v53) ?ht53 ?hy53 ?hr53
        case ht53=>rfl
        case hy53=>(intro w hw;go_simp;all_goals rfl)
        simp only[Act.put,pzC,pzD,pzE]
        refine zbq (v:=?v54) ?ht54 ?hy54 ?hr54
        case ht54=>rfl
        case hy54=>(intro w hw;go_simp;all_goals rfl)
        simp only[Act.put,pzC,pzD,pzE]
        refine zf7 (by rfl) (fun K12 HK12=>?_)
        go_wp2_with fail
        refine (zbN (VMsg.below HLV.out HVA.out.1) HAW.out).mono ?_
        rintro e u1 ⟨v1',rfl,hb,hM⟩
        obtain⟨fq,f1,g1,h1,f2,g2,h2,f3,g3,h3,rfl⟩:=hM.form
        have HMV:=hid hM
        have HVA:Hid (Below V9.heap.size V9 u1∧u1.cell? ⟨BL,0,none⟩=some (.int .i64 zq)∧u1.cell? ⟨BL,1,none⟩=some (.slice z1a z1b z1c)∧u1.cell? ⟨BL,2,none⟩=some (.slice z2a z2b z2c)∧u1.cell? ⟨BL,3,none⟩=some (.slice z3a z3b z3c)∧u1.cell? ⟨WX,0,none⟩=some (.int .i64 wq)∧u1.cell? ⟨WX,1,none⟩=some (.slice w1 w2n w3n)∧u1.cell? ⟨WX,2,none⟩=some (.slice w4 w5n w6n)∧u1.cell? ⟨WX,3,none⟩=some (.slice w7 w8n w9n)):=⟨HVA.out.1.trans (hb.mono HVA.out.1.size),⟨zaa hb _ _ HVA.out.2.1,zaa hb _ _ HVA.out.2.2.1,zaa hb _ _ HVA.out.2.2.2.1,zaa hb _ _ HVA.out.2.2.2.2.1,zaa hb _ _ HVA.out.2.2.2.2.2.1,zaa hb _ _ HVA.out.2.2.2.2.2.2.1,zaa hb _ _ HVA.out.2.2.2.2.2.2.2.1,zaa hb _ _ HVA.out.2.2.2.2.2.2.2.2⟩⟩
        clear hb hM
        go_wp2_with fail
        refine HK12.out _ _ HVA.out ?_
        clear HK12 K12
        intro _
        refine zf7 (by rfl) (fun K12 HK12=>?_)
        go_wp2_with fail
        refine (zaL (zbi m) HMV.out (VMsg.below HWW.out HVA.out.1)).mono ?_
        rintro e u2 ⟨rfl,hb⟩
        have HVA:Hid (Below V9.heap.size V9 u2∧u2.cell? ⟨BL,0,none⟩=some (.int .i64 zq)∧u2.cell? ⟨BL,1,none⟩=some (.slice z1a z1b z1c)∧u2.cell? ⟨BL,2,none⟩=some (.slice z2a z2b z2c)∧u2.cell? ⟨BL,3,none⟩=some (.slice z3a z3b z3c)∧u2.cell? ⟨WX,0,none⟩=some (.int .i64 wq)∧u2.cell? ⟨WX,1,none⟩=some (.slice w1 w2n w3n)∧u2.cell? ⟨WX,2,none⟩=some (.slice w4 w5n w6n)∧u2.cell? ⟨WX,3,none⟩=some (.slice w7 w8n w9n)):=⟨HVA.out.1.trans (hb.mono HVA.out.1.size),⟨zaa hb _ _ HVA.out.2.1,zaa hb _ _ HVA.out.2.2.1,zaa hb _ _ HVA.out.2.2.2.1,zaa hb _ _ HVA.out.2.2.2.2.1,zaa hb _ _ HVA.out.2.2.2.2.2.1,zaa hb _ _ HVA.out.2.2.2.2.2.2.1,zaa hb _ _ HVA.out.2.2.2.2.2.2.2.1,zaa hb _ _ HVA.out.2.2.2.2.2.2.2.2⟩⟩
        clear hb HMV
        go_wp2_with fail
        refine HK12.out _ _ HVA.out ?_
        clear HK12 K12
        intro _
        refine zbq (v:=?v58) ?ht58 ?hy58 ?hr58
        case ht58=>rfl
        case hy58=>(intro w hw;go_simp;all_goals rfl)
        simp only[Act.put,pzC,pzD,pzE]
        refine zaF (v:=?v59) ?hy59 ?hr59
        case hy59=>(intro w hw;go_simp;all_goals rfl)
        simp only[Act.put,pzC,pzD,pzE]
        refine zbQ ?_
        have HB2:=hid (HB2.out.trans (HVA.out.1.mono HB2.out.size))
        have hj:=HJ2.out.below HB2.out
        have j0:=hj.cell 0 _ rfl
        have j1:=hj.cell 1 _ rfl
        have jl:=hj.lt
        clear hj hw1 hw2 he1 he2
        have hzm:=(HZ2.out.2 HCN.out).below HB2.out
        have HOF:=hid (zeA hzm (by decide +kernel))
        have hcn:(12 != 0)=true:=by first|decide|(simpa using HCN.out)
        clear hzm
        go_wp2_with fail
        refine HOF.out.mono ?_
        rintro e u3 ⟨v3,rfl,hb3,hM3⟩
        obtain⟨f1,g1,h1,f2,g2,h2,rfl⟩:=hM3.form
        have HSM:=hid (zbi 1 u3 _ _ _ hM3 (zeh u3 0))
        have HB2:=hid (HB2.out.trans (hb3.mono HB2.out.size))
        clear hb3 hM3 HOF j0 j1 jl
        go_wp2_with fail
        refine HSM.out.mono ?_
        rintro e u4 ⟨rfl,hb4⟩
        have HE:=hid (HB.out.trans ((HB2.out.trans (hb4.mono HB2.out.size)).mono HB.out.size))
        clear hb4 HSM
        go_wp2_with fail
        go_ret
        exact⟨by simp,HE.out⟩
      | false =>
       have hbd:¬ (0<mv∧fit=false):=of_decide_eq_false HBAD.out.symm
       have HCV:Hid (ce=0):=by rw[Hid,HCV.out,if_neg hbd]
       have HM0C:=HM0.out
       obtain rfl:ce=0:=HCV.out
       have HZW:Hid (mwt (m+way.length) (zdj way x v)≤1099511627776):=by
        have:=zi5 v way x HSOK.out
        have:=HW2.out
        have:=HYL.out
        show _≤_
        omega
       clear hbd HM0C
       go_upto_region 17 with fail
       obtain⟨WX,HWX⟩:∃ b,Hid (b=wc.heap.size):=⟨_,rfl⟩
       obtain⟨V8,HV8⟩:∃ W,Hid (W=wc.alloc (.cells #[.int .i64 0,.slice none 0 0,.slice none 0 0,.slice none 0 0] 42)):=⟨_,rfl⟩
       have hbw:Below wc.heap.size wc V8:=by rw[HV8.out];exact (Below.refl _ _).alloc (Nat.le_refl _) _
       have hkw:Blk V8 WX [.int .i64 0,.slice none 0 0,.slice none 0 0,.slice none 0 0] 42:=by rw[HV8.out,HWX.out];exact Blk.new wc [.int .i64 0,.slice none 0 0,.slice none 0 0,.slice none 0 0] _
       have HWV:Hid (V2.heap.size≤WX):=by rw[HWX.out];exact HB2.out.size
       have HB2:=hid (HB2.out.trans (hbw.mono HB2.out.size))
       clear hbw
       go_upto_region 18 with fail
       rw[←HV8.out,←HWX.out]
       have HAT:=hid (zhz (m+way.length) V2 V8 _ _ x way HB2.out HP.out.msg (HIY.out.below (HB.out.trans (HB2.out.mono HB.out.size))) (zlg way x HNEW.out HSOK.out))
       obtain⟨th,HTH⟩:∃ b,Hid (b=(atM way x).isSome):=⟨_,rfl⟩
       unfold zgy at HAT
       rw[zi8 way x HNEW.out,←HTH.out] at HAT
       rw[←HTH.out] at HAVV
       have hp:=HP.out.below HB2.out
       have x0:=hp.c0
       have x1:=hp.c1
       have xl:=hp.lt
       have HKW:=hid hkw
       clear hkw hp
       go_wp2_with fail
       refine HAT.out.mono ?_
       rintro e v9 ⟨wq,w1,w2n,w3n,w4,w5n,w6n,w7,w8n,w9n,rfl,hb9,hval,hnil⟩
       have hk9:=HKW.out.below hb9
       have HB9:=hid (HB2.out.trans (hb9.mono HB2.out.size))
       obtain⟨hks,hbut⟩:=zqf (a:=.int .i64 wq) (b:=.slice w1 w2n w3n) (e:=.slice w4 w5n w6n) (f:=.slice w7 w8n w9n) hk9
       obtain⟨V9,HV9⟩:∃ W,Hid (W=(((v9.setCell ⟨WX,0,none⟩ (.int .i64 wq)).setCell ⟨WX,1,none⟩ (.slice w1 w2n w3n)).setCell ⟨WX,2,none⟩ (.slice w4 w5n w6n)).setCell ⟨WX,3,none⟩ (.slice w7 w8n w9n)):=⟨_,rfl⟩
       rw[←HV9.out] at hks hbut
       have HWK:=hid hks
       have HB2:=hid (HB9.out.trans (hbut.to_below HWV.out HB9.out.size))
       have HWW:Hid (zat (zac m) V9 (.agg #[.int .i64 wq,.slice w1 w2n w3n,.slice w4 w5n w6n,.slice w7 w8n w9n]) (atV s (r:Int) way x)):=by
        rw[HAV.out]
        cases ho:atM way x with
        | none =>
         have h1:th=false:=by rw[HTH.out,ho];rfl
         rw[if_neg (by rw[HAVV.out,h1];simp)]
         obtain⟨rfl,⟨rfl,rfl,rfl⟩,⟨rfl,rfl,rfl⟩,rfl,rfl,rfl⟩:=hnil h1
         exact zfn _ _
        | some u =>
         have h1:th=true:=by rw[HTH.out,ho];rfl
         rw[if_pos (by rw[HAVV.out,h1];rfl)]
         exact VMsg.below (hval m u (zlf way x u ho)) HB2.out
       have HAW:Hid (vwt (mwt m) (atV s (r:Int) way x)≤1099511627776):=by
        rw[HAV.out]
        split
        ·
         cases ho:atM way x with
         | none=>show 1+0+0+0≤1099511627776;omega
         | some u=>exact Nat.le_trans (zoA way x u HSOK.out ho) (Nat.le_trans HW2.out.1 (by decide))
        ·
         show 1+0+0+0≤1099511627776
         omega
       have t0:=hk9.cell 0 _ rfl
       have t1:=hk9.cell 1 _ rfl
       have t2:=hk9.cell 2 _ rfl
       have t3:=hk9.cell 3 _ rfl
       have tf0:=hk9.free 0
       have tf1:=hk9.free 1
       have tf2:=hk9.free 2
       have tf3:=hk9.free 3
       have tl:=hk9.lt
       clear hk9 hks hbut hb9 hval hnil HAT HKW HB9 x0 x1 xl
       go_upto_region 20 with fail
       rw[←HV9.out]
       clear t0 t1 t2 t3 tf0 tf1 tf2 tf3 tl
       have HCVM:Hid ((may:Int)=0):=by have:=HM0.out;show (may:Int)=0;omega
       cases th with
       | true =>
        have HAVV:Hid (ca=0):=HAVV.out
        have hmz:((may:Int) != 0)=false:=by simp;exact HM0.out
        have hL:=HL.out.below HB2.out
        have HLV:=hid hL.val
        have HCL:=HC12.out
        have hw1:IntKind.i64.wrap (0:Int)=0:=IntWalk.i64_in _ (by omega)
        have hw2:IntKind.i64.wrap (ca:Int)=ca:=IntWalk.i64_in _ (by omega)
        have he1:((0:Int) != (may:Int))=false:=by first|(simp;done)|(have h:=HCV.out;have hm':=HM0.out;simp;omega)
        have he2:((ca:Int) != (may:Int))=false:=by first|(simp;done)|(have h:=HAVV.out;have hm':=HM0.out;simp;omega)
        have HVA:Hid (Below V9.heap.size V9 V9∧V9.cell? ⟨BL,0,none⟩=some (.int .i64 zq)∧V9.cell? ⟨BL,1,none⟩=some (.slice z1a z1b z1c)∧V9.cell? ⟨BL,2,none⟩=some (.slice z2a z2b z2c)∧V9.cell? ⟨BL,3,none⟩=some (.slice z3a z3b z3c)∧V9.cell? ⟨WX,0,none⟩=some (.int .i64 wq)∧V9.cell? ⟨WX,1,none⟩=some (.slice w1 w2n w3n)∧V9.cell? ⟨WX,2,none⟩=some (.slice w4 w5n w6n)∧V9.cell? ⟨WX,3,none⟩=some (.slice w7 w8n w9n)):=⟨Below.refl _ _,hL.c0,hL.c1,hL.c2,hL.c3,HWK.out.cell 0 _ rfl,HWK.out.cell 1 _ rfl,HWK.out.cell 2 _ rfl,HWK.out.cell 3 _ rfl⟩
        clear hL HCL
        go_upto_region 22 with fail
        refine zaY (fun w'=>Below V9.heap.size V9 w'∧w'.cell? ⟨BL,0,none⟩=some (.int .i64 zq)∧w'.cell? ⟨BL,1,none⟩=some (.slice z1a z1b z1c)∧w'.cell? ⟨BL,2,none⟩=some (.slice z2a z2b z2c)∧w'.cell? ⟨BL,3,none⟩=some (.slice z3a z3b z3c)∧w'.cell? ⟨WX,0,none⟩=some (.int .i64 wq)∧w'.cell? ⟨WX,1,none⟩=some (.slice w1 w2n w3n)∧w'.cell? ⟨WX,2,none⟩=some (.slice w4 w5n w6n)∧w'.cell? ⟨WX,3,none⟩=some (.slice w7 w8n w9n)) (fun _=>True) 12 [(0,0,0),(1,0,0),(2,0,0),(3,0,0),(4,0,0),(5,4,117),(6,4,117),(7,4,117),(8,4,117),(9,0,0),(10,0,0),(11,4,123),(13,4,123),(12,6,123),(14,6,123),(15,4,123),(16,0,0)] (by kernel_rfl) rfl rfl (by kernel_rfl) (fun _ _ dst _ _ h=>by cases dst <;> exact h) ⟨HVA.out.1.drew,HVA.out.2⟩ trivial (fun OPS _=>?_)
        simp only[List.map_cons,List.map_nil,List.filterMap_cons,List.filterMap_nil,List.getElem?_cons_succ,List.getElem?_cons_zero]
        have HVA:Hid (Below V9.heap.size V9 V9.drew∧V9.drew.cell? ⟨BL,0,none⟩=some (.int .i64 zq)∧V9.drew.cell? ⟨BL,1,none⟩=some (.slice z1a z1b z1c)∧V9.drew.cell? ⟨BL,2,none⟩=some (.slice z2a z2b z2c)∧V9.drew.cell? ⟨BL,3,none⟩=some (.slice z3a z3b z3c)∧V9.drew.cell? ⟨WX,0,none⟩=some (.int .i64 wq)∧V9.drew.cell? ⟨WX,1,none⟩=some (.slice w1 w2n w3n)∧V9.drew.cell? ⟨WX,2,none⟩=some (.slice w4 w5n w6n)∧V9.drew.cell? ⟨WX,3,none⟩=some (.slice w7 w8n w9n)):=⟨HVA.out.1.drew,HVA.out.2⟩
        refine zaF (v:=?v63) ?hy63 ?hr63
        case hy63=>(intro w hw;go_simp;all_goals rfl)
        simp only[Act.put,pzC,pzD,pzE]
        refine zaF (v:=?v64) ?hy64 ?hr64
        case hy64=>(intro w hw;go_simp;all_goals rfl)
        simp only[Act.put,pzC,pzD,pzE]
        refine zaF (v:=?v65) ?hy65 ?hr65
        case hy65=>(intro w hw;go_simp;all_goals rfl)
        simp only[Act.put,pzC,pzD,pzE]
        refine zaF (v:=?v66) ?hy66 ?hr66
        case hy66=>(intro w hw;go_simp;all_goals rfl)
        simp only[Act.put,pzC,pzD,pzE]
        refine zaF (v:=?v67) ?hy67 ?hr67
        case hy67=>(intro w hw;go_simp;all_goals rfl)
        simp only[Act.put,pzC,pzD,pzE]
        refine zbq (v:=?v68) ?ht68 ?hy68 ?hr68
        case ht68=>rfl
        case hy68=>(intro w hw;go_simp;all_goals rfl)
        simp only[Act.put,pzC,pzD,pzE]
        refine zbq (v:=?v69) ?ht69 ?hy69 ?hr69
        case ht69=>rfl
        case hy69=>(intro w hw;go_simp;all_goals rfl)
        simp only[Act.put,pzC,pzD,pzE]
        refine zbq (v:=?v70) ?ht70 ?hy70 ?hr70
        case ht70=>rfl
        case hy70=>(intro w hw;go_simp;all_goals rfl)
        simp only[Act.put,pzC,pzD,pzE]
        refine zbq (v:=?v71) ?ht71 ?hy71 ?hr71
        case ht71=>rfl
        case hy71=>(intro w hw;go_simp;all_goals rfl)
        simp only[Act.put,pzC,pzD,pzE]
        refine zaF (v:=?v72) ?hy72 ?hr72
        case hy72=>(intro w hw;go_simp;all_goals rfl)
        simp only[Act.put,pzC,pzD,pzE]
        refine zaF (v:=?v73) ?hy73 ?hr73
        case hy73=>(intro w hw;go_simp;all_goals rfl)
        simp only[Act.put,pzC,pzD,pzE]
        refine zbq (v:=?v74) ?ht74 ?hy74 ?hr74
        case ht74=>rfl
        case hy74=>(intro w hw;go_simp;all_goals rfl)
        simp only[Act.put,pzC,pzD,pzE]
        refine zbq (v:=?v75) ?ht75 ?hy75 ?hr75
        case ht75=>rfl
        case hy75=>(intro w hw;go_simp;all_goals rfl)
        simp only[Act.put,pzC,pzD,pzE]
        refine zf7 (by rfl) (fun K12 HK12=>?_)
        go_wp2_with fail
        refine (zbN (VMsg.below HLV.out HVA.out.1) HAW.out).mono ?_
        rintro e u1 ⟨v1',rfl,hb,hM⟩
        obtain⟨fq,f1,g1,h1,f2,g2,h2,f3,g3,h3,rfl⟩:=hM.form
        have HMV:=hid hM
        have HVA:Hid (Below V9.heap.size V9 u1∧u1.cell? ⟨BL,0,none⟩=some (.int .i64 zq)∧u1.cell? ⟨BL,1,none⟩=some (.slice z1a z1b z1c)∧u1.cell? ⟨BL,2,none⟩=some (.slice z2a z2b z2c)∧u1.cell? ⟨BL,3,none⟩=some (.slice z3a z3b z3c)∧u1.cell? ⟨WX,0,none⟩=some (.int .i64 wq)∧u1.cell? ⟨WX,1,none⟩=some (.slice w1 w2n w3n)∧u1.cell? ⟨WX,2,none⟩=some (.slice w4 w5n w6n)∧u1.cell? ⟨WX,3,none⟩=some (.slice w7 w8n w9n)):=⟨HVA.out.1.trans (hb.mono HVA.out.1.size),⟨zaa hb _ _ HVA.out.2.1,zaa hb _ _ HVA.out.2.2.1,zaa hb _ _ HVA.out.2.2.2.1,zaa hb _ _ HVA.out.2.2.2.2.1,zaa hb _ _ HVA.out.2.2.2.2.2.1,zaa hb _ _ HVA.out.2.2.2.2.2.2.1,zaa hb _ _ HVA.out.2.2.2.2.2.2.2.1,zaa hb _ _ HVA.out.2.2.2.2.2.2.2.2⟩⟩
        clear hb hM
        go_wp2_with fail
        refine HK12.out _ _ HVA.out ?_
        clear HK12 K12
        intro _
        refine zf7 (by rfl) (fun K12 HK12=>?_)
        go_wp2_with fail
        refine (zaL (zbi m) HMV.out (VMsg.below HWW.out HVA.out.1)).mono ?_
        rintro e u2 ⟨rfl,hb⟩
        have HVA:Hid (Below V9.heap.size V9 u2∧u2.cell? ⟨BL,0,none⟩=some (.int .i64 zq)∧u2.cell? ⟨BL,1,none⟩=some (.slice z1a z1b z1c)∧u2.cell? ⟨BL,2,none⟩=some (.slice z2a z2b z2c)∧u2.cell? ⟨BL,3,none⟩=some (.slice z3a z3b z3c)∧u2.cell? ⟨WX,0,none⟩=some (.int .i64 wq)∧u2.cell? ⟨WX,1,none⟩=some (.slice w1 w2n w3n)∧u2.cell? ⟨WX,2,none⟩=some (.slice w4 w5n w6n)∧u2.cell? ⟨WX,3,none⟩=some (.slice w7 w8n w9n)):=⟨HVA.out.1.trans (hb.mono HVA.out.1.size),⟨zaa hb _ _ HVA.out.2.1,zaa hb _ _ HVA.out.2.2.1,zaa hb _ _ HVA.out.2.2.2.1,zaa hb _ _ HVA.out.2.2.2.2.1,zaa hb _ _ HVA.out.2.2.2.2.2.1,zaa hb _ _ HVA.out.2.2.2.2.2.2.1,zaa hb _ _ HVA.out.2.2.2.2.2.2.2.1,zaa hb _ _ HVA.out.2.2.2.2.2.2.2.2⟩⟩
        clear hb HMV
        go_wp2_with fail
        refine HK12.out _ _ HVA.out ?_
        clear HK12 K12
        intro _
        refine zbq (v:=?v79) ?ht79 ?hy79 ?hr79
        case ht79=>rfl
        case hy79=>(intro w hw;go_simp;all_goals rfl)
        simp only[Act.put,pzC,pzD,pzE]
        refine zaF (v:=?v80) ?hy80 ?hr80
        case hy80=>(intro w hw;go_simp;all_goals rfl)
        simp only[Act.put,pzC,pzD,pzE]
        refine zbQ ?_
        have HB2:=hid (HB2.out.trans (HVA.out.1.mono HB2.out.size))
        have hj:=HJ2.out.below HB2.out
        have j0:=hj.cell 0 _ rfl
        have j1:=hj.cell 1 _ rfl
        have jl:=hj.lt
        clear hj hw1 hw2 he1 he2
        have hp:=HP.out.below HB2.out
        have hq:=HQ.out.below HB2.out
        have HVB:Hid (Below u2.heap.size u2 u2∧u2.cell? ⟨BJ,0,none⟩=some (.slice q1a q1b q1c)∧u2.cell? ⟨BJ,1,none⟩=some (.slice q1d q1e q1f)∧u2.cell? ⟨P1,0,none⟩=some (.slice p1 q1 r1)∧u2.cell? ⟨P1,1,none⟩=some (.slice p2 q2 r2)∧u2.cell? ⟨P2,0,none⟩=some (.int .i64 vz)∧u2.cell? ⟨P2,1,none⟩=some (.slice p3 q3 r3)∧u2.cell? ⟨P2,2,none⟩=some (.slice p4 q4 r4)∧u2.cell? ⟨P2,3,none⟩=some (.slice p5 q5 r5)):=⟨Below.refl _ _,j0,j1,hp.c0,hp.c1,hq.c0,hq.c1,hq.c2,hq.c3⟩
        have HZM:=hid ((show zac (m+way.length) V2 _ (zdj way x v) by first|exact HZ2.out.1 rfl|exact HZ2.out.1 trivial).below HB2.out)
        clear hp hq j0 j1 jl
        go_upto_region 26 with fail
        refine zaY (fun w'=>Below u2.heap.size u2 w'∧w'.cell? ⟨BJ,0,none⟩=some (.slice q1a q1b q1c)∧w'.cell? ⟨BJ,1,none⟩=some (.slice q1d q1e q1f)∧w'.cell? ⟨P1,0,none⟩=some (.slice p1 q1 r1)∧w'.cell? ⟨P1,1,none⟩=some (.slice p2 q2 r2)∧w'.cell? ⟨P2,0,none⟩=some (.int .i64 vz)∧w'.cell? ⟨P2,1,none⟩=some (.slice p3 q3 r3)∧w'.cell? ⟨P2,2,none⟩=some (.slice p4 q4 r4)∧w'.cell? ⟨P2,3,none⟩=some (.slice p5 q5 r5)) (fun _=>True) 1 [(0,0,0),(2,0,0),(3,0,0),(4,0,0),(1,2,0),(5,2,0),(6,2,0),(7,0,0)] (by kernel_rfl) rfl rfl (by kernel_rfl) (fun _ _ dst _ _ h=>by cases dst <;> exact h) ⟨HVB.out.1.drew,HVB.out.2⟩ trivial (fun OPS _=>?_)
        simp only[List.map_cons,List.map_nil,List.filterMap_cons,List.filterMap_nil,List.getElem?_cons_succ,List.getElem?_cons_zero]
        have HVB:Hid (Below u2.heap.size u2 u2.drew∧u2.drew.cell? ⟨BJ,0,none⟩=some (.slice q1a q1b q1c)∧u2.drew.cell? ⟨BJ,1,none⟩=some (.slice q1d q1e q1f)∧u2.drew.cell? ⟨P1,0,none⟩=some (.slice p1 q1 r1)∧u2.drew.cell? ⟨P1,1,none⟩=some (.slice p2 q2 r2)∧u2.drew.cell? ⟨P2,0,none⟩=some (.int .i64 vz)∧u2.drew.cell? ⟨P2,1,none⟩=some (.slice p3 q3 r3)∧u2.drew.cell? ⟨P2,2,none⟩=some (.slice p4 q4 r4)∧u2.drew.cell? ⟨P2,3,none⟩=some (.slice p5 q5 r5)):=⟨HVB.out.1.drew,HVB.out.2⟩
        refine zaF (v:=?v84) ?hy84 ?hr84
        case hy84=>(intro w hw;go_simp;all_goals rfl)
        simp only[Act.put,pzC,pzD,pzE]
        refine zaF (v:=?v85) ?hy85 ?hr85
        case hy85=>(intro w hw;go_simp;all_goals rfl)
        simp only[Act.put,pzC,pzD,pzE]
        refine zaF (v:=?v86) ?hy86 ?hr86
        case hy86=>(intro w hw;go_simp;all_goals rfl)
        simp only[Act.put,pzC,pzD,pzE]
        refine zaF (v:=?v87) ?hy87 ?hr87
        case hy87=>(intro w hw;go_simp;all_goals rfl)
        simp only[Act.put,pzC,pzD,pzE]
        refine zfz (fun K12 HK12=>?_)
        go_wp2_with fail
        refine (zeA (HZM.out.below HVB.out.1) HZW.out).mono ?_
        rintro e u3 ⟨v3,rfl,hb,hM⟩
        obtain⟨f1,g1,h1,f2,g2,h2,rfl⟩:=hM.form
        have HMV:=hid hM
        have HVB:Hid (Below u2.heap.size u2 u3∧u3.cell? ⟨BJ,0,none⟩=some (.slice q1a q1b q1c)∧u3.cell? ⟨BJ,1,none⟩=some (.slice q1d q1e q1f)∧u3.cell? ⟨P1,0,none⟩=some (.slice p1 q1 r1)∧u3.cell? ⟨P1,1,none⟩=some (.slice p2 q2 r2)∧u3.cell? ⟨P2,0,none⟩=some (.int .i64 vz)∧u3.cell? ⟨P2,1,none⟩=some (.slice p3 q3 r3)∧u3.cell? ⟨P2,2,none⟩=some (.slice p4 q4 r4)∧u3.cell? ⟨P2,3,none⟩=some (.slice p5 q5 r5)):=⟨HVB.out.1.trans (hb.mono HVB.out.1.size),⟨zaa hb _ _ HVB.out.2.1,zaa hb _ _ HVB.out.2.2.1,zaa hb _ _ HVB.out.2.2.2.1,zaa hb _ _ HVB.out.2.2.2.2.1,zaa hb _ _ HVB.out.2.2.2.2.2.1,zaa hb _ _ HVB.out.2.2.2.2.2.2.1,zaa hb _ _ HVB.out.2.2.2.2.2.2.2.1,zaa hb _ _ HVB.out.2.2.2.2.2.2.2.2⟩⟩
        clear hb hM
        go_wp2_with fail
        refine HK12.out _ _ HVB.out ?_
        clear HK12 K12
        intro _
        have HRS:=hid (zhy way HNEW.out V2 u3 _ _ _ x v (HB2.out.trans (HVB.out.1.mono HB2.out.size)) HP.out.msg (HIY.out.below HB.out) HQ.out.val HSOK.out (Nat.le_trans HW2.out.1 (by decide)))
        refine zfz (fun K12 HK12=>?_)
        go_wp2_with fail
        refine HRS.out.mono ?_
        rintro e u4 ⟨v4,rfl,hb,hap⟩
        obtain⟨i1,i2,i3,i4,i5,i6,rfl⟩:=hap.here.form
        have HSM:=hid (zbi _ u4 _ _ _ (HMV.out.below hb) hap.here)
        have HVB:Hid (Below u2.heap.size u2 u4∧u4.cell? ⟨BJ,0,none⟩=some (.slice q1a q1b q1c)∧u4.cell? ⟨BJ,1,none⟩=some (.slice q1d q1e q1f)∧u4.cell? ⟨P1,0,none⟩=some (.slice p1 q1 r1)∧u4.cell? ⟨P1,1,none⟩=some (.slice p2 q2 r2)∧u4.cell? ⟨P2,0,none⟩=some (.int .i64 vz)∧u4.cell? ⟨P2,1,none⟩=some (.slice p3 q3 r3)∧u4.cell? ⟨P2,2,none⟩=some (.slice p4 q4 r4)∧u4.cell? ⟨P2,3,none⟩=some (.slice p5 q5 r5)):=⟨HVB.out.1.trans (hb.mono HVB.out.1.size),⟨zaa hb _ _ HVB.out.2.1,zaa hb _ _ HVB.out.2.2.1,zaa hb _ _ HVB.out.2.2.2.1,zaa hb _ _ HVB.out.2.2.2.2.1,zaa hb _ _ HVB.out.2.2.2.2.2.1,zaa hb _ _ HVB.out.2.2.2.2.2.2.1,zaa hb _ _ HVB.out.2.2.2.2.2.2.2.1,zaa hb _ _ HVB.out.2.2.2.2.2.2.2.2⟩⟩
        clear hb hap HRS HMV
        go_wp2_with fail
        refine HK12.out _ _ HVB.out ?_
        clear HK12 K12
        intro _
        refine zfz (fun K12 HK12=>?_)
        go_wp2_with fail
        refine HSM.out.mono ?_
        rintro e u5 ⟨rfl,hb⟩
        have HVB:Hid (Below u2.heap.size u2 u5∧u5.cell? ⟨BJ,0,none⟩=some (.slice q1a q1b q1c)∧u5.cell? ⟨BJ,1,none⟩=some (.slice q1d q1e q1f)∧u5.cell? ⟨P1,0,none⟩=some (.slice p1 q1 r1)∧u5.cell? ⟨P1,1,none⟩=some (.slice p2 q2 r2)∧u5.cell? ⟨P2,0,none⟩=some (.int .i64 vz)∧u5.cell? ⟨P2,1,none⟩=some (.slice p3 q3 r3)∧u5.cell? ⟨P2,2,none⟩=some (.slice p4 q4 r4)∧u5.cell? ⟨P2,3,none⟩=some (.slice p5 q5 r5)):=⟨HVB.out.1.trans (hb.mono HVB.out.1.size),⟨zaa hb _ _ HVB.out.2.1,zaa hb _ _ HVB.out.2.2.1,zaa hb _ _ HVB.out.2.2.2.1,zaa hb _ _ HVB.out.2.2.2.2.1,zaa hb _ _ HVB.out.2.2.2.2.2.1,zaa hb _ _ HVB.out.2.2.2.2.2.2.1,zaa hb _ _ HVB.out.2.2.2.2.2.2.2.1,zaa hb _ _ HVB.out.2.2.2.2.2.2.2.2⟩⟩
        clear hb HSM
        go_wp2_with fail
        refine HK12.out _ _ HVB.out ?_
        clear HK12 K12
        intro _
        refine zaF (v:=?v91) ?hy91 ?hr91
        case hy91=>(intro w hw;go_simp;all_goals rfl)
        simp only[Act.put,pzC,pzD,pzE]
        refine zbQ ?_
        have HE:=hid (HB.out.trans ((HB2.out.trans (HVB.out.1.mono HB2.out.size)).mono HB.out.size))
        go_wp2_with fail
        go_ret
        exact⟨by simp,HE.out⟩
       | false =>
        have HAVV:Hid (ca=11):=HAVV.out
        have hmz:((may:Int) != 0)=false:=by simp;exact HM0.out
        have hL:=HL.out.below HB2.out
        have HLV:=hid hL.val
        have HCL:=HC12.out
        have hw1:IntKind.i64.wrap (0:Int)=0:=IntWalk.i64_in _ (by omega)
        have hw2:IntKind.i64.wrap (ca:Int)=ca:=IntWalk.i64_in _ (by omega)
        have he1:((0:Int) != (may:Int))=false:=by first|(simp;done)|(have h:=HCV.out;have hm':=HM0.out;simp;omega)
        have he2:((ca:Int) != 11)=false:=by first|(simp;done)|(have h:=HAVV.out;have hm':=HM0.out;simp;omega)
        have HVA:Hid (Below V9.heap.size V9 V9∧V9.cell? ⟨BL,0,none⟩=some (.int .i64 zq)∧V9.cell? ⟨BL,1,none⟩=some (.slice z1a z1b z1c)∧V9.cell? ⟨BL,2,none⟩=some (.slice z2a z2b z2c)∧V9.cell? ⟨BL,3,none⟩=some (.slice z3a z3b z3c)∧V9.cell? ⟨WX,0,none⟩=some (.int .i64 wq)∧V9.cell? ⟨WX,1,none⟩=some (.slice w1 w2n w3n)∧V9.cell? ⟨WX,2,none⟩=some (.slice w4 w5n w6n)∧V9.cell? ⟨WX,3,none⟩=some (.slice w7 w8n w9n)):=⟨Below.refl _ _,hL.c0,hL.c1,hL.c2,hL.c3,HWK.out.cell 0 _ rfl,HWK.out.cell 1 _ rfl,HWK.out.cell 2 _ rfl,HWK.out.cell 3 _ rfl⟩
        clear hL HCL
        go_upto_region 22 with fail
        refine zaY (fun w'=>Below V9.heap.size V9 w'∧w'.cell? ⟨BL,0,none⟩=some (.int .i64 zq)∧w'.cell? ⟨BL,1,none⟩=some (.slice z1a z1b z1c)∧w'.cell? ⟨BL,2,none⟩=some (.slice z2a z2b z2c)∧w'.cell? ⟨BL,3,none⟩=some (.slice z3a z3b z3c)∧w'.cell? ⟨WX,0,none⟩=some (.int .i64 wq)∧w'.cell? ⟨WX,1,none⟩=some (.slice w1 w2n w3n)∧w'.cell? ⟨WX,2,none⟩=some (.slice w4 w5n w6n)∧w'.cell? ⟨WX,3,none⟩=some (.slice w7 w8n w9n)) (fun _=>True) 12 [(0,0,0),(1,0,0),(2,0,0),(3,0,0),(4,0,0),(5,4,117),(6,4,117),(7,4,117),(8,4,117),(9,0,0),(10,0,0),(11,4,123),(13,4,123),(12,6,123),(14,6,123),(15,4,123),(16,0,0)] (by kernel_rfl) rfl rfl (by kernel_rfl) (fun _ _ dst _ _ h=>by cases dst <;> exact h) ⟨HVA.out.1.drew,HVA.out.2⟩ trivial (fun OPS _=>?_)
        simp only[List.map_cons,List.map_nil,List.filterMap_cons,List.filterMap_nil,List.getElem?_cons_succ,List.getElem?_cons_zero]
        have HVA:Hid (Below V9.heap.size V9 V9.drew∧V9.drew.cell? ⟨BL,0,none⟩=some (.int .i64 zq)∧V9.drew.cell? ⟨BL,1,none⟩=some (.slice z1a z1b z1c)∧V9.drew.cell? ⟨BL,2,none⟩=some (.slice z2a z2b z2c)∧V9.drew.cell? ⟨BL,3,none⟩=some (.slice z3a z3b z3c)∧V9.drew.cell? ⟨WX,0,none⟩=some (.int .i64 wq)∧V9.drew.cell? ⟨WX,1,none⟩=some (.slice w1 w2n w3n)∧V9.drew.cell? ⟨WX,2,none⟩=some (.slice w4 w5n w6n)∧V9.drew.cell? ⟨WX,3,none⟩=some (.slice w7 w8n w9n)):=⟨HVA.out.1.drew,HVA.out.2⟩
        refine zaF (v:=?v95) ?hy95 ?hr95
        case hy95=>(intro w hw;go_simp;all_goals rfl)
        simp only[Act.put,pzC,pzD,pzE]
        refine zaF (v:=?v96) ?hy96 ?hr96
        case hy96=>(intro w hw;go_simp;all_goals rfl)
        simp only[Act.put,pzC,pzD,pzE]
        refine zaF (v:=?v97) ?hy97 ?hr97
        case hy97=>(intro w hw;go_simp;all_goals rfl)
        simp only[Act.put,pzC,pzD,pzE]
        refine zaF (v:=?v98) ?hy98 ?hr98
        case hy98=>(intro w hw;go_simp;all_goals rfl)
        simp only[Act.put,pzC,pzD,pzE]
        refine zaF (v:=?v99) ?hy99 ?hr99
        case hy99=>(intro w hw;go_simp;all_goals rfl)
        simp only[Act.put,pzC,pzD,pzE]
        refine zbq (v:=?v100) ?ht100 ?hy100 ?hr100
        case ht100=>rfl
        case hy100=>(intro w hw;go_simp;all_goals rfl)
        simp only[Act.put,pzC,pzD,pzE]
        refine zbq (v:=?v101) ?ht101 ?hy101 ?hr101
        case ht101=>rfl
        case hy101=>(intro w hw;go_simp;all_goals rfl)
        simp only[Act.put,pzC,pzD,pzE]
        refine zbq (v:=?v102) ?ht102 ?hy102 ?hr102
        case ht102=>rfl
        case hy102=>(intro w hw;go_simp;all_goals rfl)
        simp only[Act.put,pzC,pzD,pzE]
        refine zbq (v:=?v103) ?ht103 ?hy103 ?hr103
        case ht103=>rfl
        case hy103=>(intro w hw;go_simp;all_goals rfl)
        simp only[Act.put,pzC,pzD,pzE]
        refine zaF (v:=?v104) ?hy104 ?hr104
        case hy104=>(intro w hw;go_simp;all_goals rfl)
        simp only[Act.put,pzC,pzD,pzE]
        refine zaF (v:=?v105) ?hy105 ?hr105
        case hy105=>(intro w hw;go_simp;all_goals rfl)
        simp only[Act.put,pzC,pzD,pzE]
        refine zbq (v:=?v106) ?ht106 ?hy106 ?hr106
        case ht106=>rfl
        case hy106=>(intro w hw;go_simp;all_goals rfl)
        simp only[Act.put,pzC,pzD,pzE]
        refine zbq (v:=?v107) ?ht107 ?hy107 ?hr107
        case ht107=>rfl
        case hy107=>(intro w hw;go_simp;all_goals rfl)
        simp only[Act.put,pzC,pzD,pzE]
        refine zf7 (by rfl) (fun K12 HK12=>?_)
        go_wp2_with fail
        refine (zbN (VMsg.below HLV.out HVA.out.1) HAW.out).mono ?_
        rintro e u1 ⟨v1',rfl,hb,hM⟩
        obtain⟨fq,f1,g1,h1,f2,g2,h2,f3,g3,h3,rfl⟩:=hM.form
        have HMV:=hid hM
        have HVA:Hid (Below V9.heap.size V9 u1∧u1.cell? ⟨BL,0,none⟩=some (.int .i64 zq)∧u1.cell? ⟨BL,1,none⟩=some (.slice z1a z1b z1c)∧u1.cell? ⟨BL,2,none⟩=some (.slice z2a z2b z2c)∧u1.cell? ⟨BL,3,none⟩=some (.slice z3a z3b z3c)∧u1.cell? ⟨WX,0,none⟩=some (.int .i64 wq)∧u1.cell? ⟨WX,1,none⟩=some (.slice w1 w2n w3n)∧u1.cell? ⟨WX,2,none⟩=some (.slice w4 w5n w6n)∧u1.cell? ⟨WX,3,none⟩=some (.slice w7 w8n w9n)):=⟨HVA.out.1.trans (hb.mono HVA.out.1.size),⟨zaa hb _ _ HVA.out.2.1,zaa hb _ _ HVA.out.2.2.1,zaa hb _ _ HVA.out.2.2.2.1,zaa hb _ _ HVA.out.2.2.2.2.1,zaa hb _ _ HVA.out.2.2.2.2.2.1,zaa hb _ _ HVA.out.2.2.2.2.2.2.1,zaa hb _ _ HVA.out.2.2.2.2.2.2.2.1,zaa hb _ _ HVA.out.2.2.2.2.2.2.2.2⟩⟩
        clear hb hM
        go_wp2_with fail
        refine HK12.out _ _ HVA.out ?_
        clear HK12 K12
        intro _
        refine zf7 (by rfl) (fun K12 HK12=>?_)
        go_wp2_with fail
        refine (zaL (zbi m) HMV.out (VMsg.below HWW.out HVA.out.1)).mono ?_
        rintro e u2 ⟨rfl,hb⟩
        have HVA:Hid (Below V9.heap.size V9 u2∧u2.cell? ⟨BL,0,none⟩=some (.int .i64 zq)∧u2.cell? ⟨BL,1,none⟩=some (.slice z1a z1b z1c)∧u2.cell? ⟨BL,2,none⟩=some (.slice z2a z2b z2c)∧u2.cell? ⟨BL,3,none⟩=some (.slice z3a z3b z3c)∧u2.cell? ⟨WX,0,none⟩=some (.int .i64 wq)∧u2.cell? ⟨WX,1,none⟩=some (.slice w1 w2n w3n)∧u2.cell? ⟨WX,2,none⟩=some (.slice w4 w5n w6n)∧u2.cell? ⟨WX,3,none⟩=some (.slice w7 w8n w9n)):=⟨HVA.out.1.trans (hb.mono HVA.out.1.size),⟨zaa hb _ _ HVA.out.2.1,zaa hb _ _ HVA.out.2.2.1,zaa hb _ _ HVA.out.2.2.2.1,zaa hb _ _ HVA.out.2.2.2.2.1,zaa hb _ _ HVA.out.2.2.2.2.2.1,zaa hb _ _ HVA.out.2.2.2.2.2.2.1,zaa hb _ _ HVA.out.2.2.2.2.2.2.2.1,zaa hb _ _ HVA.out.2.2.2.2.2.2.2.2⟩⟩
        clear hb HMV
        go_wp2_with fail
        refine HK12.out _ _ HVA.out ?_
        clear HK12 K12
        intro _
        refine zbq (v:=?v111) ?ht111 ?hy111 ?hr111
        case ht111=>rfl
        case hy111=>(intro w hw;go_simp;all_goals rfl)
        simp only[Act.put,pzC,pzD,pzE]
        refine zaF (v:=?v112) ?hy112 ?hr112
        case hy112=>(intro w hw;go_simp;all_goals rfl)
        simp only[Act.put,pzC,pzD,pzE]
        refine zbQ ?_
        have HB2:=hid (HB2.out.trans (HVA.out.1.mono HB2.out.size))
        have hj:=HJ2.out.below HB2.out
        have j0:=hj.cell 0 _ rfl
        have j1:=hj.cell 1 _ rfl
        have jl:=hj.lt
        clear hj hw1 hw2 he1 he2
        have hp:=HP.out.below HB2.out
        have hq:=HQ.out.below HB2.out
        have HVB:Hid (Below u2.heap.size u2 u2∧u2.cell? ⟨BJ,0,none⟩=some (.slice q1a q1b q1c)∧u2.cell? ⟨BJ,1,none⟩=some (.slice q1d q1e q1f)∧u2.cell? ⟨P1,0,none⟩=some (.slice p1 q1 r1)∧u2.cell? ⟨P1,1,none⟩=some (.slice p2 q2 r2)∧u2.cell? ⟨P2,0,none⟩=some (.int .i64 vz)∧u2.cell? ⟨P2,1,none⟩=some (.slice p3 q3 r3)∧u2.cell? ⟨P2,2,none⟩=some (.slice p4 q4 r4)∧u2.cell? ⟨P2,3,none⟩=some (.slice p5 q5 r5)):=⟨Below.refl _ _,j0,j1,hp.c0,hp.c1,hq.c0,hq.c1,hq.c2,hq.c3⟩
        have HZM:=hid ((show zac (m+way.length) V2 _ (zdj way x v) by first|exact HZ2.out.1 rfl|exact HZ2.out.1 trivial).below HB2.out)
        clear hp hq j0 j1 jl
        go_upto_region 26 with fail
        refine zaY (fun w'=>Below u2.heap.size u2 w'∧w'.cell? ⟨BJ,0,none⟩=some (.slice q1a q1b q1c)∧w'.cell? ⟨BJ,1,none⟩=some (.slice q1d q1e q1f)∧w'.cell? ⟨P1,0,none⟩=some (.slice p1 q1 r1)∧w'.cell? ⟨P1,1,none⟩=some (.slice p2 q2 r2)∧w'.cell? ⟨P2,0,none⟩=some (.int .i64 vz)∧w'.cell? ⟨P2,1,none⟩=some (.slice p3 q3 r3)∧w'.cell? ⟨P2,2,none⟩=some (.slice p4 q4 r4)∧w'.cell? ⟨P2,3,none⟩=some (.slice p5 q5 r5)) (fun _=>True) 1 [(0,0,0),(2,0,0),(3,0,0),(4,0,0),(1,2,0),(5,2,0),(6,2,0),(7,0,0)] (by kernel_rfl) rfl rfl (by kernel_rfl) (fun _ _ dst _ _ h=>by cases dst <;> exact h) ⟨HVB.out.1.drew,HVB.out.2⟩ trivial (fun OPS _=>?_)
        simp only[List.map_cons,List.map_nil,List.filterMap_cons,List.filterMap_nil,List.getElem?_cons_succ,List.getElem?_cons_zero]
        have HVB:Hid (Below u2.heap.size u2 u2.drew∧u2.drew.cell? ⟨BJ,0,none⟩=some (.slice q1a q1b q1c)∧u2.drew.cell? ⟨BJ,1,none⟩=some (.slice q1d q1e q1f)∧u2.drew.cell? ⟨P1,0,none⟩=some (.slice p1 q1 r1)∧u2.drew.cell? ⟨P1,1,none⟩=some (.slice p2 q2 r2)∧u2.drew.cell? ⟨P2,0,none⟩=some (.int .i64 vz)∧u2.drew.cell? ⟨P2,1,none⟩=some (.slice p3 q3 r3)∧u2.drew.cell? ⟨P2,2,none⟩=some (.slice p4 q4 r4)∧u2.drew.cell? ⟨P2,3,none⟩=some (.slice p5 q5 r5)):=⟨HVB.out.1.drew,HVB.out.2⟩
        refine zaF (v:=?v116) ?hy116 ?hr116
        case hy116=>(intro w hw;go_simp;all_goals rfl)
        simp only[Act.put,pzC,pzD,pzE]
        refine zaF (v:=?v117) ?hy117 ?hr117
        case hy117=>(intro w hw;go_simp;all_goals rfl)
        simp only[Act.put,pzC,pzD,pzE]
        refine zaF (v:=?v118) ?hy118 ?hr118
        case hy118=>(intro w hw;go_simp;all_goals rfl)
        simp only[Act.put,pzC,pzD,pzE]
        refine zaF (v:=?v119) ?hy119 ?hr119
        case hy119=>(intro w hw;go_simp;all_goals rfl)
        simp only[Act.put,pzC,pzD,pzE]
        refine zfz (fun K12 HK12=>?_)
        go_wp2_with fail
        refine (zeA (HZM.out.below HVB.out.1) HZW.out).mono ?_
        rintro e u3 ⟨v3,rfl,hb,hM⟩
        obtain⟨f1,g1,h1,f2,g2,h2,rfl⟩:=hM.form
        have HMV:=hid hM
        have HVB:Hid (Below u2.heap.size u2 u3∧u3.cell? ⟨BJ,0,none⟩=some (.slice q1a q1b q1c)∧u3.cell? ⟨BJ,1,none⟩=some (.slice q1d q1e q1f)∧u3.cell? ⟨P1,0,none⟩=some (.slice p1 q1 r1)∧u3.cell? ⟨P1,1,none⟩=some (.slice p2 q2 r2)∧u3.cell? ⟨P2,0,none⟩=some (.int .i64 vz)∧u3.cell? ⟨P2,1,none⟩=some (.slice p3 q3 r3)∧u3.cell? ⟨P2,2,none⟩=some (.slice p4 q4 r4)∧u3.cell? ⟨P2,3,none⟩=some (.slice p5 q5 r5)):=⟨HVB.out.1.trans (hb.mono HVB.out.1.size),⟨zaa hb _ _ HVB.out.2.1,zaa hb _ _ HVB.out.2.2.1,zaa hb _ _ HVB.out.2.2.2.1,zaa hb _ _ HVB.out.2.2.2.2.1,zaa hb _ _ HVB.out.2.2.2.2.2.1,zaa hb _ _ HVB.out.2.2.2.2.2.2.1,zaa hb _ _ HVB.out.2.2.2.2.2.2.2.1,zaa hb _ _ HVB.out.2.2.2.2.2.2.2.2⟩⟩
        clear hb hM
        go_wp2_with fail
        refine HK12.out _ _ HVB.out ?_
        clear HK12 K12
        intro _
        have HRS:=hid (zhy way HNEW.out V2 u3 _ _ _ x v (HB2.out.trans (HVB.out.1.mono HB2.out.size)) HP.out.msg (HIY.out.below HB.out) HQ.out.val HSOK.out (Nat.le_trans HW2.out.1 (by decide)))
        refine zfz (fun K12 HK12=>?_)
        go_wp2_with fail
        refine HRS.out.mono ?_
        rintro e u4 ⟨v4,rfl,hb,hap⟩
        obtain⟨i1,i2,i3,i4,i5,i6,rfl⟩:=hap.here.form
        have HSM:=hid (zbi _ u4 _ _ _ (HMV.out.below hb) hap.here)
        have HVB:Hid (Below u2.heap.size u2 u4∧u4.cell? ⟨BJ,0,none⟩=some (.slice q1a q1b q1c)∧u4.cell? ⟨BJ,1,none⟩=some (.slice q1d q1e q1f)∧u4.cell? ⟨P1,0,none⟩=some (.slice p1 q1 r1)∧u4.cell? ⟨P1,1,none⟩=some (.slice p2 q2 r2)∧u4.cell? ⟨P2,0,none⟩=some (.int .i64 vz)∧u4.cell? ⟨P2,1,none⟩=some (.slice p3 q3 r3)∧u4.cell? ⟨P2,2,none⟩=some (.slice p4 q4 r4)∧u4.cell? ⟨P2,3,none⟩=some (.slice p5 q5 r5)):=⟨HVB.out.1.trans (hb.mono HVB.out.1.size),⟨zaa hb _ _ HVB.out.2.1,zaa hb _ _ HVB.out.2.2.1,zaa hb _ _ HVB.out.2.2.2.1,zaa hb _ _ HVB.out.2.2.2.2.1,zaa hb _ _ HVB.out.2.2.2.2.2.1,zaa hb _ _ HVB.out.2.2.2.2.2.2.1,zaa hb _ _ HVB.out.2.2.2.2.2.2.2.1,zaa hb _ _ HVB.out.2.2.2.2.2.2.2.2⟩⟩
        clear hb hap HRS HMV
        go_wp2_with fail
        refine HK12.out _ _ HVB.out ?_
        clear HK12 K12
        intro _
        refine zfz (fun K12 HK12=>?_)
        go_wp2_with fail
        refine HSM.out.mono ?_
        rintro e u5 ⟨rfl,hb⟩
        have HVB:Hid (Below u2.heap.size u2 u5∧u5.cell? ⟨BJ,0,none⟩=some (.slice q1a q1b q1c)∧u5.cell? ⟨BJ,1,none⟩=some (.slice q1d q1e q1f)∧u5.cell? ⟨P1,0,none⟩=some (.slice p1 q1 r1)∧u5.cell? ⟨P1,1,none⟩=some (.slice p2 q2 r2)∧u5.cell? ⟨P2,0,none⟩=some (.int .i64 vz)∧u5.cell? ⟨P2,1,none⟩=some (.slice p3 q3 r3)∧u5.cell? ⟨P2,2,none⟩=some (.slice p4 q4 r4)∧u5.cell? ⟨P2,3,none⟩=some (.slice p5 q5 r5)):=⟨HVB.out.1.trans (hb.mono HVB.out.1.size),⟨zaa hb _ _ HVB.out.2.1,zaa hb _ _ HVB.out.2.2.1,zaa hb _ _ HVB.out.2.2.2.1,zaa hb _ _ HVB.out.2.2.2.2.1,zaa hb _ _ HVB.out.2.2.2.2.2.1,zaa hb _ _ HVB.out.2.2.2.2.2.2.1,zaa hb _ _ HVB.out.2.2.2.2.2.2.2.1,zaa hb _ _ HVB.out.2.2.2.2.2.2.2.2⟩⟩
        clear hb HSM
        go_wp2_with fail
        refine HK12.out _ _ HVB.out ?_
        clear HK12 K12
        intro _
        refine zaF (v:=?v123) ?hy123 ?hr123
        case hy123=>(intro w hw;go_simp;all_goals rfl)
        simp only[Act.put,pzC,pzD,pzE]
        refine zbQ ?_
        have HE:=hid (HB.out.trans ((HB2.out.trans (HVB.out.1.mono HB2.out.size)).mono HB.out.size))
        go_wp2_with fail
        go_ret
        exact⟨by simp,HE.out⟩
   ·
    obtain rfl:ce=may:=by rw[HCEU.out,if_pos hm0]
    obtain rfl:ca=ce:=by rw[HCAU.out,if_pos hm0]
    have HCN:=hid hm0
    have HCN2:=hid hm0
    have hmb:((ca:Int) == 0)=false:=by simpa using hm0
    clear hm0
    go_upto_region 17 with fail
    obtain⟨WX,HWX⟩:∃ b,Hid (b=V5.heap.size):=⟨_,rfl⟩
    obtain⟨V6,HV6⟩:∃ W,Hid (W=V5.alloc (.cells #[.int .i64 0,.slice none 0 0,.slice none 0 0,.slice none 0 0] 42)):=⟨_,rfl⟩
    have hbw:Below V5.heap.size V5 V6:=by rw[HV6.out];exact (Below.refl _ _).alloc (Nat.le_refl _) _
    have hkw:Blk V6 WX [.int .i64 0,.slice none 0 0,.slice none 0 0,.slice none 0 0] 42:=by rw[HV6.out,HWX.out];exact Blk.new V5 [.int .i64 0,.slice none 0 0,.slice none 0 0,.slice none 0 0] _
    have HWV:Hid (V2.heap.size≤WX):=by rw[HWX.out];exact HB2.out.size
    have HB2:=hid (HB2.out.trans (hbw.mono HB2.out.size))
    clear HFX hmb
    go_upto_region 18 with fail
    rw[←HV6.out,←HWX.out]
    have hmb:((ca:Int) == 0)=false:=by simpa using HCN.out
    have HWK:=hid hkw
    have HWW:Hid (zat (zac m) V6 (.agg #[.int .i64 0,.slice none 0 0,.slice none 0 0,.slice none 0 0]) (atV s root way x)):=by
     rw[HAV.out,if_neg HCN2.out]
     exact zfn _ _
    have HAW:Hid (vwt (mwt m) (atV s root way x)≤1099511627776):=by
     rw[HAV.out,if_neg HCN2.out]
     show 1+0+0+0≤1099511627776
     omega
    clear hbw hkw
    have hL:=HL.out.below HB2.out
    have HLV:=hid hL.val
    have HCL:=HC12.out
    have hw1:IntKind.i64.wrap (ca:Int)=ca:=IntWalk.i64_in _ (by omega)
    have hw2:IntKind.i64.wrap (ca:Int)=ca:=IntWalk.i64_in _ (by omega)
    have he1:((ca:Int) != (ca:Int))=false:=by first|(simp;done)|(have h:=HCV.out;have hm':=HM0.out;simp;omega)
    have he2:((ca:Int) != (ca:Int))=false:=by first|(simp;done)|(have h:=HAVV.out;have hm':=HM0.out;simp;omega)
    have HVA:Hid (Below V6.heap.size V6 V6∧V6.cell? ⟨BL,0,none⟩=some (.int .i64 zq)∧V6.cell? ⟨BL,1,none⟩=some (.slice z1a z1b z1c)∧V6.cell? ⟨BL,2,none⟩=some (.slice z2a z2b z2c)∧V6.cell? ⟨BL,3,none⟩=some (.slice z3a z3b z3c)∧V6.cell? ⟨WX,0,none⟩=some (.int .i64 0)∧V6.cell? ⟨WX,1,none⟩=some (.slice none 0 0)∧V6.cell? ⟨WX,2,none⟩=some (.slice none 0 0)∧V6.cell? ⟨WX,3,none⟩=some (.slice none 0 0)):=⟨Below.refl _ _,hL.c0,hL.c1,hL.c2,hL.c3,HWK.out.cell 0 _ rfl,HWK.out.cell 1 _ rfl,HWK.out.cell 2 _ rfl,HWK.out.cell 3 _ rfl⟩
    clear hL HCL
    go_upto_region 22 with fail
    refine zaY (fun w'=>Below V6.heap.size V6 w'∧w'.cell? ⟨BL,0,none⟩=some (.int .i64 zq)∧w'.cell? ⟨BL,1,none⟩=some (.slice z1a z1b z1c)∧w'.cell? ⟨BL,2,none⟩=some (.slice z2a z2b z2c)∧w'.cell? ⟨BL,3,none⟩=some (.slice z3a z3b z3c)∧w'.cell? ⟨WX,0,none⟩=some (.int .i64 0)∧w'.cell? ⟨WX,1,none⟩=some (.slice none 0 0)∧w'.cell? ⟨WX,2,none⟩=some (.slice none 0 0)∧w'.cell? ⟨WX,3,none⟩=some (.slice none 0 0)) (fun _=>True) 12 [(0,0,0),(1,0,0),(2,0,0),(3,0,0),(4,0,0),(5,4,117),(6,4,117),(7,4,117),(8,4,117),(9,0,0),(10,0,0),(11,4,123),(13,4,123),(12,6,123),(14,6,123),(15,4,123),(16,0,0)] (by kernel_rfl) rfl rfl (by kernel_rfl) (fun _ _ dst _ _ h=>by cases dst <;> exact h) ⟨HVA.out.1.drew,HVA.out.2⟩ trivial (fun OPS _=>?_)
    simp only[List.map_cons,List.map_nil,List.filterMap_cons,List.filterMap_nil,List.getElem?_cons_succ,List.getElem?_cons_zero]
    have HVA:Hid (Below V6.heap.size V6 V6.drew∧V6.drew.cell? ⟨BL,0,none⟩=some (.int .i64 zq)∧V6.drew.cell? ⟨BL,1,none⟩=some (.slice z1a z1b z1c)∧V6.drew.cell? ⟨BL,2,none⟩=some (.slice z2a z2b z2c)∧V6.drew.cell? ⟨BL,3,none⟩=some (.slice z3a z3b z3c)∧V6.drew.cell? ⟨WX,0,none⟩=some (.int .i64 0)∧V6.drew.cell? ⟨WX,1,none⟩=some (.slice none 0 0)∧V6.drew.cell? ⟨WX,2,none⟩=some (.slice none 0 0)∧V6.drew.cell? ⟨WX,3,none⟩=some (.slice none 0 0)):=⟨HVA.out.1.drew,HVA.out.2⟩
    refine zaF (v:=?v127) ?hy127 ?hr127
    case hy127=>(intro w hw;go_simp;all_goals rfl)
    simp only[Act.put,pzC,pzD,pzE]
    refine zaF (v:=?v128) ?hy128 ?hr128
    case hy128=>(intro w hw;go_simp;all_goals rfl)
    simp only[Act.put,pzC,pzD,pzE]
    refine zaF (v:=?v129) ?hy129 ?hr129
    case hy129=>(intro w hw;go_simp;all_goals rfl)
    simp only[Act.put,pzC,pzD,pzE]
    refine zaF (v:=?v130) ?hy130 ?hr130
    case hy130=>(intro w hw;go_simp;all_goals rfl)
    simp only[Act.put,pzC,pzD,pzE]
    refine zaF (v:=?v131) ?hy131 ?hr131
    case hy131=>(intro w hw;go_simp;all_goals rfl)
    simp only[Act.put,pzC,pzD,pzE]
    refine zbq (v:=?v132) ?ht132 ?hy132 ?hr132
    case ht132=>rfl
    case hy132=>(intro w hw;go_simp;all_goals rfl)
    simp only[Act.put,pzC,pzD,pzE]
    refine zbq (v:=?v133) ?ht133 ?hy133 ?hr133
    case ht133=>rfl
    case hy133=>(intro w hw;go_simp;all_goals rfl)
    simp only[Act.put,pzC,pzD,pzE]
    refine zbq (v:=?v134) ?ht134 ?hy134 ?hr134
    case ht134=>rfl
    case hy134=>(intro w hw;go_simp;all_goals rfl)
    simp only[Act.put,pzC,pzD,pzE]
    refine zbq (v:=?v135) ?ht135 ?hy135 ?hr135
    case ht135=>rfl
    case hy135=>(intro w hw;go_simp;all_goals rfl)
    simp only[Act.put,pzC,pzD,pzE]
    refine zaF (v:=?v136) ?hy136 ?hr136
    case hy136=>(intro w hw;go_simp;all_goals rfl)
    simp only[Act.put,pzC,pzD,pzE]
    refine zaF (v:=?v137) ?hy137 ?hr137
    case hy137=>(intro w hw;go_simp;all_goals rfl)
    simp only[Act.put,pzC,pzD,pzE]
    refine zbq (v:=?v138) ?ht138 ?hy138 ?hr138
    case ht138=>rfl
    case hy138=>(intro w hw;go_simp;all_goals rfl)
    simp only[Act.put,pzC,pzD,pzE]
    refine zbq (v:=?v139) ?ht139 ?hy139 ?hr139
    case ht139=>rfl
    case hy139=>(intro w hw;go_simp;all_goals rfl)
    simp only[Act.put,pzC,pzD,pzE]
    refine zf7 (by rfl) (fun K12 HK12=>?_)
    go_wp2_with fail
    refine (zbN (VMsg.below HLV.out HVA.out.1) HAW.out).mono ?_
    rintro e u1 ⟨v1',rfl,hb,hM⟩
    obtain⟨fq,f1,g1,h1,f2,g2,h2,f3,g3,h3,rfl⟩:=hM.form
    have HMV:=hid hM
    have HVA:Hid (Below V6.heap.size V6 u1∧u1.cell? ⟨BL,0,none⟩=some (.int .i64 zq)∧u1.cell? ⟨BL,1,none⟩=some (.slice z1a z1b z1c)∧u1.cell? ⟨BL,2,none⟩=some (.slice z2a z2b z2c)∧u1.cell? ⟨BL,3,none⟩=some (.slice z3a z3b z3c)∧u1.cell? ⟨WX,0,none⟩=some (.int .i64 0)∧u1.cell? ⟨WX,1,none⟩=some (.slice none 0 0)∧u1.cell? ⟨WX,2,none⟩=some (.slice none 0 0)∧u1.cell? ⟨WX,3,none⟩=some (.slice none 0 0)):=⟨HVA.out.1.trans (hb.mono HVA.out.1.size),⟨zaa hb _ _ HVA.out.2.1,zaa hb _ _ HVA.out.2.2.1,zaa hb _ _ HVA.out.2.2.2.1,zaa hb _ _ HVA.out.2.2.2.2.1,zaa hb _ _ HVA.out.2.2.2.2.2.1,zaa hb _ _ HVA.out.2.2.2.2.2.2.1,zaa hb _ _ HVA.out.2.2.2.2.2.2.2.1,zaa hb _ _ HVA.out.2.2.2.2.2.2.2.2⟩⟩
    clear hb hM
    go_wp2_with fail
    refine HK12.out _ _ HVA.out ?_
    clear HK12 K12
    intro _
    refine zf7 (by rfl) (fun K12 HK12=>?_)
    go_wp2_with fail
    refine (zaL (zbi m) HMV.out (VMsg.below HWW.out HVA.out.1)).mono ?_
    rintro e u2 ⟨rfl,hb⟩
    have HVA:Hid (Below V6.heap.size V6 u2∧u2.cell? ⟨BL,0,none⟩=some (.int .i64 zq)∧u2.cell? ⟨BL,1,none⟩=some (.slice z1a z1b z1c)∧u2.cell? ⟨BL,2,none⟩=some (.slice z2a z2b z2c)∧u2.cell? ⟨BL,3,none⟩=some (.slice z3a z3b z3c)∧u2.cell? ⟨WX,0,none⟩=some (.int .i64 0)∧u2.cell? ⟨WX,1,none⟩=some (.slice none 0 0)∧u2.cell? ⟨WX,2,none⟩=some (.slice none 0 0)∧u2.cell? ⟨WX,3,none⟩=some (.slice none 0 0)):=⟨HVA.out.1.trans (hb.mono HVA.out.1.size),⟨zaa hb _ _ HVA.out.2.1,zaa hb _ _ HVA.out.2.2.1,zaa hb _ _ HVA.out.2.2.2.1,zaa hb _ _ HVA.out.2.2.2.2.1,zaa hb _ _ HVA.out.2.2.2.2.2.1,zaa hb _ _ HVA.out.2.2.2.2.2.2.1,zaa hb _ _ HVA.out.2.2.2.2.2.2.2.1,zaa hb _ _ HVA.out.2.2.2.2.2.2.2.2⟩⟩
    clear hb HMV
    go_wp2_with fail
    refine HK12.out _ _ HVA.out ?_
    clear HK12 K12
    intro _
    refine zbq (v:=?v143) ?ht143 ?hy143 ?hr143
    case ht143=>rfl
    case hy143=>(intro w hw;go_simp;all_goals rfl)
    simp only[Act.put,pzC,pzD,pzE]
    refine zaF (v:=?v144) ?hy144 ?hr144
    case hy144=>(intro w hw;go_simp;all_goals rfl)
    simp only[Act.put,pzC,pzD,pzE]
    refine zbQ ?_
    have HB2:=hid (HB2.out.trans (HVA.out.1.mono HB2.out.size))
    have hj:=HJ2.out.below HB2.out
    have j0:=hj.cell 0 _ rfl
    have j1:=hj.cell 1 _ rfl
    have jl:=hj.lt
    clear hj hw1 hw2 he1 he2
    have hzm:=(HZ2.out.2 HCN.out).below HB2.out
    have HOF:=hid (zeA hzm (by decide +kernel))
    have hcn:((ca:Int) != 0)=true:=by first|decide|(simpa using HCN.out)
    clear hzm
    go_wp2_with fail
    refine HOF.out.mono ?_
    rintro e u3 ⟨v3,rfl,hb3,hM3⟩
    obtain⟨f1,g1,h1,f2,g2,h2,rfl⟩:=hM3.form
    have HSM:=hid (zbi 1 u3 _ _ _ hM3 (zeh u3 0))
    have HB2:=hid (HB2.out.trans (hb3.mono HB2.out.size))
    clear hb3 hM3 HOF j0 j1 jl
    go_wp2_with fail
    refine HSM.out.mono ?_
    rintro e u4 ⟨rfl,hb4⟩
    have HE:=hid (HB.out.trans ((HB2.out.trans (hb4.mono HB2.out.size)).mono HB.out.size))
    clear hb4 HSM
    go_wp2_with fail
    go_ret
    exact⟨by simp,HE.out⟩
theorem zfo {w:World}{sv va vw vv:Value}{s:List Mes}{m:Nat}{way:List Int}{x:M (m+way.length)}{v:Val (M m)}(hS:zaj w sv s)(root:Int)(ha:zac (m+way.length) w va x)(hy:zar w vw way)(hv:zat (zac m) w vv v)(hwa:mwt (m+way.length) x≤1099511627776)(hwv:vwt (mwt m) v≤1099511627775) :
  Calls Tryz.prog 3 #[sv,.int .i64 root,va,vw,vv] w fun e w'=>e= .returned (.bool true)∧Below w.heap.size w w':=zfN hS root ha hy hv hwa (by omega)
end
end Go.Proofs.YtdpnmdkbdibkpaaGreatDoor
