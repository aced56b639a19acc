/- algebra.both: both values of a field, joined (bothV), where messages of a lesser depth are joined. Values of at most 2^29 things. -/
import Derived.Test.YtdpnmdkbdibkpaaGreatDoorZ13
import Derived.Test.YtdpnmdkbdibkpaaGreatDoorZ14
import Derived.Test.YtdpnmdkbdibkpaaGreatDoorZ15
import Derived.Test.YtdpnmdkbdibkpaaGreatDoorZ17
import Derived.Test.YtdpnmdkbdibkpaaGreatDoorZ18
import Derived.Deep.CutBlock
namespace Go.Proofs.YtdpnmdkbdibkpaaGreatDoor
set_option maxRecDepth 100000
set_option maxHeartbeats 16000000
section
open Go.RowKit Go.Shelf
def ziR (w0:World)(sv:Value)(s:List Mes)(d:Nat):Prop:=∀ (m:Nat) (w:World) (av bv:Value) (a b:M d),m<s.length→Below w0.heap.size w0 w→zac d w0 av a→zac d w0 bv b→zae s d (m:Int) a=true→zae s d (m:Int) b=true→mwt d a≤536870912→mwt d b≤536870912 →
 Calls Tryz.prog 46 #[sv,.int .i64 (m:Int),av,bv] w fun e w'=>∃ v',e= .returned v'∧Below w.heap.size w w'∧zap w0.heap.size w.heap.size w' fun W=>zac d W v' (zdL s d m a b)
theorem znX {w:World}{p:Nat}{a1 a2:Option Addr}{n1 n2 k1 k2:Nat}{l1 l2:List Nat}(h1:zbn w (.slice a1 n1 k1) l1)(h2:zbn w (.slice a2 n2 k2) l2)(c1:w.cell? ⟨p,0,none⟩=some (.slice a1 n1 k1))(c2:w.cell? ⟨p,1,none⟩=some (.slice a2 n2 k2))(hl1:l1.length≤1099511627776)(hl2:l2.length≤1099511627776) :
  Calls Tryz.prog 118 #[.slice (some ⟨p,0,none⟩) 2 2] w fun e w'=>∃ a n c,e= .returned (.slice a n c)∧zap 0 w.heap.size w' (fun W=>zbn W (.slice a n c) (l1++l2))∧Below w.heap.size w w':=by
 obtain⟨-,_,_,e1,-⟩:=h1.open
 obtain⟨-,_,_,e2,-⟩:=h2.open
 injection e1 with _ e1 _
 injection e2 with _ e2 _
 subst e1 e2
 refine (zjU h1.1 h2.1 (fun u hu=>by obtain⟨x,-,rfl⟩:=List.mem_map.1 hu;rfl) (fun u hu=>by obtain⟨x,-,rfl⟩:=List.mem_map.1 hu;rfl) c1 c2 hl1 hl2).mono ?_
 rintro e w' ⟨a,c,rfl,hO,hb⟩
 refine⟨a,_,c,rfl,fun W hW=>⟨?_,fun x hx=>(List.mem_append.1 hx).elim (h1.2 x) (h2.2 x)⟩,hb⟩
 have:=zbo (zbk hO fun b _ hb he=>hW b (Array.getElem?_eq_some_iff.1 he).1 (.inr hb)) (by omega)
 rw[List.length_append,List.map_append]
 exact this
theorem zlC {w:World}{p:Nat}{a1 a2:Option Addr}{n1 n2 k1 k2:Nat}{l1 l2:List (List UInt8)}(h1:zaV w (.slice a1 n1 k1) l1)(h2:zaV w (.slice a2 n2 k2) l2)(c1:w.cell? ⟨p,0,none⟩=some (.slice a1 n1 k1))(c2:w.cell? ⟨p,1,none⟩=some (.slice a2 n2 k2))(hl1:l1.length≤1099511627776)(hl2:l2.length≤1099511627776) :
  Calls Tryz.prog 80 #[.slice (some ⟨p,0,none⟩) 2 2] w fun e w'=>∃ a n c,e= .returned (.slice a n c)∧zap 0 w.heap.size w' (fun W=>zaV W (.slice a n c) (l1++l2))∧Below w.heap.size w w':=by
 obtain⟨-,_,_,e1,-⟩:=h1.open
 obtain⟨-,_,_,e2,-⟩:=h2.open
 injection e1 with _ e1 _
 injection e2 with _ e2 _
 subst e1 e2
 refine (zkK h1.1 h2.1 (fun u hu=>by obtain⟨x,-,rfl⟩:=List.mem_map.1 hu;rfl) (fun u hu=>by obtain⟨x,-,rfl⟩:=List.mem_map.1 hu;rfl) c1 c2 hl1 hl2).mono ?_
 rintro e w' ⟨a,c,rfl,hO,hb⟩
 refine⟨a,_,c,rfl,fun W hW=>⟨?_,fun x hx=>(List.mem_append.1 hx).elim (h1.2 x) (h2.2 x)⟩,hb⟩
 have:=zbo (zbk hO fun b _ hb he=>hW b (Array.getElem?_eq_some_iff.1 he).1 (.inr hb)) (by omega)
 rw[List.length_append,List.map_append]
 exact this
theorem zo8 {d:Nat}{w0 w:World}{p:Nat}{a1 a2:Option Addr}{n1 n2 k1 k2:Nat}{l1 l2:List (M d)}(hb0:Below w0.heap.size w0 w)(h1:zc8 (zac d) w0 (.slice a1 n1 k1) l1)(h2:zc8 (zac d) w0 (.slice a2 n2 k2) l2)(c1:w.cell? ⟨p,0,none⟩=some (.slice a1 n1 k1))(c2:w.cell? ⟨p,1,none⟩=some (.slice a2 n2 k2))(hl1:l1.length≤1099511627776)(hl2:l2.length≤1099511627776) :
  Calls Tryz.prog 119 #[.slice (some ⟨p,0,none⟩) 2 2] w fun e w'=>∃ a n c,e= .returned (.slice a n c)∧zap w0.heap.size w.heap.size w' (fun W=>zc8 (zac d) W (.slice a n c) (l1++l2))∧Below w.heap.size w w':=by
 obtain⟨-,_,_,e1,-⟩:=h1.open
 obtain⟨-,_,_,e2,-⟩:=h2.open
 injection e1 with _ e1 _
 injection e2 with _ e2 _
 subst e1 e2
 obtain⟨r1,x1,x2,x3,x4⟩:=h1
 obtain⟨r2,y1,y2,y3,y4⟩:=h2
 have one:∀ (rows:List (List Value)) (l:List (M d)),rows.length=l.length→(∀ (i:Nat) (r:List Value) (x:M d),rows[i]?=some r→l[i]?=some x→zac d w0 (.agg r.toArray) x)→∀ u∈rows.flatten,u.oneCell'=true:=by
  intro rows l hl h u hu
  obtain⟨r,hr,hur⟩:=List.mem_flatten.1 hu
  obtain⟨i,hi⟩:=List.mem_iff_getElem?.1 hr
  have hil:i<l.length:=by rw[←hl];exact (List.getElem?_eq_some_iff.1 hi).1
  obtain⟨b1,m1,c1,b2,m2,c2,e⟩:=(h i r _ hi (List.getElem?_eq_getElem hil)).form
  injection e with e
  have e2:r=[.slice b1 m1 c1,.slice b2 m2 c2]:=by
   have:=congrArg Array.toList e
   simpa using this
  rw[e2] at hur
  simp at hur
  rcases hur with rfl|rfl <;> rfl
 refine (zkL (x3.keep (zaa hb0)) (y3.keep (zaa hb0)) (one r1 l1 x1 x4) (one r2 l2 y1 y4) c1 c2 hl1 hl2).mono ?_
 rintro e w' ⟨a,c,rfl,hO,hb⟩
 refine⟨a,_,c,rfl,fun W hW=>⟨r1++r2,by rw[List.length_append,List.length_append,x1,y1],fun r hr=>(List.mem_append.1 hr).elim (x2 r) (y2 r),?_,fun i r x hr hx=>?_⟩,hb⟩
 ·
  have:=zbo (zbk hO fun b _ hb he=>hW b (Array.getElem?_eq_some_iff.1 he).1 (.inr hb)) (by omega)
  rw[List.length_append,List.flatten_append]
  exact this
 ·
  have hk:∀ p u,w0.cell? p=some u→W.cell? p=some u:=fun p u hp=>by
   have hlt:=World.block_lt_of_cell? w0 _ hp
   have h2:=zaa hb _ _ (zaa hb0 _ _ hp)
   exact (World.cell?_of_block (hW p.block (World.block_lt_of_cell? w' _ h2) (.inl hlt))).trans h2
  rcases Nat.lt_or_ge i l1.length with hlt|hge
  ·
   rw[List.getElem?_append_left (by omega)] at hr hx
   exact (x4 i r x hr hx).keep hk
  ·
   rw[List.getElem?_append_right (by omega)] at hr hx
   rw[x1] at hr
   exact (y4 _ r x hr hx).keep hk
theorem zlD {α:Type}{f:α→Nat}(hf:∀ y,1≤f y){v:Val α}{n:Nat}(h:vwt f v≤n):v.words.length≤n∧v.texts.length≤n∧v.subs.length≤n:=by
 unfold vwt at h
 have h1:v.texts.length≤twt v.texts:=by
  unfold twt
  generalize v.texts=l
  induction l with
  | nil=>simp
  | cons t r ih=>simp;omega
 have h2:v.subs.length≤(v.subs.map f).sum:=by
  generalize v.subs=l
  induction l with
  | nil=>simp
  | cons t r ih=>have:=hf t;simp;omega
 omega
def zmp (n0 B d:Nat)(a1 a2 a3 b1 b2 b3:Value)(a b:Val (M d)):Nat→World→Value→Prop
 | 6,w,v=>∃ p,v= .slice (some ⟨p,0,none⟩) 2 2∧w.cell? ⟨p,0,none⟩=some a1∧w.cell? ⟨p,1,none⟩=some b1
 | 12,w,v=>∃ p,v= .slice (some ⟨p,0,none⟩) 2 2∧w.cell? ⟨p,0,none⟩=some a2∧w.cell? ⟨p,1,none⟩=some b2
 | 18,w,v=>∃ p,v= .slice (some ⟨p,0,none⟩) 2 2∧w.cell? ⟨p,0,none⟩=some a3∧w.cell? ⟨p,1,none⟩=some b3
 | 7,w,v=>∃ q n c,v= .slice q n c∧zap n0 B w fun W=>zbn W (.slice q n c) (a.words++b.words)
 | 13,w,v=>∃ q n c,v= .slice q n c∧zap n0 B w fun W=>zaV W (.slice q n c) (a.texts++b.texts)
 | 19,w,v=>∃ q n c,v= .slice q n c∧zap n0 B w fun W=>zc8 (zac d) W (.slice q n c) (a.subs++b.subs)
 | _,_,_=>True
theorem zmp.below {n0 B d:Nat}{a1 a2 a3 b1 b2 b3:Value}{a b:Val (M d)}:∀ (i:Nat) (w w':World) (v:Value),zmp n0 B d a1 a2 a3 b1 b2 b3 a b i w v→Below w.heap.size w w'→zmp n0 B d a1 a2 a3 b1 b2 b3 a b i w' v:=by
 intro i w w' v h hb
 have hk:=zaa hb
 unfold zmp at h ⊢
 split
 ·
  obtain⟨p,e,h1,h2⟩:=h;exact⟨p,e,hk _ _ h1,hk _ _ h2⟩
 ·
  obtain⟨p,e,h1,h2⟩:=h;exact⟨p,e,hk _ _ h1,hk _ _ h2⟩
 ·
  obtain⟨p,e,h1,h2⟩:=h;exact⟨p,e,hk _ _ h1,hk _ _ h2⟩
 ·
  obtain⟨q,n,c,e,h1⟩:=h;exact⟨q,n,c,e,h1.later hb⟩
 ·
  obtain⟨q,n,c,e,h1⟩:=h;exact⟨q,n,c,e,h1.later hb⟩
 ·
  obtain⟨q,n,c,e,h1⟩:=h;exact⟨q,n,c,e,h1.later hb⟩
 ·
  trivial
theorem zo9 {d:Nat}{w0 w:World}{sv av bv:Value}{s:List Mes}(hrec:ziR w0 sv s d)(hS:zaj w0 sv s)(hw:Below w0.heap.size w0 w){f:Fld}{a b:Val (M d)}(ha:zat (zac d) w0 av a)(hb:zat (zac d) w0 bv b)(hn:f.number=b.num)
  (hfa:zbp (zae s d) f a=true) (hfb:zbp (zae s d) f b=true) (hwa:vwt (mwt d) a≤536870912) (hwb:vwt (mwt d) b≤536870912) :
  Calls Tryz.prog 79 #[sv,f.val,av,bv] w fun e w'=>∃ v',e= .returned v'∧Below w.heap.size w w'∧zap w0.heap.size w.heap.size w' fun W=>zat (zac d) W v' (zej (fun o x y=>zdL s d o x y) f a b):=by
 have HA:=hid ha
 have HB:=hid hb
 obtain⟨A1,A2,A3,rfl,hna,hWa,hTa,hSa⟩:=ha
 obtain⟨B1,B2,B3,rfl,hnb,hWb,hTb,hSb⟩:=hb
 obtain⟨-,a1,c1,rfl,-,-⟩:=hWa.open
 obtain⟨-,a2,c2,rfl,-,-⟩:=hTa.open
 obtain⟨-,a3,c3,rfl,-,-⟩:=hSa.open
 obtain⟨-,b1,e1,rfl,-,-⟩:=hWb.open
 obtain⟨-,b2,e2,rfl,-,-⟩:=hTb.open
 obtain⟨-,b3,e3,rfl,-,-⟩:=hSb.open
 have HLA:=hid (zlD zkD hwa)
 have HLB:=hid (zlD zkD hwb)
 have HWA:=hid (And.intro hWa (And.intro hTa hSa))
 have HWB:=hid (And.intro hWb (And.intro hTb hSb))
 obtain⟨n1,HN1⟩:∃ n,Hid (n=a.words.length):=⟨_,rfl⟩
 obtain⟨n2,HN2⟩:∃ n,Hid (n=a.texts.length):=⟨_,rfl⟩
 obtain⟨n3,HN3⟩:∃ n,Hid (n=a.subs.length):=⟨_,rfl⟩
 obtain⟨k1,HK1⟩:∃ n,Hid (n=b.words.length):=⟨_,rfl⟩
 obtain⟨k2,HK2⟩:∃ n,Hid (n=b.texts.length):=⟨_,rfl⟩
 obtain⟨k3,HK3⟩:∃ n,Hid (n=b.subs.length):=⟨_,rfl⟩
 obtain⟨an,HAN⟩:∃ n,Hid (n=a.num):=⟨_,rfl⟩
 obtain⟨bn,HBN⟩:∃ n,Hid (n=b.num):=⟨_,rfl⟩
 rw[←HN1.out,←HN2.out,←HN3.out] at HWA HA ⊢
 rw[←HK1.out,←HK2.out,←HK3.out] at HWB HB ⊢
 rw[←HAN.out] at HA ⊢
 rw[←HBN.out] at HB hn hnb ⊢
 obtain⟨fname,fnumber,fkind,frep,fpacked,fof⟩:=f
 simp only at hn
 subst hn
 obtain⟨Q,HQ⟩:∃ Q:Ending→World→Prop,Hid (Q=fun e w'=>∃ v',e= .returned v'∧Below w.heap.size w w'∧zap w0.heap.size w.heap.size w' fun W=>zat (zac d) W v' (zej (fun o x y=>zdL s d o x y) ⟨fname,fnumber,fkind,frep,fpacked,fof⟩ a b)):=⟨_,rfl⟩
 rw[←HQ.out]
 obtain⟨X,HX⟩:∃ X,Hid (X=w.heap.size):=⟨_,rfl⟩
 obtain⟨W1,HW1⟩:∃ W,Hid (W=(((w.alloc (.cells #[.string fname,.int .i64 fnumber,.int .i64 fkind,.bool frep,.bool fpacked,.int .i64 fof] 51)).alloc (.cells #[.int .i64 an,.slice a1 n1 c1,.slice a2 n2 c2,.slice a3 n3 c3] 32)).alloc (.cells #[.int .i64 fnumber,.slice b1 k1 e1,.slice b2 k2 e2,.slice b3 k3 e3] 32)).alloc (.cells #[.int .i64 0,.slice none 0 0,.slice none 0 0,.slice none 0 0] 32)):=⟨_,rfl⟩
 have hb1:Below w.heap.size w W1:=by rw[HW1.out];(with_reducible repeat first|exact Below.refl _ _|refine pzA ?_ _|refine pzB ?_ _|refine zab ?_ _|refine Below.drew ?_)
 have hf1:Blk W1 X [.string fname,.int .i64 fnumber,.int .i64 fkind,.bool frep,.bool fpacked,.int .i64 fof] 51:=by rw[HW1.out,HX.out];exact (((Blk.new w [.string fname,.int .i64 fnumber,.int .i64 fkind,.bool frep,.bool fpacked,.int .i64 fof] _).alloc _).alloc _).alloc _
 have hx1:Blk W1 (X+1) [.int .i64 an,.slice a1 n1 c1,.slice a2 n2 c2,.slice a3 n3 c3] 32:=by rw[HW1.out,HX.out];exact ((Blk.new' _ [.int .i64 an,.slice a1 n1 c1,.slice a2 n2 c2,.slice a3 n3 c3] _ _ (by simp)).alloc _).alloc _
 have hy1:Blk W1 (X+1+1) [.int .i64 fnumber,.slice b1 k1 e1,.slice b2 k2 e2,.slice b3 k3 e3] 32:=by rw[HW1.out,HX.out];exact (Blk.new' _ [.int .i64 fnumber,.slice b1 k1 e1,.slice b2 k2 e2,.slice b3 k3 e3] _ _ (by simp)).alloc _
 have hr1:Blk W1 (X+1+1+1) [.int .i64 0,.slice none 0 0,.slice none 0 0,.slice none 0 0] 32:=by rw[HW1.out,HX.out];exact Blk.new' _ [.int .i64 0,.slice none 0 0,.slice none 0 0,.slice none 0 0] _ _ (by simp)
 have HB1:=hid hb1
 have HR1:=hid hr1
 have HFB:=hid (And.intro hfa hfb)
 have HRE:=hid hrec
 have HSS:=hid hS
 have HW0:=hid hw
 have HB01:=hid (hw.trans (hb1.mono hw.size))
 have HWT:=hid (And.intro hwa hwb)
 have hS2:=hS
 obtain⟨-,sa,sc,rfl,-⟩:=hS2.open
 obtain⟨sn,HSN⟩:∃ n,Hid (n=s.length):=⟨_,rfl⟩
 rw[←HSN.out] at HSS HRE ⊢
 -- the end: four stores into the result
 have HEND:Hid (∀ (W:World) (v1 v2 v3:Value),Below w.heap.size w W→Blk W (X+1+1+1) [.int .i64 0,.slice none 0 0,.slice none 0 0,.slice none 0 0] 32→zap w0.heap.size W1.heap.size W (fun W'=>zat (zac d) W' (.agg #[.int .i64 fnumber,v1,v2,v3]) (zej (fun o x y=>zdL s d o x y) ⟨fname,fnumber,fkind,frep,fpacked,fof⟩ a b)) →
   Q (.returned (.agg #[.int .i64 fnumber,v1,v2,v3])) ((((W.setCell ⟨X+1+1+1,0,none⟩ (.int .i64 fnumber)).setCell ⟨X+1+1+1,1,none⟩ v1).setCell ⟨X+1+1+1,2,none⟩ v2).setCell ⟨X+1+1+1,3,none⟩ v3)):=by
  intro W v1 v2 v3 hB hR h
  rw[HQ.out]
  obtain⟨-,hbut⟩:=zoJ (a:=.int .i64 fnumber) (b:=v1) (c:=v2) (e:=v3) hR
  have hB2:=hB.trans (hbut.to_below (by rw[HX.out];omega) hB.size)
  have hrl:=HR1.out.lt
  have h0:=HW0.out.size
  refine⟨_,rfl,hB2,fun W' hW=>h W' fun b hlt hc=>?_⟩
  have hne:b≠X+1+1+1:=by have:=HX.out;omega
  exact (hW b (Nat.lt_of_lt_of_le hlt hbut.size) (hc.imp id fun h=>by have:=HB1.out.size;omega)).trans (hbut.block b hlt hne)
 clear hb1 hw hS hS2 hfa hfb hrec hwa hwb hWa hTa hSa hWb hTb hSb
 cases frep with
 | true =>
  have hV0:Below W1.heap.size W1 W1∧W1.cell? ⟨X,1,none⟩=some (.int .i64 fnumber)∧W1.cell? ⟨X+1,1,none⟩=some (.slice a1 n1 c1)∧W1.cell? ⟨X+1,2,none⟩=some (.slice a2 n2 c2)∧W1.cell? ⟨X+1,3,none⟩=some (.slice a3 n3 c3)∧W1.cell? ⟨X+1+1,1,none⟩=some (.slice b1 k1 e1)∧W1.cell? ⟨X+1+1,2,none⟩=some (.slice b2 k2 e2)∧W1.cell? ⟨X+1+1,3,none⟩=some (.slice b3 k3 e3):=⟨Below.refl _ _,hf1.cell 1 _ rfl,hx1.cell 1 _ rfl,hx1.cell 2 _ rfl,hx1.cell 3 _ rfl,hy1.cell 1 _ rfl,hy1.cell 2 _ rfl,hy1.cell 3 _ rfl⟩
  have f3:=hf1.cell 3 _ rfl
  have fl:=hf1.lt
  have HV0:=hid hV0
  clear hV0 hf1 hx1 hy1 hr1
  simp only[Fld.val]
  go_enter Tryz.func79,Tryz.ntmps79
  go_upto_region 1 with fail
  rw[←HW1.out,←HX.out]
  go_upto_region 2 with fail
  clear f3 fl
  refine zff (fun w'=>Below W1.heap.size W1 w'∧w'.cell? ⟨X,1,none⟩=some (.int .i64 fnumber)∧w'.cell? ⟨X+1,1,none⟩=some (.slice a1 n1 c1)∧w'.cell? ⟨X+1,2,none⟩=some (.slice a2 n2 c2)∧w'.cell? ⟨X+1,3,none⟩=some (.slice a3 n3 c3)∧w'.cell? ⟨X+1+1,1,none⟩=some (.slice b1 k1 e1)∧w'.cell? ⟨X+1+1,2,none⟩=some (.slice b2 k2 e2)∧w'.cell? ⟨X+1+1,3,none⟩=some (.slice b3 k3 e3)) (zmp w0.heap.size W1.heap.size d (.slice a1 n1 c1) (.slice a2 n2 c2) (.slice a3 n3 c3) (.slice b1 k1 e1) (.slice b2 k2 e2) (.slice b3 k3 e3) a b) 21 [0,1,2,3,4,5,8,9,10,11,14,15,16,17] [⟨6,18,[]⟩,⟨7,19,[6]⟩,⟨12,24,[]⟩,⟨13,25,[12]⟩,⟨18,30,[]⟩,⟨19,31,[18]⟩] [(20,0,0),(21,2,0)] (by kernel_rfl) rfl (by kernel_rfl) (by kernel_rfl) (by kernel_rfl) (fun _ _ dst _ _ h=>by cases dst <;> exact h) zmp.below ⟨HV0.out.1.drew,HV0.out.2⟩ (fun OPS HOPS=>?_)
  have hops:=HOPS.out
  subst hops
  simp only[List.map_cons,List.map_nil,List.filterMap_cons,List.filterMap_nil,List.getElem?_cons_succ,List.getElem?_cons_zero]
  refine zb6 (v:=?v0) ?hy0 ?hr0
  case hy0=>(intro w hw;go_simp;all_goals rfl)
  simp only[Act.put,pzC,pzD,pzE]
  refine zb6 (v:=?v1) ?hy1 ?hr1
  case hy1=>(intro w hw;go_simp;all_goals rfl)
  simp only[Act.put,pzC,pzD,pzE]
  refine zb6 (v:=?v2) ?hy2 ?hr2
  case hy2=>(intro w hw;go_simp;all_goals rfl)
  simp only[Act.put,pzC,pzD,pzE]
  refine zb6 (v:=?v3) ?hy3 ?hr3
  case hy3=>(intro w hw;go_simp;all_goals rfl)
  simp only[Act.put,pzC,pzD,pzE]
  refine zb6 (v:=?v4) ?hy4 ?hr4
  case hy4=>(intro w hw;go_simp;all_goals rfl)
  simp only[Act.put,pzC,pzD,pzE]
  refine zb6 (v:=?v5) ?hy5 ?hr5
  case hy5=>(intro w hw;go_simp;all_goals rfl)
  simp only[Act.put,pzC,pzD,pzE]
  refine zb6 (v:=?v6) ?hy6 ?hr6
  case hy6=>(intro w hw;go_simp;all_goals rfl)
  simp only[Act.put,pzC,pzD,pzE]
  refine zb6 (v:=?v7) ?hy7 ?hr7
  case hy7=>(intro w hw;go_simp;all_goals rfl)
  simp only[Act.put,pzC,pzD,pzE]
  refine zb6 (v:=?v8) ?hy8 ?hr8
  case hy8=>(intro w hw;go_simp;all_goals rfl)
  simp only[Act.put,pzC,pzD,pzE]
  refine zb6 (v:=?v9) ?hy9 ?hr9
  case hy9=>(intro w hw;go_simp;all_goals rfl)
  simp only[Act.put,pzC,pzD,pzE]
  refine zb6 (v:=?v10) ?hy10 ?hr10
  case hy10=>(intro w hw;go_simp;all_goals rfl)
  simp only[Act.put,pzC,pzD,pzE]
  refine zb6 (v:=?v11) ?hy11 ?hr11
  case hy11=>(intro w hw;go_simp;all_goals rfl)
  simp only[Act.put,pzC,pzD,pzE]
  refine zb6 (v:=?v12) ?hy12 ?hr12
  case hy12=>(intro w hw;go_simp;all_goals rfl)
  simp only[Act.put,pzC,pzD,pzE]
  refine zb6 (v:=?v13) ?hy13 ?hr13
  case hy13=>(intro w hw;go_simp;all_goals rfl)
  simp only[Act.put,pzC,pzD,pzE]
  refine⟨?obs,?fin⟩
  case obs =>
   refine zdQ rfl ?_ (zdQ rfl ?_ (zdQ rfl ?_ (zdQ rfl ?_ (zdQ rfl ?_ (zdQ rfl ?_ znU)))))
   all_goals
    intro vals w7 hV hd K HK
    have HVW:=hid hV
    have hK:=HK.out
    clear hV HK
    simp only[zfU,List.foldl_cons,List.foldl_nil,Act.put,List.setIfInBounds_toArray,List.set_cons_zero,List.set_cons_succ] at hK ⊢
    have HK:=hid hK
    clear hK
   ·
    go_wp2_with fail
    have hbA:Below w7.heap.size w7 (w7.alloc (.cells #[.slice a1 n1 c1,.slice b1 k1 e1] 29)):=(Below.refl _ _).alloc (Nat.le_refl _) _
    have hBk:=Blk.new w7 [.slice a1 n1 c1,.slice b1 k1 e1] 29
    exact HK.out _ _ ⟨HVW.out.1.trans (hbA.mono HVW.out.1.size),⟨zaa hbA _ _ HVW.out.2.1,zaa hbA _ _ HVW.out.2.2.1,zaa hbA _ _ HVW.out.2.2.2.1,zaa hbA _ _ HVW.out.2.2.2.2.1,zaa hbA _ _ HVW.out.2.2.2.2.2.1,zaa hbA _ _ HVW.out.2.2.2.2.2.2.1,zaa hbA _ _ HVW.out.2.2.2.2.2.2.2⟩⟩ hbA ⟨_,rfl,hBk.cell 0 _ rfl,hBk.cell 1 _ rfl⟩
   ·
    obtain⟨p,hp,h1,h2⟩:=hd 6 (by simp)
    generalize vals 6=u6 at hp HK ⊢
    subst hp
    have hk:=zaa (HB01.out.trans (HVW.out.1.mono HB01.out.size))
    have hsz7:=HVW.out.1.size
    have HC:=hid (znX (HWA.out.1.keep hk) (HWB.out.1.keep hk) h1 h2 (by have:=HLA.out.1;omega) (by have:=HLB.out.1;omega))
    clear h1 h2 hd hk
    go_wp2_with fail
    refine HC.out.mono ?_
    rintro e w8 ⟨q,n,c,rfl,hW,hb8⟩
    go_wp2_with fail
    exact HK.out _ _ ⟨HVW.out.1.trans (hb8.mono HVW.out.1.size),⟨zaa hb8 _ _ HVW.out.2.1,zaa hb8 _ _ HVW.out.2.2.1,zaa hb8 _ _ HVW.out.2.2.2.1,zaa hb8 _ _ HVW.out.2.2.2.2.1,zaa hb8 _ _ HVW.out.2.2.2.2.2.1,zaa hb8 _ _ HVW.out.2.2.2.2.2.2.1,zaa hb8 _ _ HVW.out.2.2.2.2.2.2.2⟩⟩ hb8 ⟨q,n,c,rfl,(hW.mono hsz7).wider (Nat.zero_le _)⟩
   ·
    go_wp2_with fail
    have hbA:Below w7.heap.size w7 (w7.alloc (.cells #[.slice a2 n2 c2,.slice b2 k2 e2] 25)):=(Below.refl _ _).alloc (Nat.le_refl _) _
    have hBk:=Blk.new w7 [.slice a2 n2 c2,.slice b2 k2 e2] 25
    exact HK.out _ _ ⟨HVW.out.1.trans (hbA.mono HVW.out.1.size),⟨zaa hbA _ _ HVW.out.2.1,zaa hbA _ _ HVW.out.2.2.1,zaa hbA _ _ HVW.out.2.2.2.1,zaa hbA _ _ HVW.out.2.2.2.2.1,zaa hbA _ _ HVW.out.2.2.2.2.2.1,zaa hbA _ _ HVW.out.2.2.2.2.2.2.1,zaa hbA _ _ HVW.out.2.2.2.2.2.2.2⟩⟩ hbA ⟨_,rfl,hBk.cell 0 _ rfl,hBk.cell 1 _ rfl⟩
   ·
    obtain⟨p,hp,h1,h2⟩:=hd 12 (by simp)
    generalize vals 12=u6 at hp HK ⊢
    subst hp
    have hk:=zaa (HB01.out.trans (HVW.out.1.mono HB01.out.size))
    have hsz7:=HVW.out.1.size
    have HC:=hid (zlC (HWA.out.2.1.keep hk) (HWB.out.2.1.keep hk) h1 h2 (by have:=HLA.out.2.1;omega) (by have:=HLB.out.2.1;omega))
    clear h1 h2 hd hk
    go_wp2_with fail
    refine HC.out.mono ?_
    rintro e w8 ⟨q,n,c,rfl,hW,hb8⟩
    go_wp2_with fail
    exact HK.out _ _ ⟨HVW.out.1.trans (hb8.mono HVW.out.1.size),⟨zaa hb8 _ _ HVW.out.2.1,zaa hb8 _ _ HVW.out.2.2.1,zaa hb8 _ _ HVW.out.2.2.2.1,zaa hb8 _ _ HVW.out.2.2.2.2.1,zaa hb8 _ _ HVW.out.2.2.2.2.2.1,zaa hb8 _ _ HVW.out.2.2.2.2.2.2.1,zaa hb8 _ _ HVW.out.2.2.2.2.2.2.2⟩⟩ hb8 ⟨q,n,c,rfl,(hW.mono hsz7).wider (Nat.zero_le _)⟩
   ·
    go_wp2_with fail
    have hbA:Below w7.heap.size w7 (w7.alloc (.cells #[.slice a3 n3 c3,.slice b3 k3 e3] 30)):=(Below.refl _ _).alloc (Nat.le_refl _) _
    have hBk:=Blk.new w7 [.slice a3 n3 c3,.slice b3 k3 e3] 30
    exact HK.out _ _ ⟨HVW.out.1.trans (hbA.mono HVW.out.1.size),⟨zaa hbA _ _ HVW.out.2.1,zaa hbA _ _ HVW.out.2.2.1,zaa hbA _ _ HVW.out.2.2.2.1,zaa hbA _ _ HVW.out.2.2.2.2.1,zaa hbA _ _ HVW.out.2.2.2.2.2.1,zaa hbA _ _ HVW.out.2.2.2.2.2.2.1,zaa hbA _ _ HVW.out.2.2.2.2.2.2.2⟩⟩ hbA ⟨_,rfl,hBk.cell 0 _ rfl,hBk.cell 1 _ rfl⟩
   ·
    obtain⟨p,hp,h1,h2⟩:=hd 18 (by simp)
    generalize vals 18=u6 at hp HK ⊢
    subst hp
    have hk:=zaa (HB01.out.trans (HVW.out.1.mono HB01.out.size))
    have hsz7:=HVW.out.1.size
    have HC:=hid (zo8 (HB01.out.trans (HVW.out.1.mono HB01.out.size)) HWA.out.2.2 HWB.out.2.2 h1 h2 (by have:=HLA.out.2.2;omega) (by have:=HLB.out.2.2;omega))
    clear h1 h2 hd hk
    go_wp2_with fail
    refine HC.out.mono ?_
    rintro e w8 ⟨q,n,c,rfl,hW,hb8⟩
    go_wp2_with fail
    exact HK.out _ _ ⟨HVW.out.1.trans (hb8.mono HVW.out.1.size),⟨zaa hb8 _ _ HVW.out.2.1,zaa hb8 _ _ HVW.out.2.2.1,zaa hb8 _ _ HVW.out.2.2.2.1,zaa hb8 _ _ HVW.out.2.2.2.2.1,zaa hb8 _ _ HVW.out.2.2.2.2.2.1,zaa hb8 _ _ HVW.out.2.2.2.2.2.2.1,zaa hb8 _ _ HVW.out.2.2.2.2.2.2.2⟩⟩ hb8 ⟨q,n,c,rfl,hW.mono hsz7⟩
  case fin =>
   intro vals w7 hV hI
   obtain⟨q1,m1,d1,hv1,hW⟩:=hI ⟨7,19,[6]⟩ (by simp)
   obtain⟨q2,m2,d2,hv2,hT⟩:=hI ⟨13,25,[12]⟩ (by simp)
   obtain⟨q3,m3,d3,hv3,hSb⟩:=hI ⟨19,31,[18]⟩ (by simp)
   simp only[zfU,List.foldl_cons,List.foldl_nil,Act.put,List.setIfInBounds_toArray,List.set_cons_zero,List.set_cons_succ]
   have hr7:=HR1.out.below hV.1
   have HB7:=hid (HB1.out.trans (hV.1.mono HB1.out.size))
   have HE:=hid (HEND.out w7 (.slice q1 m1 d1) (.slice q2 m2 d2) (.slice q3 m3 d3) HB7.out hr7 (by
    intro W' h2
    unfold zej
    rw[if_pos rfl]
    exact⟨_,_,_,by rw[←HBN.out],by rw[←HBN.out];exact hnb,hW W' h2,hT W' h2,hSb W' h2⟩))
   generalize vals 7=u7 at hv1 ⊢
   generalize vals 13=u13 at hv2 ⊢
   generalize vals 19=u19 at hv3 ⊢
   subst hv1 hv2 hv3
   generalize vals 6=u6
   generalize vals 12=u12
   generalize vals 18=u18
   have r0:=hr7.cell 0 _ rfl
   have r1:=hr7.cell 1 _ rfl
   have r2:=hr7.cell 2 _ rfl
   have r3:=hr7.cell 3 _ rfl
   have f0:=hr7.free 0
   have f1:=hr7.free 1
   have f2:=hr7.free 2
   have f3:=hr7.free 3
   have rl:=hr7.lt
   obtain⟨hk2,-⟩:=zoJ (a:=.int .i64 fnumber) (b:=.slice q1 m1 d1) (c:=.slice q2 m2 d2) (e:=.slice q3 m3 d3) hr7
   have s0:=hk2.cell 0 _ rfl
   have s1:=hk2.cell 1 _ rfl
   have s2:=hk2.cell 2 _ rfl
   have s3:=hk2.cell 3 _ rfl
   clear hV hI hW hT hSb hr7 hk2
   refine zaF (v:=?v20) ?hy20 ?hr20
   case hy20=>(intro w hw;go_simp;all_goals rfl)
   simp only[Act.put,pzC,pzD,pzE]
   refine zfz (fun K12 HK12=>?_)
   go_wp2_with fail
   refine HK12.out _ _ trivial ?_
   clear HK12 K12
   intro _
   refine zbQ ?_
   clear r0 r1 r2 r3 f0 f1 f2 f3
   go_wp2_with fail
   refine bodyPost_ret (v:=.agg #[.int .i64 fnumber,.slice q1 m1 d1,.slice q2 m2 d2,.slice q3 m3 d3]) ?_ rfl HE.out
   simp[results,Tryz.results79,go_sem,s0,s1,s2,s3]
 | false =>
  have f1:=hf1.cell 1 _ rfl
  have f2:=hf1.cell 2 _ rfl
  have f3:=hf1.cell 3 _ rfl
  have f5:=hf1.cell 5 _ rfl
  have fl:=hf1.lt
  have x3:=hx1.cell 3 _ rfl
  have xl:=hx1.lt
  have y0:=hy1.cell 0 _ rfl
  have y1:=hy1.cell 1 _ rfl
  have y2:=hy1.cell 2 _ rfl
  have y3:=hy1.cell 3 _ rfl
  have yl:=hy1.lt
  have HF1:=hid hf1
  clear hf1 hx1 hy1 hr1
  simp only[Fld.val]
  by_cases h17:fkind=17
  ·
   obtain⟨x,hxs,hrx⟩:=zeC HFB.out.1 h17 rfl
   obtain⟨y,hys,hry⟩:=zeC HFB.out.2 h17 rfl
   replace hrx:zae s d fof x=true:=hrx
   replace hry:zae s d fof y=true:=hry
   obtain⟨r,hr,hrs⟩:=zg5 hrx
   rw[hr] at hrx hry
   have hSA:=HWA.out.2.2
   have hSB:=HWB.out.2.2
   rw[hxs] at hSA
   rw[hys] at hSB
   obtain⟨-,ga,gc,hge,-,hgat⟩:=hSA.open
   obtain⟨-,ja,jc,hje,-,hjat⟩:=hSB.open
   obtain⟨gb,go,u1,u2,hga,gg0,gg1,hMx⟩:=hgat 0 x rfl
   obtain⟨jb,jo,v1,v2,hja,jj0,jj1,hMy⟩:=hjat 0 y rfl
   obtain⟨rfl,rfl,rfl⟩:a3=ga∧n3=1∧c3=gc:=by injection hge with h1 h2 h3;exact⟨h1,h2,h3⟩
   obtain⟨rfl,rfl,rfl⟩:b3=ja∧k3=1∧e3=jc:=by injection hje with h1 h2 h3;exact⟨h1,h2,h3⟩
   subst hga hja
   rw[Nat.zero_mul,Nat.add_zero] at gg0 gg1 jj0 jj1
   obtain⟨s1,s1n,s1c,s2,s2n,s2c,hse⟩:=hMx.form
   obtain⟨rfl,rfl⟩:u1= .slice s1 s1n s1c∧u2= .slice s2 s2n s2c:=by cases hse;exact⟨rfl,rfl⟩
   obtain⟨t1,t1n,t1c,t2,t2n,t2c,hte⟩:=hMy.form
   obtain⟨rfl,rfl⟩:v1= .slice t1 t1n t1c∧v2= .slice t2 t2n t2c:=by cases hte;exact⟨rfl,rfl⟩
   have hk01:=zaa HB01.out
   have g0:=hk01 _ _ gg0
   have g1:=hk01 _ _ gg1
   have j0:=hk01 _ _ jj0
   have j1:=hk01 _ _ jj1
   have hwx:mwt d x≤536870912:=by
    have h3:mwt d x≤vwt (mwt d) a:=by unfold vwt;rw[hxs,List.map_cons,List.map_nil,List.sum_cons,List.sum_nil];omega
    have:=HWT.out.1
    omega
   have hwy:mwt d y≤536870912:=by
    have h3:mwt d y≤vwt (mwt d) b:=by unfold vwt;rw[hys,List.map_cons,List.map_nil,List.sum_cons,List.sum_nil];omega
    have:=HWT.out.2
    omega
   have HREC:=hid (HRE.out r W1.drew _ _ x y hrs HB01.out.drew hMx hMy hrx hry hwx hwy)
   have HJN:Hid (zej (fun o x y=>zdL s d o x y) ⟨fname,fnumber,fkind,false,fpacked,fof⟩ a b=⟨fnumber,[],[],[zdL s d r x y]⟩):=by
    rw[Hid,HBN.out]
    unfold zej
    rw[if_neg (by simp),if_pos h17,hxs,hys,hr];rfl
   have HGM:Hid (gb<W1.heap.size∧jb<W1.heap.size):=⟨World.block_lt_of_cell? W1 _ g0,World.block_lt_of_cell? W1 _ j0⟩
   have gl:=HGM.out.1
   have jl:=HGM.out.2
   have hixa:∀ W,(Instr.indexAt 30 (.slice (some ⟨gb,go,none⟩) 1 c3) (.int .i64 0)).run Tryz.prog W= .ok (.pointer (some ⟨gb,go,none⟩)) W:=by
    intro W
    have:=zad Tryz.underlying30 zbX (a:=some ⟨gb,go,none⟩) rfl 0 (by decide:0<1) W (cap:=c3)
    simpa using this
   have hixb:∀ W,(Instr.indexAt 30 (.slice (some ⟨jb,jo,none⟩) 1 e3) (.int .i64 0)).run Tryz.prog W= .ok (.pointer (some ⟨jb,jo,none⟩)) W:=by
    intro W
    have:=zad Tryz.underlying30 zbX (a:=some ⟨jb,jo,none⟩) rfl 0 (by decide:0<1) W (cap:=e3)
    simpa using this
   rw[h17] at f2
   rw[hr] at f5
   have hV1:W1.drew.cell? ⟨X,1,none⟩=some (.int .i64 fnumber):=f1
   have hX1:W1.drew.cell? ⟨X,5,none⟩=some (.int .i64 (r:Int))∧W1.drew.cell? ⟨X+1,3,none⟩=some (.slice (some ⟨gb,go,none⟩) 1 c3)∧W1.drew.cell? ⟨X+1+1,3,none⟩=some (.slice (some ⟨jb,jo,none⟩) 1 e3)∧W1.drew.cell? ⟨gb,go,none⟩=some (.slice s1 s1n s1c)∧W1.drew.cell? ⟨gb,go+1,none⟩=some (.slice s2 s2n s2c)∧W1.drew.cell? ⟨jb,jo,none⟩=some (.slice t1 t1n t1c)∧W1.drew.cell? ⟨jb,jo+1,none⟩=some (.slice t2 t2n t2c):=⟨f5,x3,y3,g0,g1,j0,j1⟩
   have HV1:=hid (And.intro hV1 hX1)
   clear hge hje hgat hjat gg0 gg1 jj0 jj1 hMx hMy hse hte hk01 hwx hwy hrx hry hxs hys hrs hSA hSB hV1 hX1 hr h17
   go_enter Tryz.func79,Tryz.ntmps79
   go_upto_region 1 with fail
   rw[←HW1.out,←HX.out]
   go_upto_region 4 with fail
   clear f1 f2 f3 f5 fl x3 xl y0 y1 y2 y3 yl g0 g1 j0 j1 gl jl
   refine zaS (fun w'=>w'.cell? ⟨X,1,none⟩=some (.int .i64 fnumber)) (fun w'=>w'.cell? ⟨X,5,none⟩=some (.int .i64 (r:Int))∧w'.cell? ⟨X+1,3,none⟩=some (.slice (some ⟨gb,go,none⟩) 1 c3)∧w'.cell? ⟨X+1+1,3,none⟩=some (.slice (some ⟨jb,jo,none⟩) 1 e3)∧w'.cell? ⟨gb,go,none⟩=some (.slice s1 s1n s1c)∧w'.cell? ⟨gb,go+1,none⟩=some (.slice s2 s2n s2c)∧w'.cell? ⟨jb,jo,none⟩=some (.slice t1 t1n t1c)∧w'.cell? ⟨jb,jo+1,none⟩=some (.slice t2 t2n t2c)) 13 [(0,0),(1,0),(2,0),(3,1),(4,1),(5,1),(6,1),(7,1),(8,1),(9,1),(10,1),(11,1),(12,1),(13,2),(14,2),(15,0),(16,2)] (by kernel_rfl) rfl rfl (by kernel_rfl) (fun _ _ dst _ _ h=>by cases dst <;> exact h) HV1.out.1 HV1.out.2 (fun OPS _=>?_)
   simp only[List.map_cons,List.map_nil,List.filterMap_cons,List.filterMap_nil,List.getElem?_cons_succ,List.getElem?_cons_zero]
   refine zav (v:=?v100) ?hy100 ?hr100
   case hy100=>(intro w hw;go_simp;all_goals rfl)
   simp only[Act.put,pzC,pzD,pzE]
   refine zav (v:=?v101) ?hy101 ?hr101
   case hy101=>(intro w hw;go_simp;all_goals rfl)
   simp only[Act.put,pzC,pzD,pzE]
   refine zav (v:=?v102) ?hy102 ?hr102
   case hy102=>(intro w hw;go_simp;all_goals rfl)
   simp only[Act.put,pzC,pzD,pzE]
   refine zhI (v:=?v103) ?hy103 ?hr103
   case hy103=>(intro w hw;go_simp;all_goals rfl)
   simp only[Act.put,pzC,pzD,pzE]
   refine zhI (v:=?v104) ?hy104 ?hr104
   case hy104=>(intro w hw;go_simp;all_goals rfl)
   simp only[Act.put,pzC,pzD,pzE]
   refine zhI (v:=?v105) ?hy105 ?hr105
   case hy105=>(intro w hw;go_simp;all_goals rfl)
   simp only[Act.put,pzC,pzD,pzE]
   refine zhI (v:=?v106) ?hy106 ?hr106
   case hy106=>(intro w hw;go_simp;all_goals rfl)
   simp only[Act.put,pzC,pzD,pzE]
   refine zhI (v:=?v107) ?hy107 ?hr107
   case hy107=>(intro w hw;go_simp;all_goals rfl)
   simp only[Act.put,pzC,pzD,pzE]
   refine zhI (v:=?v108) ?hy108 ?hr108
   case hy108=>(intro w hw;go_simp;all_goals rfl)
   simp only[Act.put,pzC,pzD,pzE]
   refine zhI (v:=?v109) ?hy109 ?hr109
   case hy109=>(intro w hw;go_simp;all_goals rfl)
   simp only[Act.put,pzC,pzD,pzE]
   refine zhI (v:=?v110) ?hy110 ?hr110
   case hy110=>(intro w hw;go_simp;all_goals rfl)
   simp only[Act.put,pzC,pzD,pzE]
   refine zhI (v:=?v111) ?hy111 ?hr111
   case hy111=>(intro w hw;go_simp;all_goals rfl)
   simp only[Act.put,pzC,pzD,pzE]
   refine zhI (v:=?v112) ?hy112 ?hr112
   case hy112=>(intro w hw;go_simp;all_goals rfl)
   simp only[Act.put,pzC,pzD,pzE]
   refine zcY (fun K12 HK12=>?_)
   go_wp2_with fail
   refine HREC.out.mono ?_
   rintro e w8 ⟨v8,rfl,hb8,hap⟩
   obtain⟨p1,p1n,p1c,p2,p2n,p2c,rfl⟩:=hap.here.form
   have hn8:w8.cell? ⟨X,1,none⟩=some (.int .i64 fnumber):=zaa hb8 _ _ HV1.out.1
   go_wp2_with fail
   refine HK12.out _ _ hn8 ?_
   clear HK12 K12
   intro _
   refine zcY (fun K12 HK12=>?_)
   go_wp2_with fail
   obtain⟨W9,HW9⟩:∃ W,Hid (W=w8.alloc (.cells #[.slice p1 p1n p1c,.slice p2 p2n p2c] 27)):=⟨_,rfl⟩
   have hb9:Below w8.heap.size w8 W9:=by rw[HW9.out];exact (Below.refl _ _).alloc (Nat.le_refl _) _
   have hg9:Blk W9 w8.heap.size [.slice p1 p1n p1c,.slice p2 p2n p2c] 27:=by rw[HW9.out];exact Blk.new w8 [.slice p1 p1n p1c,.slice p2 p2n p2c] _
   have hb19:Below W1.heap.size W1 W9:=(Below.refl W1.heap.size W1).drew.trans (hb8.trans (hb9.mono hb8.size))
   have hr9:=HR1.out.below hb19
   have hB9:=HB1.out.trans (hb19.mono HB1.out.size)
   have hs18:W1.heap.size≤w8.heap.size:=hb8.size
   have HE:=hid (HEND.out W9 (.slice none 0 0) (.slice none 0 0) (.slice (some ⟨w8.heap.size,0,none⟩) 1 1) hB9 hr9 (by
    intro W' hW
    rw[HJN.out]
    refine zfD hnb (T:=27) (c1:=.slice p1 p1n p1c) (c2:=.slice p2 p2n p2c) ((hW w8.heap.size hg9.lt (.inr hs18)).trans hg9) ?_
    exact hap W' fun b hlt hc=>(hW b (Nat.lt_of_lt_of_le hlt hb9.size) (hc.imp id fun h=>h)).trans (hb9.block b hlt)))
   have hn9:W9.cell? ⟨X,1,none⟩=some (.int .i64 fnumber):=zaa hb9 _ _ hn8
   have r0:=hr9.cell 0 _ rfl
   have r1:=hr9.cell 1 _ rfl
   have r2:=hr9.cell 2 _ rfl
   have r3:=hr9.cell 3 _ rfl
   have z0:=hr9.free 0
   have z1:=hr9.free 1
   have z2:=hr9.free 2
   have z3:=hr9.free 3
   have rl:=hr9.lt
   obtain⟨hk2,hbut⟩:=zoJ (a:=.int .i64 fnumber) (b:=.slice none 0 0) (c:=.slice none 0 0) (e:=.slice (some ⟨w8.heap.size,0,none⟩) 1 1) hr9
   have q0:=hk2.cell 0 _ rfl
   have q1:=hk2.cell 1 _ rfl
   have q2:=hk2.cell 2 _ rfl
   have q3:=hk2.cell 3 _ rfl
   have HN10:Hid (((((W9.setCell ⟨X+1+1+1,0,none⟩ (.int .i64 fnumber)).setCell ⟨X+1+1+1,1,none⟩ (.slice none 0 0)).setCell ⟨X+1+1+1,2,none⟩ (.slice none 0 0)).setCell ⟨X+1+1+1,3,none⟩ (.slice (some ⟨w8.heap.size,0,none⟩) 1 1)).cell? ⟨X,1,none⟩=some (.int .i64 fnumber)):=
    (World.cell?_of_block (hbut.block X (World.block_lt_of_cell? W9 _ hn9) (by omega))).trans hn9
   rw[←HW9.out]
   obtain⟨z8,HZ8⟩:∃ z,Hid (z=w8.heap.size):=⟨_,rfl⟩
   rw[←HZ8.out] at HE q0 q1 q2 q3 HN10 ⊢
   refine HK12.out _ _ hn9 ?_
   clear HK12 K12 hap hb8 hb9 hg9 hb19 hr9 hB9 hs18 hk2 hbut hn8
   intro _
   refine zav (v:=?v115) ?hy115 ?hr115
   case hy115=>(intro w hw;go_simp;all_goals rfl)
   simp only[Act.put,pzC,pzD,pzE]
   refine zcY (fun K12 HK12=>?_)
   go_wp2_with fail
   refine HK12.out _ _ HN10.out ?_
   clear HK12 K12 r0 r1 r2 r3 z0 z1 z2 z3
   intro _
   refine zcE ?_
   go_wp2_with fail
   refine bodyPost_ret (v:=.agg #[.int .i64 fnumber,.slice none 0 0,.slice none 0 0,.slice (some ⟨z8,0,none⟩) 1 1]) ?_ rfl HE.out
   simp[results,Tryz.results79,go_sem,q0,q1,q2,q3]
  ·
   have e17:((fkind:Int) == 17)=false:=by simpa using h17
   have HE:=hid (HEND.out W1 (.slice b1 k1 e1) (.slice b2 k2 e2) (.slice b3 k3 e3) HB1.out HR1.out (by
    intro W' hW
    unfold zej
    rw[if_neg (by simp),if_neg h17]
    exact VMsg.keep HB.out (zdq rfl HB01.out hW)))
   have hr9:=HR1.out
   have r0:=hr9.cell 0 _ rfl
   have r1:=hr9.cell 1 _ rfl
   have r2:=hr9.cell 2 _ rfl
   have r3:=hr9.cell 3 _ rfl
   have z0:=hr9.free 0
   have z1:=hr9.free 1
   have z2:=hr9.free 2
   have z3:=hr9.free 3
   have rl:=hr9.lt
   obtain⟨hk2,-⟩:=zoJ (a:=.int .i64 fnumber) (b:=.slice b1 k1 e1) (c:=.slice b2 k2 e2) (e:=.slice b3 k3 e3) hr9
   have q0:=hk2.cell 0 _ rfl
   have q1:=hk2.cell 1 _ rfl
   have q2:=hk2.cell 2 _ rfl
   have q3:=hk2.cell 3 _ rfl
   clear hr9 hk2 h17
   go_enter Tryz.func79,Tryz.ntmps79
   go_upto_region 1 with fail
   rw[←HW1.out,←HX.out]
   go_wp2_with fail
   refine bodyPost_ret (v:=.agg #[.int .i64 fnumber,.slice b1 k1 e1,.slice b2 k2 e2,.slice b3 k3 e3]) ?_ rfl HE.out
   simp[results,Tryz.results79,go_sem,q0,q1,q2,q3]
end
end Go.Proofs.YtdpnmdkbdibkpaaGreatDoor
