/- algebra.join of two right meanings (joinM), for each depth: a map gone through in any order. Meanings of at most 2^29 things. -/
import Derived.Test.YtdpnmdkbdibkpaaGreatDoorZ19
import Derived.Test.YtdpnmdkbdibkpaaGreatDoorZ20
import Derived.Test.YtdpnmdkbdibkpaaGreatDoorZ25
namespace Go.Proofs.YtdpnmdkbdibkpaaGreatDoor
set_option maxRecDepth 100000
set_option maxHeartbeats 16000000
section
open Go.RowKit Go.Maps Go.Sort Go.Shelf
structure JI (d n0 B:Nat)(w wr:World)(X ra rb it:Nat)(m1 m2:List Value)(esa esb es:List (Int × Value))(gs av bv:List (Val (M d)))(gj:Val (M d)→Val (M d)→Val (M d))(todo:Int→Bool)(cnt:Nat):Prop where
 map:zas wr ra zbK es
 vals:zo2 d n0 B wr es gs
 nd:(es.map Prod.fst).Nodup
 rng:Rng wr rb it esb todo cnt
 old:∀ n,todo n=true→zal n es=zal n esa
 get:∀ n,zbu gs n=match zbu bv n with|some v=>if todo n=true then zbu av n else some (zd6 gj av v)|none=>zbu av n
 below:Below w.heap.size w wr
 bx:Blk wr X m1 27
 by':Blk wr (X+1) m2 27
 br:Blk wr (X+1+1) [.slice none 0 0,.slice none 0 0] 27
 big:B≤wr.heap.size
theorem JI.step {d n0 B:Nat}{w wr:World}{X ra rb it:Nat}{m1 m2:List Value}{esa esb es:List (Int × Value)}{gs av bv:List (Val (M d))}{gj:Val (M d)→Val (M d)→Val (M d)}{todo:Int→Bool}{cnt:Nat}(h:JI d n0 B w wr X ra rb it m1 m2 esa esb es gs av bv gj todo cnt)
  (hgj:∀ a b,(gj a b).num=b.num) (hs:n0≤X∧w.heap.size=X∧X+1+1<ra∧ra<rb∧rb<it∧it<B) {W:World} {x:Int} {cnt':Nat} (hb:But it wr W) (hrng:Rng W rb it esb (fun z=>todo z&&decide (z≠x)) cnt') {u:Value} {v:Val (M d)} (hv:zbu bv x=some v) (hu:zap n0 B W fun W'=>zat (zac d) W' u (zd6 gj av v)) :
  JI d n0 B w (za9 W ra zbK (zf2 x u es)) X ra rb it m1 m2 esa esb (zf2 x u es) (zoH (zd6 gj av v) gs) av bv gj (fun z=>todo z&&decide (z≠x)) cnt':=by
 have hvn:v.num=x:=(zbO hv).1
 have hwn:(zd6 gj av v).num=x:=by rw[zg2 hgj,hvn]
 have hlt:=(Array.getElem?_eq_some_iff.1 h.map).1
 have hmW:zas W ra zbK es:=(hb.block ra hlt (by omega)).trans h.map
 have hltW:=(Array.getElem?_eq_some_iff.1 hmW).1
 refine⟨zb8 hltW,?_,zdM h.nd,hrng.kept zaO (by omega) (by omega),fun n hn=>?_,fun n=>?_,(h.below.trans (hb.to_below (by omega) h.below.size)).trans (zaO.to_below (by omega) (Nat.le_trans h.below.size hb.size)),?_,?_,?_,?_⟩
 ·
  have h1:zo2 d n0 B W es gs:=zcv.imp h.vals fun _ _ h=>zfd h hb (by omega) (by omega)
  have h2:zo2 d n0 B W (zf2 x u es) (zoH (zd6 gj av v) gs):=by
   have:=zcv.put h1 h.nd hu
   rwa [hwn] at this
  exact zcv.imp h2 fun _ _ h=>zfc h (by omega) (by omega)
 ·
  simp only[Bool.and_eq_true,decide_eq_true_eq] at hn
  rw[zoY,if_neg hn.2]
  exact h.old n hn.1
 ·
  rw[zgq,hwn]
  by_cases e:x=n
  ·
   subst e
   rw[if_pos rfl,hv]
   simp
  ·
   rw[if_neg e,h.get n]
   have:decide (n≠x)=true:=by simpa using fun e2=>e e2.symm
   rw[this,Bool.and_true]
 ·
  exact zaO.blk (hb.blk h.bx (by omega)) (by omega)
 ·
  exact zaO.blk (hb.blk h.by' (by omega)) (by omega)
 ·
  exact zaO.blk (hb.blk h.br (by omega)) (by omega)
 ·
  rw[za6];exact Nat.le_trans h.big hb.size
theorem zn9 {α:Type}(g:Val α→Val α→Val α):∀ (b a:List (Val α)),(ziI g a b).length≤a.length+b.length:=by
 have hput:∀ (v:Val α) (l:List (Val α)),(zdk v l).length≤l.length+1:=by
  intro v l
  induction l with
  | nil=>simp[zdk]
  | cons x r ih =>
   unfold zdk
   split
   ·
    simp;exact ih
   ·
    split <;> simp
 intro b a
 unfold ziI
 have key:∀ (k:Val α→Val α) (b a:List (Val α)),(b.foldl (fun out v=>zdk (k v) out) a).length≤a.length+b.length:=by
  intro k b
  induction b with
  | nil=>intro a;simp
  | cons x r ih =>
   intro a
   have h1:=ih (zdk (k x) a)
   have h2:=hput (k x) a
   rw[List.foldl_cons,List.length_cons]
   omega
 exact key _ b a
theorem zj9 {s:List Mes}{d m:Nat}{x:M (d+1)}(h:zae s (d+1) (m:Int) x=true):zlI (zbp (zae s d)) (s.getD m .zero).fields (M.vals x)∧zbc (M.vals x):=by
 unfold zae at h
 by_cases h0:(m:Int)<0∨(s.length:Int)≤(m:Int)
 ·
  rw[if_pos h0] at h;cases h
 ·
  rw[if_neg h0,Bool.and_eq_true,Int.toNat_natCast] at h
  exact⟨(zdv h.1).1,(zdv h.1).1.rise⟩
theorem zdU {d:Nat}(b:M (d+1)):(M.vals b).length≤mwt (d+1) b:=by
 have h3:∀ l:List (Val (M d)),l.length≤(l.map (vwt (mwt d))).sum:=by
  intro l
  induction l with
  | nil=>simp
  | cons t r ih =>
   have:1≤vwt (mwt d) t:=by unfold vwt;omega
   rw[List.length_cons,List.map_cons,List.sum_cons]
   omega
 have:=h3 (M.vals b)
 show _≤1+twt (M.unk b)+_
 omega
theorem zoa {w:World}{p:Nat}{c a b e f:Value}{x y z:Value}{T:TypeId}(h:Blk w p [c,x,y,z] T) :
  Blk ((((w.setCell ⟨p,0,none⟩ a).setCell ⟨p,1,none⟩ b).setCell ⟨p,2,none⟩ e).setCell ⟨p,3,none⟩ f) p [a,b,e,f] T∧But p w ((((w.setCell ⟨p,0,none⟩ a).setCell ⟨p,1,none⟩ b).setCell ⟨p,2,none⟩ e).setCell ⟨p,3,none⟩ f):=by
 have h1:=h.set 0 a
 have h2:=h1.set 1 b
 have h3:=h2.set 2 e
 have h4:=h3.set 3 f
 exact⟨h4,(((But.set h 0 a).trans (But.set h1 1 b)).trans (But.set h2 2 e)).trans (But.set h3 3 f)⟩
def zmy (f:Fld):Nat→World→Value→Prop
 | 4,_,v=>v=f.val
 | _,_,_=>True
theorem zmy.below {f:Fld}:∀ (i:Nat) (w w':World) (v:Value),zmy f i w v→Below w.heap.size w w'→zmy f i w' v:=by
 intro i w w' v h _
 unfold zmy at h ⊢
 split
 ·
  exact h
 ·
  trivial
theorem ziX {w0:World}{sv:Value}{s:List Mes}(hS:zaj w0 sv s)(d:Nat)(hrec:ziR w0 sv s d):ziR w0 sv s (d+1):=by
 intro m w av bv a b hm hw ha hb hra hrb hwa hwb
 have HRE:=hid hrec
 have HMS:=hid hm
 obtain⟨hoka,hria⟩:=zj9 hra
 obtain⟨hokb,hrib⟩:=zj9 hrb
 have HOKA:=hid (And.intro hoka hria)
 have HOKB:=hid (And.intro hokb hrib)
 obtain⟨fs,HFS⟩:∃ fs,Hid (fs=(s.getD m .zero).fields):=⟨_,rfl⟩
 obtain⟨gj,HGJ⟩:∃ gj:Val (M d)→Val (M d)→Val (M d),Hid (gj=fun w v=>zej (fun o x y=>zdL s d o x y) (fs.getD (zak fs v.num).toNat .zero) w v):=⟨_,rfl⟩
 have HGN:Hid (∀ a b,(gj a b).num=b.num):=fun a b=>by rw[HGJ.out];exact zg1 _ _ _ _
 have HWT:=hid (And.intro hwa hwb)
 have HAM:=hid ha
 have HBM:=hid hb
 obtain⟨avv,auv,rfl,-,hUa⟩:=ha
 obtain⟨bvv,buv,rfl,-,hUb⟩:=hb
 obtain⟨p1,n1,c1,p2,n2,c2,hea⟩:=HAM.out.form
 obtain⟨q1,k1,e1,q2,k2,e2,heb⟩:=HBM.out.form
 obtain⟨rfl,rfl⟩:avv= .slice p1 n1 c1∧auv= .slice p2 n2 c2:=by cases hea;exact⟨rfl,rfl⟩
 obtain⟨rfl,rfl⟩:bvv= .slice q1 k1 e1∧buv= .slice q2 k2 e2:=by cases heb;exact⟨rfl,rfl⟩
 clear hea heb
 have HUA:=hid hUa
 have HUB:=hid hUb
 obtain⟨Q,HQ⟩:∃ Q:Ending→World→Prop,Hid (Q=fun e w'=>∃ v',e= .returned v'∧Below w.heap.size w w'∧zap w0.heap.size w.heap.size w' fun W=>zac (d+1) W v' (zdL s (d+1) m a b)):=⟨_,rfl⟩
 rw[←HQ.out]
 obtain⟨X,HX⟩:∃ X,Hid (X=w.heap.size):=⟨_,rfl⟩
 have HW0:=hid hw
 have HSS:=hid hS
 have hS2:=hS
 obtain⟨-,sa,sc,rfl,-⟩:=hS2.open
 obtain⟨sn,HSN⟩:∃ n,Hid (n=s.length):=⟨_,rfl⟩
 rw[←HSN.out] at HSS HRE ⊢
 obtain⟨W1,HW1⟩:∃ W,Hid (W=((w.alloc (.cells #[.slice p1 n1 c1,.slice p2 n2 c2] 27)).alloc (.cells #[.slice q1 k1 e1,.slice q2 k2 e2] 27)).alloc (.cells #[.slice none 0 0,.slice none 0 0] 27)):=⟨_,rfl⟩
 have hx1:Blk W1 X [.slice p1 n1 c1,.slice p2 n2 c2] 27:=by rw[HW1.out,HX.out];exact ((Blk.new w [.slice p1 n1 c1,.slice p2 n2 c2] _).alloc _).alloc _
 have hy1:Blk W1 (X+1) [.slice q1 k1 e1,.slice q2 k2 e2] 27:=by rw[HW1.out,HX.out];exact (Blk.new' _ [.slice q1 k1 e1,.slice q2 k2 e2] _ _ (by simp)).alloc _
 have hr1:Blk W1 (X+1+1) [.slice none 0 0,.slice none 0 0] 27:=by rw[HW1.out,HX.out];exact Blk.new' _ [.slice none 0 0,.slice none 0 0] _ _ (by simp)
 have hb1:Below w.heap.size w W1:=by rw[HW1.out];(with_reducible repeat first|exact Below.refl _ _|refine pzA ?_ _|refine pzB ?_ _|refine zab ?_ _|refine Below.drew ?_)
 have HB1:=hid hb1
 have HB01:=hid (hw.trans (hb1.mono hw.size))
 have HZ1:Hid (X+1+1<W1.heap.size):=hr1.lt
 have HBY1:=hid (zlE HB01.out HAM.out hria)
 have HBK1:=hid (And.intro hx1 (And.intro hy1 hr1))
 have x0:=hx1.cell 0 _ rfl
 have x1:=hx1.cell 1 _ rfl
 have xl:=hx1.lt
 clear hm hw hS hS2 hrec hra hrb hwa hwb hoka hria hokb hrib hUa hUb hb1 hx1 hy1 hr1
 go_enter Tryz.func46,Tryz.ntmps46
 go_upto_region 1 with fail
 rw[←HW1.out,←HX.out]
 go_wp2_with fail
 refine HBY1.out.mono ?_
 rintro e w2 ⟨ra,esa,rfl,hma,hva,hra1,hb2⟩
 have HMA:=hid (And.intro hma hva)
 have HRA:Hid (W1.heap.size≤ra∧ra<w2.heap.size):=⟨hra1,(Array.getElem?_eq_some_iff.1 hma).1⟩
 have HB2:=hid hb2
 have HB02:=hid (HB01.out.trans (hb2.mono HB01.out.size))
 have HBY2:=hid (zlE HB02.out HBM.out HOKB.out.2)
 have HBK2:=hid (And.intro (HBK1.out.1.below hb2) (And.intro (HBK1.out.2.1.below hb2) (HBK1.out.2.2.below hb2)))
 have y0:=HBK2.out.2.1.cell 0 _ rfl
 have y1:=HBK2.out.2.1.cell 1 _ rfl
 have yl:=HBK2.out.2.1.lt
 clear hma hva hra1 hb2 HBY1 x0 x1 xl
 go_wp2_with fail
 refine HBY2.out.mono ?_
 rintro e w3 ⟨rb,esb,rfl,hmb,hvb,hrb1,hb3⟩
 have HMB:=hid (And.intro hmb hvb)
 have HRB:Hid (w2.heap.size≤rb∧rb<w3.heap.size):=⟨hrb1,(Array.getElem?_eq_some_iff.1 hmb).1⟩
 have HB3:=hid hb3
 have hlb:esb.length≤1073741824:=by
  rw[hvb.len]
  have h1:=HWT.out.2
  have h2:=zdU b
  omega
 have hndb:(esb.map Prod.fst).Nodup:=by rw[hvb.keys];exact HOKB.out.2.nodup
 have hvok:VOk esb:=hvb.ok fun _ _ h=>zh9 h
 clear hmb hvb hrb1 hb3 HBY2 y0 y1 yl
 go_wp2_with (at_range;refine zf3 _ rfl _ rfl rfl HMB.out.1 hlb hndb hvok ?_;intro w4 hrg4 hb4 hsz4)
 go_frame
 obtain⟨it,HIT⟩:∃ it,Hid (it=w3.heap.size):=⟨_,rfl⟩
 rw[←HIT.out] at hrg4 hsz4 ⊢
 obtain⟨B,HB⟩:∃ B,Hid (B=w4.heap.size):=⟨_,rfl⟩
 have HSD:Hid (w0.heap.size≤X∧w.heap.size=X∧X+1+1<ra∧ra<rb∧rb<it∧it<B):=by
  have h1:=HW0.out.size
  have h2:=HRA.out
  have h3:=HRB.out
  have h4:=HZ1.out
  have h5:=HX.out
  have h6:=HIT.out
  have h7:=HB.out
  show _∧_
  omega
 have hb34:Below w3.heap.size w3 w4:=hb4
 have hb24:=HB3.out.trans (hb34.mono HB3.out.size)
 have HJ0:Hid (JI d w0.heap.size B w w4 X ra rb it [.slice p1 n1 c1,.slice p2 n2 c2] [.slice q1 k1 e1,.slice q2 k2 e2] esa esb esa (M.vals a) (M.vals a) (M.vals b) gj (fun x=>decide (x∈esb.map Prod.fst)) (w4.rangeLeft rb it)):=by
  have hw04:=HB02.out.trans (hb24.mono HB02.out.size)
  have hw4:Below w.heap.size w w4:=(HB1.out.trans (HB2.out.mono HB1.out.size)).trans (hb24.mono (HB1.out.trans (HB2.out.mono HB1.out.size)).size)
  refine⟨zaX HMA.out.1 hb24,zcv.imp HMA.out.2 fun v g h=>zbz rfl hw04 fun W hk=>VMsg.keep h hk,by rw[HMA.out.2.keys];exact HOKA.out.2.nodup,hrg4,fun _ _=>rfl,fun n=>?_,hw4,HBK2.out.1.below hb24,HBK2.out.2.1.below hb24,HBK2.out.2.2.below hb24,by rw[HB.out];exact Nat.le_refl _⟩
  cases hv:zbu (M.vals b) n with
  | none=>rfl
  | some v =>
   have hm:n∈esb.map Prod.fst:=by rw[HMB.out.2.keys,zb2,hv];rfl
   simp[hm]
 clear hlb hndb hvok
 go_loopw [] (fun wr=>∃ (es:List (Int × Value)) (gs:List (Val (M d))) (todo:Int→Bool) (cnt:Nat),Hid (JI d w0.heap.size B w wr X ra rb it [.slice p1 n1 c1,.slice p2 n2 c2] [.slice q1 k1 e1,.slice q2 k2 e2] esa esb es gs (M.vals a) (M.vals b) gj todo cnt)) (fun wr=>wr.rangeLeft rb it)
 case atStart=>exact⟨_,_,_,_,HJ0.out⟩
 case round =>
  obtain⟨es,gs,todo,cnt,HJ⟩:=hrel
  clear hrg4 hb4 hsz4 hb34 hb24 HJ0 HBK1 HBK2
  have x1:=HJ.out.bx.cell 1 _ rfl
  have xl:=HJ.out.bx.lt
  have y1:=HJ.out.by'.cell 1 _ rfl
  have yl:=HJ.out.by'.lt
  have HB0r:=hid (HW0.out.trans (HJ.out.below.mono HW0.out.size))
  go_upto_region 4 with (at_next;refine zg3 _ rfl _ rfl rfl HJ.out.rng (fun hdone=>?_) (fun x c w1 cnt1 hx htd hgo hrg1 hlt1 hbut1 hsz1 hen=>?_))
  ·
   obtain⟨W5,HW5⟩:∃ W,Hid (W=wr.alloc (.cells #[.slice p2 n2 c2,.slice q2 k2 e2] 25)):=⟨_,rfl⟩
   obtain⟨G,HG⟩:∃ G,Hid (G=wr.heap.size):=⟨_,rfl⟩
   have hb5:Below wr.heap.size wr W5:=by rw[HW5.out];exact (Below.refl _ _).alloc (Nat.le_refl _) _
   have hg5:Blk W5 G [.slice p2 n2 c2,.slice q2 k2 e2] 25:=by rw[HW5.out,HG.out];exact Blk.new wr [.slice p2 n2 c2,.slice q2 k2 e2] _
   have hk5:=zaa (HB0r.out.trans (hb5.mono HB0r.out.size))
   have hla:=(zgZ a (by have:=HWT.out.1;omega)).1
   have hlb:=(zgZ b (by have:=HWT.out.2;omega)).1
   have HCAT:=hid (zlC (HUA.out.keep hk5) (HUB.out.keep hk5) (hg5.cell 0 _ rfl) (hg5.cell 1 _ rfl) hla hlb)
   have hria:=HOKA.out.2
   have hrib:=HOKB.out.2
   have HGET:Hid (∀ n,zbu (ziI gj (M.vals a) (M.vals b)) n=zbu gs n):=fun n=>by
    rw[znN HGN.out hria hrib n,HJ.out.get n]
    cases zbu (M.vals b) n with
    | none=>rfl
    | some v=>simp[hdone n]
   have HRS:=hid (zmh gj (b:=M.vals b) hria)
   have HND:Hid ((gs.map (·.num)).Nodup):=by rw[Hid,←HJ.out.vals.keys];exact HJ.out.nd
   have HLN:Hid (gs.length≤1073741824):=by
    have h1:=zgu HRS.out HGET.out HND.out
    have h2:=zn9 gj (M.vals b) (M.vals a)
    have h3:=zdU a
    have h4:=zdU b
    have h5:=HWT.out
    show _≤_
    omega
   have HJM:Hid (zdL s (d+1) (m:Int) a b=(⟨ziI gj (M.vals a) (M.vals b),M.unk a++M.unk b⟩:zec (M d))):=by
    rw[Hid,HGJ.out,HFS.out]
    show (⟨ziI (fun w v=>zej (zdL s d) ((s.getD (m:Int).toNat .zero).fields.getD (zak (s.getD (m:Int).toNat .zero).fields v.num).toNat .zero) w v) (M.vals a) (M.vals b),M.unk a++M.unk b⟩:zec (M d))=_
    rw[Int.toNat_natCast]
   have HB5:=hid hb5
   clear hb5 hg5 hk5 hla hlb hria hrib hdone x1 xl y1 yl
   rw[←HW5.out,←HG.out]
   refine HCAT.out.mono ?_
   rintro e w6 ⟨qa,qn,qc,rfl,hU6,hb6⟩
   have hb16:Below wr.heap.size wr w6:=HB5.out.trans (hb6.mono HB5.out.size)
   have HOF:=hid (alg_of (B:=B) (zaX HJ.out.map hb16) (zcv.imp HJ.out.vals fun _ _ h=>h.later hb16) (Nat.le_trans HJ.out.big hb16.size) HND.out HLN.out ((hU6.mono (Nat.le_trans HJ.out.big HB5.out.size)).wider (Nat.zero_le _)) HRS.out HGET.out)
   have HB16:=hid hb16
   clear hU6 hb6 hb16 HCAT
   go_wp2_with fail
   refine HOF.out.mono ?_
   rintro e w7 ⟨v7,rfl,hb7,hap7⟩
   obtain⟨t1,s1,u1,t2,s2,u2,rfl⟩:=hap7.here.form
   have hb17:=HB16.out.trans (hb7.mono HB16.out.size)
   have hr7:=HJ.out.br.below hb17
   have hw7:=HJ.out.below.trans (hb17.mono HJ.out.below.size)
   have r0:=hr7.cell 0 _ rfl
   have r1:=hr7.cell 1 _ rfl
   have f0:=hr7.free 0
   have f1:=hr7.free 1
   have rl:=hr7.lt
   have z1:=hr7.set 0 (.slice t1 s1 u1)
   have z2:=z1.set 1 (.slice t2 s2 u2)
   have q0:=z2.cell 0 _ rfl
   have q1':=z2.cell 1 _ rfl
   have HE:Hid (Q (.returned (.agg #[.slice t1 s1 u1,.slice t2 s2 u2])) ((w7.setCell ⟨X+1+1,0,none⟩ (.slice t1 s1 u1)).setCell ⟨X+1+1,1,none⟩ (.slice t2 s2 u2))):=by
    have hsd:=HSD.out
    rw[HQ.out,HJM.out]
    refine⟨_,rfl,(hw7.setCell (by show w.heap.size≤X+1+1;omega) _).setCell (by show w.heap.size≤X+1+1;omega) _,fun W hW=>hap7 W fun b hb hc=>?_⟩
    have hne:b≠X+1+1:=by omega
    rw[hW b (by simpa using hb) (hc.imp id fun h=>by omega),Below.heap_setCell _ _ _ b hne,Below.heap_setCell _ _ _ b hne]
   clear hr7 z1 z2 hap7 hb7 hb17 hw7
   go_wp2_with fail
   refine bodyPost_ret (v:=.agg #[.slice t1 s1 u1,.slice t2 s2 u2]) ?_ rfl HE.out
   simp[results,Tryz.results46,go_sem,q0,q1']
  ·
   clear x1 xl y1 yl
   obtain⟨xn,ya1,yn1,yc1,ya2,yn2,yc2,ya3,yn3,yc3⟩:=c
   obtain⟨v,hgv,hvn,hVA⟩:=HMB.out.2.get hgo
   simp only[VS.val] at hgo hen hVA ⊢
   obtain rfl:xn=x:=by
    obtain⟨wv,tv,sv',hf,-⟩:=hVA
    rw[←hvn]
    cases hf;rfl
   obtain⟨hq0,hq1,hqn,hqF⟩:=HOKB.out.1.at' v (zbO hgv).2
   unfold qOf at hq0 hq1 hqn hqF
   rw[←HFS.out,hvn] at hq0 hq1 hqn hqF
   obtain⟨j,hj⟩:∃ j:Nat,zak fs xn=j:=⟨(zak fs xn).toNat,by omega⟩
   rw[hj,Int.toNat_natCast] at hqn hqF
   rw[hj] at hq1
   obtain⟨f,HF⟩:∃ f,Hid (f=fs.getD j .zero):=⟨_,rfl⟩
   rw[←HF.out] at hqn hqF
   have hwv:vwt (mwt d) v≤536870912:=by
    have h1:=zau (vwt (mwt d)) (M.vals b) v (zbO hgv).2
    have h2:1+twt (M.unk b)+((M.vals b).map (vwt (mwt d))).sum≤536870912:=HWT.out.2
    omega
   have HV:=hid (And.intro hgv (And.intro hvn (And.intro hVA (And.intro hqn (And.intro hqF hwv)))))
   have HJF:=hid (And.intro hj hq1)
   obtain⟨VB,HVB⟩:∃ b,Hid (b=w1.heap.size):=⟨_,rfl⟩
   obtain⟨W5,HW5⟩:∃ W,Hid (W=w1.alloc (.cells #[.int .i64 xn,.slice ya1 yn1 yc1,.slice ya2 yn2 yc2,.slice ya3 yn3 yc3] 32)):=⟨_,rfl⟩
   have hb5:Below w1.heap.size w1 W5:=by rw[HW5.out];exact (Below.refl _ _).alloc (Nat.le_refl _) _
   have hv5:Blk W5 VB [.int .i64 xn,.slice ya1 yn1 yc1,.slice ya2 yn2 yc2,.slice ya3 yn3 yc3] 32:=by rw[HW5.out,HVB.out];exact Blk.new w1 [.int .i64 xn,.slice ya1 yn1 yc1,.slice ya2 yn2 yc2,.slice ya3 yn3 yc3] _
   have hsd:=HSD.out
   have hltm:=(Array.getElem?_eq_some_iff.1 HJ.out.map).1
   have hm1:zas w1 ra zbK es:=(hbut1.block ra hltm (by omega)).trans HJ.out.map
   have hm5:=zaX hm1 hb5
   have hlk:=zg4 hm5 xn true
   have HOLD:=hid (HJ.out.old xn htd)
   have HRG1:=hid hrg1
   have HBU1:=hid hbut1
   have HM1:=hid hm1
   have HSZ1:=hid (And.intro hsz1 (And.intro hlt1 HJ.out.big))
   have HB5:=hid hb5
   have HV5:=hid hv5
   have d0:=hv5.cell 0 _ rfl
   have d1:=hv5.cell 1 _ rfl
   have d2:=hv5.cell 2 _ rfl
   have d3:=hv5.cell 3 _ rfl
   have dl:=hv5.lt
   clear hgv hvn hVA hq0 hq1 hqn hqF hj hwv hgo hrg1 hbut1 hm1 hm5 hsd hltm hb5 hv5 htd hx hsz1 hlt1
   go_upto_region 5 with fail
   rw[←HW5.out,←HVB.out]
   clear hen
   cases hgs:zal xn es with
   | none =>
    rw[hgs] at hlk
    simp only[Option.getD_none,Option.isSome_none,if_true] at hlk
    obtain⟨W6,HW6⟩:∃ W,Hid (W=W5.alloc (.cells #[.int .i64 0,.slice none 0 0,.slice none 0 0,.slice none 0 0] 32)):=⟨_,rfl⟩
    have hb6:Below W5.heap.size W5 W6:=by rw[HW6.out];exact (Below.refl _ _).alloc (Nat.le_refl _) _
    have hb16:Below w1.heap.size w1 W6:=HB5.out.trans (hb6.mono HB5.out.size)
    have hmu:=zia (zaX HM1.out hb16) xn (.agg #[.int .i64 xn,.slice ya1 yn1 yc1,.slice ya2 yn2 yc2,.slice ya3 yn3 yc3])
    have hbw:But it wr W6:=HBU1.out.later (by rw[←HSZ1.out.1];exact hb16)
    have hwv:zd6 gj (M.vals a) v=v:=by
     unfold zd6
     rw[HV.out.2.1,HMA.out.2.none (by rw[←HOLD.out];exact hgs)]
    have HREL:=hid (HJ.out.step HGN.out HSD.out hbw (HRG1.out.below hb16) HV.out.1 (u:=.agg #[.int .i64 xn,.slice ya1 yn1 yc1,.slice ya2 yn2 yc2,.slice ya3 yn3 yc3]) (by
     rw[hwv]
     exact zbz rfl (HB0r.out.trans (hbw.to_below (by have:=HSD.out;omega) HB0r.out.size)) fun W hk=>VMsg.keep HV.out.2.2.1 hk))
    have hv6:=HV5.out.below hb6
    have d0:=hv6.cell 0 _ rfl
    have d1:=hv6.cell 1 _ rfl
    have d2:=hv6.cell 2 _ rfl
    have d3:=hv6.cell 3 _ rfl
    have dl:=hv6.lt
    clear hb6 hb16 hbw hwv hv6 hgs
    go_upto_region 6 with fail
    rw[←HW6.out]
    clear hlk
    go_wp2_with fail
    go_roundw
    case rel=>exact⟨_,_,_,_,HREL.out⟩
    case measure =>
     rw[HREL.out.rng.left,HJ.out.rng.left]
     exact HSZ1.out.2.1
   | some u =>
    rw[hgs] at hlk
    obtain⟨g,hgg,hgn,hGA⟩:=HMA.out.2.get (x:=xn) (v:=u) (by rw[←HOLD.out];exact hgs)
    obtain⟨-,⟨un,ua1,un1,uc1,ua2,un2,uc2,ua3,un3,uc3⟩,rfl,-⟩:=zh9 hGA
    simp only[VS.val] at hlk hGA hgs
    simp only[Option.getD_some,Option.isSome_some,if_true] at hlk
    obtain⟨-,-,-,hgF⟩:=HOKA.out.1.at' g (zbO hgg).2
    unfold qOf at hgF
    rw[←HFS.out,hgn,HJF.out.1,Int.toNat_natCast,←HF.out] at hgF
    have hwg:vwt (mwt d) g≤536870912:=by
     have h1:=zau (vwt (mwt d)) (M.vals a) g (zbO hgg).2
     have h2:1+twt (M.unk a)+((M.vals a).map (vwt (mwt d))).sum≤536870912:=HWT.out.1
     omega
    have HG:=hid (And.intro hgg (And.intro hGA (And.intro hgF hwg)))
    obtain⟨WB,HWB⟩:∃ b,Hid (b=W5.heap.size):=⟨_,rfl⟩
    obtain⟨W6,HW6⟩:∃ W,Hid (W=W5.alloc (.cells #[.int .i64 un,.slice ua1 un1 uc1,.slice ua2 un2 uc2,.slice ua3 un3 uc3] 32)):=⟨_,rfl⟩
    have hb6:Below W5.heap.size W5 W6:=by rw[HW6.out];exact (Below.refl _ _).alloc (Nat.le_refl _) _
    have hu6:Blk W6 WB [.int .i64 un,.slice ua1 un1 uc1,.slice ua2 un2 uc2,.slice ua3 un3 uc3] 32:=by rw[HW6.out,HWB.out];exact Blk.new W5 [.int .i64 un,.slice ua1 un1 uc1,.slice ua2 un2 uc2,.slice ua3 un3 uc3] _
    have hv6:=HV5.out.below hb6
    have HB16:=hid (HB5.out.trans (hb6.mono HB5.out.size))
    have HV6:=hid hv6
    have HBR6:Hid (Below w0.heap.size w0 W6):=HB0r.out.trans ((HBU1.out.later (by rw[←HSZ1.out.1];exact HB16.out)).to_below (by have:=HSD.out;have:=HW0.out.size;omega) HB0r.out.size)
    have hV0:Below W6.heap.size W6 W6∧W6.cell? ⟨VB,0,none⟩=some (.int .i64 xn)∧W6.cell? ⟨VB,1,none⟩=some (.slice ya1 yn1 yc1)∧W6.cell? ⟨VB,2,none⟩=some (.slice ya2 yn2 yc2)∧W6.cell? ⟨VB,3,none⟩=some (.slice ya3 yn3 yc3)∧W6.cell? ⟨WB,0,none⟩=some (.int .i64 un)∧W6.cell? ⟨WB,1,none⟩=some (.slice ua1 un1 uc1)∧W6.cell? ⟨WB,2,none⟩=some (.slice ua2 un2 uc2)∧W6.cell? ⟨WB,3,none⟩=some (.slice ua3 un3 uc3):=⟨Below.refl _ _,hv6.cell 0 _ rfl,hv6.cell 1 _ rfl,hv6.cell 2 _ rfl,hv6.cell 3 _ rfl,hu6.cell 0 _ rfl,hu6.cell 1 _ rfl,hu6.cell 2 _ rfl,hu6.cell 3 _ rfl⟩
    have HV0:=hid hV0
    have HVS:Hid (VB<W6.heap.size∧wr.heap.size≤VB):=⟨hv6.lt,by rw[HVB.out,HSZ1.out.1];exact Nat.le_refl _⟩
    clear hb6 hu6 hv6 hgs hgg hgn hGA hgF hwg hV0
    go_upto_region 6 with fail
    rw[←HW6.out,←HWB.out]
    clear hlk d0 d1 d2 d3 dl
    go_upto_region 7 with fail
    refine zff (fun w'=>Below W6.heap.size W6 w'∧w'.cell? ⟨VB,0,none⟩=some (.int .i64 xn)∧w'.cell? ⟨VB,1,none⟩=some (.slice ya1 yn1 yc1)∧w'.cell? ⟨VB,2,none⟩=some (.slice ya2 yn2 yc2)∧w'.cell? ⟨VB,3,none⟩=some (.slice ya3 yn3 yc3)∧w'.cell? ⟨WB,0,none⟩=some (.int .i64 un)∧w'.cell? ⟨WB,1,none⟩=some (.slice ua1 un1 uc1)∧w'.cell? ⟨WB,2,none⟩=some (.slice ua2 un2 uc2)∧w'.cell? ⟨WB,3,none⟩=some (.slice ua3 un3 uc3)) (zmy f) 7 [0,1,2,3,5,6] [⟨4,35,[]⟩] [(7,2,0),(8,2,0)] (by kernel_rfl) rfl (by kernel_rfl) (by kernel_rfl) (by kernel_rfl) (fun _ _ dst _ _ h=>by cases dst <;> exact h) zmy.below ⟨HV0.out.1.drew,HV0.out.2⟩ (fun OPS HOPS=>?_)
    have hops:=HOPS.out
    subst hops
    simp only[List.map_cons,List.map_nil,List.filterMap_cons,List.filterMap_nil,List.getElem?_cons_succ,List.getElem?_cons_zero]
    refine zb6 (v:=?v0) ?hy0 ?hr0
    case hy0=>(intro w hw;go_simp;all_goals rfl)
    simp only[Act.put,pzC,pzD,pzE]
    refine zb6 (v:=?v1) ?hy1 ?hr1
    case hy1=>(intro w hw;go_simp;all_goals rfl)
    simp only[Act.put,pzC,pzD,pzE]
    refine zb6 (v:=?v2) ?hy2 ?hr2
    case hy2=>(intro w hw;go_simp;all_goals rfl)
    simp only[Act.put,pzC,pzD,pzE]
    refine zb6 (v:=?v3) ?hy3 ?hr3
    case hy3=>(intro w hw;go_simp;all_goals rfl)
    simp only[Act.put,pzC,pzD,pzE]
    refine zb6 (v:=?v4) ?hy4 ?hr4
    case hy4=>(intro w hw;go_simp;all_goals rfl)
    simp only[Act.put,pzC,pzD,pzE]
    refine zb6 (v:=?v5) ?hy5 ?hr5
    case hy5=>(intro w hw;go_simp;all_goals rfl)
    simp only[Act.put,pzC,pzD,pzE]
    refine⟨zdQ rfl ?_ znU,?_⟩
    ·
     intro vals w7 hV hd K HK
     have HVW:=hid hV
     have hK:=HK.out
     have HFL:=hid (zhh (HSS.out.below (HBR6.out.trans (hV.1.mono HBR6.out.size))) HMS.out xn (j:=j) (by rw[←HFS.out];exact HJF.out.1) (by rw[←HFS.out];have:=HJF.out.2;omega))
     rw[←HFS.out,←HF.out] at HFL
     clear hV HK
     simp only[zfU,List.foldl_cons,List.foldl_nil,Act.put,List.setIfInBounds_toArray,List.set_cons_zero,List.set_cons_succ] at hK ⊢
     have HK:=hid hK
     clear hK
     go_wp2_with fail
     refine HFL.out.mono ?_
     rintro e w8 ⟨rfl,hb8⟩
     go_wp2_with fail
     exact HK.out _ _ ⟨HVW.out.1.trans (hb8.mono HVW.out.1.size),⟨zaa hb8 _ _ HVW.out.2.1,zaa hb8 _ _ HVW.out.2.2.1,zaa hb8 _ _ HVW.out.2.2.2.1,zaa hb8 _ _ HVW.out.2.2.2.2.1,zaa hb8 _ _ HVW.out.2.2.2.2.2.1,zaa hb8 _ _ HVW.out.2.2.2.2.2.2.1,zaa hb8 _ _ HVW.out.2.2.2.2.2.2.2.1,zaa hb8 _ _ HVW.out.2.2.2.2.2.2.2.2⟩⟩ hb8 rfl
    ·
     intro vals w7 hV hI
     have hv4:vals 4=f.val:=hI ⟨4,35,[]⟩ (by simp)
     simp only[zfU,List.foldl_cons,List.foldl_nil,Act.put,List.setIfInBounds_toArray,List.set_cons_zero,List.set_cons_succ]
     generalize vals 4=u4 at hv4 ⊢
     subst hv4
     have hw07:=HBR6.out.trans (hV.1.mono HBR6.out.size)
     have HBO:=hid (zo9 HRE.out HSS.out hw07 (f:=f) HG.out.2.1 HV.out.2.2.1 (HV.out.2.2.2.1.trans HV.out.2.1.symm) HG.out.2.2.1 HV.out.2.2.2.2.1 HG.out.2.2.2 HV.out.2.2.2.2.2)
     have HV7:=hid (And.intro hV.1 (HV6.out.below hV.1))
     clear hV hI hw07
     refine zfz (fun K12 HK12=>?_)
     go_wp2_with fail
     refine HBO.out.mono ?_
     rintro e w8 ⟨v8,rfl,hb8,hap8⟩
     obtain⟨hv8,⟨zn,za1,zn1,zc1,za2,zn2,zc2,za3,zn3,zc3⟩,rfl,hzn⟩:=zh9 hap8.here
     rw[zg1,HV.out.2.1] at hzn
     simp only at hzn
     subst hzn
     simp only[VS.val] at hap8 ⊢
     have hs78:VB<w7.heap.size:=Nat.lt_of_lt_of_le HVS.out.1 HV7.out.1.size
     have hv8':=HV7.out.2.below hb8
     have hb18:Below w1.heap.size w1 w8:=(HB16.out.trans (HV7.out.1.mono HB16.out.size)).trans (hb8.mono (HB16.out.trans (HV7.out.1.mono HB16.out.size)).size)
     go_wp2_with fail
     refine HK12.out _ _ trivial ?_
     clear HK12 K12
     intro _
     obtain⟨hk9,hbut9⟩:=zoa (a:=.int .i64 zn) (b:=.slice za1 zn1 zc1) (e:=.slice za2 zn2 zc2) (f:=.slice za3 zn3 zc3) hv8'
     obtain⟨W9,HW9⟩:∃ W,Hid (W=(((w8.setCell ⟨VB,0,none⟩ (.int .i64 zn)).setCell ⟨VB,1,none⟩ (.slice za1 zn1 zc1)).setCell ⟨VB,2,none⟩ (.slice za2 zn2 zc2)).setCell ⟨VB,3,none⟩ (.slice za3 zn3 zc3)):=⟨_,rfl⟩
     rw[←HW9.out] at hk9 hbut9
     have hb19:Below w1.heap.size w1 W9:=hb18.trans (hbut9.to_below (by rw[HVB.out];exact Nat.le_refl _) hb18.size)
     have hmu:=zia (zaX HM1.out hb19) zn (.agg #[.int .i64 zn,.slice za1 zn1 zc1,.slice za2 zn2 zc2,.slice za3 zn3 zc3])
     have hwv:zd6 gj (M.vals a) v=zej (fun o x y=>zdL s d o x y) f g v:=by
      unfold zd6
      rw[HV.out.2.1,HG.out.1,HGJ.out]
      show zej _ (fs.getD (zak fs v.num).toNat .zero) g v=_
      rw[HV.out.2.1,HJF.out.1,Int.toNat_natCast,←HF.out]
     have hsd:=HSD.out
     have hbig:=HSZ1.out.2.2
     have hvs:=HVS.out.2
     have HREL:=hid (HJ.out.step HGN.out HSD.out (HBU1.out.later (by rw[←HSZ1.out.1];exact hb19)) ((HRG1.out.below hb18).kept hbut9 (by omega) (by omega)) HV.out.1 (u:=.agg #[.int .i64 zn,.slice za1 zn1 zc1,.slice za2 zn2 zc2,.slice za3 zn3 zc3]) (by
      rw[hwv]
      exact (zfd hap8 hbut9 (by have:=HW0.out.size;omega) hs78).mono (by omega)))
     have d0:=hv8'.cell 0 _ rfl
     have d1:=hv8'.cell 1 _ rfl
     have d2:=hv8'.cell 2 _ rfl
     have d3:=hv8'.cell 3 _ rfl
     have z0:=hv8'.free 0
     have z1:=hv8'.free 1
     have z2:=hv8'.free 2
     have z3:=hv8'.free 3
     have dl:=hv8'.lt
     have D0:=hid (hk9.cell 0 _ rfl)
     have D1:=hid (hk9.cell 1 _ rfl)
     have D2:=hid (hk9.cell 2 _ rfl)
     have D3:=hid (hk9.cell 3 _ rfl)
     have DL:=hid hk9.lt
     have HMU:=hid hmu
     clear hmu hk9 hbut9 hb19 hwv hsd hbig hvs hb18 hv8' hap8 hb8 hv8 hs78
     refine zfz (fun K12 HK12=>?_)
     go_wp2_with fail
     rw[←HW9.out]
     refine HK12.out _ _ trivial ?_
     clear HK12 K12 d0 d1 d2 d3 z0 z1 z2 z3 dl
     intro _
     refine zbQ ?_
     have d0:=D0.out
     have d1:=D1.out
     have d2:=D2.out
     have d3:=D3.out
     have dl:=DL.out
     have hmu:=HMU.out
     go_wp2_with fail
     go_roundw
     case rel=>exact⟨_,_,_,_,HREL.out⟩
     case measure =>
      rw[HREL.out.rng.left,HJ.out.rng.left]
      exact HSZ1.out.2.1
theorem zlJ {w0:World}{sv:Value}{s:List Mes}(hS:zaj w0 sv s):∀ d,ziR w0 sv s d
 | 0=>fun _ _ _ _ x _ _ _ _ _ _ _ _ _=>x.elim
 | d+1=>ziX hS d (zlJ hS d)
end
end Go.Proofs.YtdpnmdkbdibkpaaGreatDoor
