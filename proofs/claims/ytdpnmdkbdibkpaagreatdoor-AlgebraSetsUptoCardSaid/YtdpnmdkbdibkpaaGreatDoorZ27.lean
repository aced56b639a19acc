/- Parts of a proof: texts of the author, merged. No condition of their own. -/
import Derived.Test.YtdpnmdkbdibkpaaGreatDoorZ01
import Derived.Test.YtdpnmdkbdibkpaaGreatDoorZ06
import Derived.Test.YtdpnmdkbdibkpaaGreatDoorZ08
import Derived.Test.YtdpnmdkbdibkpaaGreatDoorZ11
import Derived.Test.YtdpnmdkbdibkpaaGreatDoorZ12
import Derived.Test.YtdpnmdkbdibkpaaGreatDoorZ14
import Derived.Test.YtdpnmdkbdibkpaaGreatDoorZ24
import Derived.Test.YtdpnmdkbdibkpaaGreatDoorZ25
import Derived.Test.YtdpnmdkbdibkpaaGreatDoorZ26
import Derived.Deep.RegionHeld3
import Derived.StillTail
namespace Go.Proofs.YtdpnmdkbdibkpaaGreatDoor
set_option maxRecDepth 100000
set_option maxHeartbeats 16000000
section
open Go.RowKit
def zbv (s:List Mes)(root:Int)(rs:List Bool):Nat:=if zaC s=false then 9 else if root<0∨(s.length:Int)≤root then 2 else if rs.all id then 0 else 12
def zp8 (w:World)(s:List Mes)(root:Int)(g:Nat)(rs:List Bool):Prop:=
 ∀ i r,rs[i]?=some r→∃ v1 v2 d,∃ x:M d,w.cell? ⟨g,i*2,none⟩=some v1∧w.cell? ⟨g,i*2+1,none⟩=some v2∧zac d w (.agg #[v1,v2]) x∧mwt d x≤1099511627776∧(zaC s&&zae s d root x)=(zaC s&&r)
theorem ziY (rs:List Bool)(i:Nat)(h:(rs.take i).all id=true)(hi:rs[i]?=some true):(rs.take (i+1)).all id=true:=by
 rw[List.take_add_one,hi]
 simp[h]
theorem ziZ (rs:List Bool)(i:Nat)(hi:rs[i]?=some false):rs.all id=false:=by
 have:=List.mem_of_getElem? hi
 rw[List.all_eq_false]
 exact⟨false,this,by simp⟩
theorem zi0 {w:World}{sv:Value}{s:List Mes}{g n c:Nat}{rs:List Bool}(hS:zaj w sv s)(root:Int)(h:zp8 w s root g rs)(hn:n=rs.length)(hnb:n≤1099511627776) :
  Calls Tryz.prog 23 #[sv,.int .i64 root,.slice (some ⟨g,0,none⟩) n c] w fun e w'=>e= .returned (.int .u8 (zbv s root rs))∧Below w.heap.size w w':=by
 have HS:=hid hS
 have HM:=hid h
 have HN:=hid hn
 have HR:=hid (zct hS)
 obtain⟨hsl,sa,sc,rfl,-⟩:=hS.open
 obtain⟨m,HMC⟩:∃ m,Hid (m=zbv s root rs):=⟨_,rfl⟩
 rw[←HMC.out]
 by_cases hb:zaC s=false
 ·
  have HE:Hid (m=9):=by rw[Hid,HMC.out,zbv,if_pos hb]
  have HB:=hid hb
  clear hS h hb HMC hn
  go_enter Tryz.func23,Tryz.ntmps23
  go_wp2_with (go_at_call 48;refine HR.out.mono ?_;rintro e w1 ⟨rfl,hb1⟩;rw[HB.out])
  go_ret
  exact⟨by rw[HE.out];rfl,hb1⟩
 have hb':zaC s=true:=by simpa using hb
 have HB:=hid hb'
 by_cases hr:root<0∨(s.length:Int)≤root
 ·
  have HE:Hid (m=2):=by rw[Hid,HMC.out,zbv,if_neg hb,if_pos hr]
  have HRR:Hid ((s.length:Int)≤root∨root<0):=hr.symm
  clear hS h hb hb' HMC hr hn
  by_cases hneg:root<0
  ·
   go_enter Tryz.func23,Tryz.ntmps23
   go_wp2_with (go_at_call 48;refine HR.out.mono ?_;rintro e w1 ⟨rfl,hb1⟩;rw[HB.out])
   go_ret
   exact⟨by rw[HE.out];rfl,hb1⟩
  ·
   have hge:(s.length:Int)≤root:=by rcases HRR.out with h|h <;> omega
   go_enter Tryz.func23,Tryz.ntmps23
   go_wp2_with (go_at_call 48;refine HR.out.mono ?_;rintro e w1 ⟨rfl,hb1⟩;rw[HB.out])
   go_ret
   exact⟨by rw[HE.out];rfl,hb1⟩
 ·
  have HE:Hid (m=if rs.all id then 0 else 12):=by rw[Hid,HMC.out,zbv,if_neg hb,if_neg hr]
  have hr0:¬ root<0:=fun h=>hr (Or.inl h)
  have hr1:¬ (s.length:Int)≤root:=fun h=>hr (Or.inr h)
  clear hS h hb hb' HMC hr hn
  go_enter Tryz.func23,Tryz.ntmps23
  go_wp2_with (go_at_call 48;refine HR.out.mono ?_;rintro e w1 ⟨rfl,hb1⟩;rw[HB.out])
  have HB1:=hid hb1
  clear hb1 hr0 hr1
  go_loopw [24] (fun v24 wr=>∃ i:Nat,v24= .int .i64 i∧i≤n∧Hid ((rs.take i).all id=true)∧Hid (Below w1.heap.size w1 wr)) (fun v24 _=>n - (intOf v24).toNat)
  case atStart=>exact⟨0,rfl,by omega,by simp[Hid],Below.refl _ _⟩
  case round =>
   obtain⟨i,rfl,hi,HI,HB2⟩:=hrel
   have HBW:=hid (HB1.out.trans (HB2.out.mono HB1.out.size))
   by_cases hlt:i<n
   ·
    have hri:rs[i]?=some (rs[i]'(by rw[←HN.out];exact hlt)):=List.getElem?_eq_getElem _
    generalize rs[i]'(by rw[←HN.out];exact hlt)=r at hri
    have hm:=HM.out
    obtain⟨v1,v2,d,x,g0,g1,hM,hw,hq⟩:=hm i r hri
    clear hm
    obtain⟨a1,n1,c1,a2,n2,c2,he⟩:=hM.form
    cases he
    have HRI:=hid hri
    replace g0:=zaa HBW.out _ _ g0
    replace g1:=zaa HBW.out _ _ g1
    have hbl:g<wr.heap.size:=World.block_lt_of_cell? wr _ g0
    have hix:=zad Tryz.underlying30 zbX (a:=some ⟨g,0,none⟩) rfl i hlt (cap:=c)
    simp only[Nat.zero_add] at hix
    have HW:=hid hw
    have hM2:=hM.below HBW.out
    have HMS:=hid hM2
    have HQ:Hid ((zaC s&&zae s d root x)=r):=by rw[Hid,hq,HB.out,Bool.true_and]
    clear hM hM2 hw hq hri
    go_wp2_with fail
    refine (zmw (HS.out.below ?hbs) root (HMS.out.below ?hbm) HW.out).mono ?_
    case hbs=>exact HBW.out.alloc HBW.out.size _
    case hbm=>exact (Below.refl wr.heap.size wr).alloc (Nat.le_refl _) _
    rintro e w2 ⟨rfl,hb2⟩
    rw[HQ.out]
    have HB3:Hid (Below w1.heap.size w1 w2):=HB2.out.trans (((Below.refl wr.heap.size wr).alloc (Nat.le_refl _) _ |>.trans (hb2.mono (by simp))).mono HB2.out.size)
    clear hb2
    cases r with
    | false =>
     have HF:=hid (ziZ rs i HRI.out)
     go_wp2_with fail
     go_ret
     exact⟨by rw[HE.out,HF.out];rfl,HB1.out.trans (HB3.out.mono HB1.out.size)⟩
    | true =>
     have HT:=hid (ziY rs i HI.out HRI.out)
     go_wp2_with fail
     go_roundw
     case rel=>exact⟨i+1,by go_num,hlt,HT.out,HB3.out⟩
     case measure=>simp[intOf];omega
   ·
    obtain rfl:i=n:=by omega
    have HT:Hid (rs.all id=true):=by
     have:=HI.out
     rw[List.take_of_length_le (by rw[←HN.out];exact Nat.le_refl _)] at this
     exact this
    go_wp2_with fail
    go_ret
    exact⟨by rw[HE.out,HT.out];rfl,HBW.out⟩
end
section
open Go.RowKit
def zdV (w:World)(d:Nat)(code:Nat)(x:M d)(e:Ending)(w':World):Prop:=Below w.heap.size w w'∧(code≠0→e= .returned (.tuple #[.agg #[.slice none 0 0,.slice none 0 0],.int .u8 (code:Int)])) ∧
 (code=0→∃ a n c b m k,e= .returned (.tuple #[.agg #[.slice a n c,.slice b m k],.int .u8 0])∧zap 0 w.heap.size w' fun w2=>zac d w2 (.agg #[.slice a n c,.slice b m k]) x)
theorem zkX {w:World}{g:Nat}{s:List Mes}{root:Int}{v1 v2:Value}{d:Nat}{x:M d}{T:TypeId}(hb:Blk w g [v1,v2] T)(hx:zac d w (.agg #[v1,v2]) x)(hw:mwt d x≤1099511627776):zp8 w s root g [zae s d root x]:=by
 intro i r hi
 cases i with
 | zero =>
  simp at hi
  subst hi
  exact⟨v1,v2,d,x,by simpa using hb.cell 0 _ rfl,by simpa using hb.cell 1 _ rfl,hx,hw,rfl⟩
 | succ i=>simp at hi
theorem zfi {s:List Mes}{root:Int}{rs:List Bool}(h:zbv s root rs=0):zaC s=true∧0≤root∧root<s.length∧rs.all id=true:=by
 unfold zbv at h
 by_cases h1:zaC s=false
 ·
  rw[if_pos h1] at h;cases h
 ·
  rw[if_neg h1] at h
  by_cases h2:root<0∨(s.length:Int)≤root
  ·
   rw[if_pos h2] at h;cases h
  ·
   rw[if_neg h2] at h
   cases h3:rs.all id
   ·
    rw[h3] at h;cases h
   ·
    exact⟨by simpa using h1,by omega,by omega,rfl⟩
theorem zc0 (s:List Mes)(root:Int)(rs:List Bool):zbv s root rs≤12:=by
 unfold zbv
 split
 ·
  omega
 ·
  split
  ·
   omega
  ·
   split <;> omega
end
section
open Go.RowKit
theorem zfj {α:Type}(f:Val α→Nat)(v:Val α):∀ {l:List (Val α)},zbc l→((zdk v l).map f).sum+(match zbu l v.num with|some w=>f w|none=>0)=(l.map f).sum+f v
 | [],_=>by simp[zdk,zgo]
 | x::r,h=>by
  obtain⟨h1,h2⟩:=h.tail
  unfold zdk
  rw[zaJ]
  by_cases hlt:x.num<v.num
  ·
   have ih:=zfj f v h1
   rw[if_pos hlt,if_neg (by omega)]
   simp only[List.map_cons,List.sum_cons]
   omega
  ·
   rw[if_neg hlt]
   by_cases he:x.num=v.num
   ·
    rw[if_pos he,if_pos he]
    simp only[List.map_cons,List.sum_cons]
    omega
   ·
    rw[if_neg he,if_neg he,zlx (l:=r) fun y hy=>by have:=h2 y hy;omega]
    simp only[List.map_cons,List.sum_cons]
    omega
theorem zob {α:Type}(f:Val α→Nat){g:Val α→Val α→Val α}(hg:∀ w v,(g w v).num=v.num){a:List (Val α)}(ha:zbc a):∀ {b:List (Val α)},zbc b→(∀ w∈a,∀ v∈b,w.num=v.num→f (g w v)≤f w+f v)→((ziI g a b).map f).sum≤(a.map f).sum+(b.map f).sum:=by
 have key:∀ (b out:List (Val α)),zbc b→zbc out→(∀ v∈b,zbu out v.num=zbu a v.num)→(∀ w∈a,∀ v∈b,w.num=v.num→f (g w v)≤f w+f v)→((b.foldl (fun out v=>zdk (zd6 g a v) out) out).map f).sum≤(out.map f).sum+(b.map f).sum:=by
  intro b
  induction b with
  | nil=>intro out _ _ _ _;simp
  | cons v r ih =>
   intro out hb ho hk hf
   obtain⟨b1,b2⟩:=hb.tail
   have hs:=zfj f (zd6 g a v) ho
   have hn:=zg2 hg a v
   have h1:=ih (zdk (zd6 g a v) out) b1 (zcV ho) (fun u hu=>by
    have:=b2 u hu
    rw[zeB ho,hn,if_neg (by omega)]
    exact hk u (by simp[hu])) fun w hw u hu=>hf w hw u (by simp[hu])
   rw[List.foldl_cons,List.map_cons,List.sum_cons]
   rw[hn,hk v (by simp)] at hs
   have h2:f (zd6 g a v)≤(match zbu a v.num with|some w=>f w|none=>0)+f v:=by
    unfold zd6
    cases hgv:zbu a v.num with
    | none=>simp
    | some w=>exact hf w (zbO hgv).2 v (by simp) (zbO hgv).1
   omega
 intro b hb hf
 exact key b a hb ha (fun _ _=>rfl) hf
theorem zlK (a b:List (List UInt8)):twt (a++b)=twt a+twt b:=by simp[twt]
theorem zph {α:Type}{f:α→Nat}{R:Int→α→Bool}{J:Int→α→α→α}{fl:Fld}{w v:Val α}(hw:zbp R fl w=true)(hv:zbp R fl v=true)(hJ:∀ x y,R fl.of x=true→R fl.of y=true→f (J fl.of x y)≤f x+f y):vwt f (zej J fl w v)≤vwt f w+vwt f v:=by
 unfold zej
 by_cases hr:fl.rep=true
 ·
  rw[if_pos hr]
  simp only[vwt,List.length_append,zlK,List.map_append,List.sum_append]
  omega
 ·
  rw[if_neg hr]
  by_cases hk:fl.kind=17
  ·
   rw[if_pos hk]
   obtain⟨x,hx,hrx⟩:=zeC hw hk (by simpa using hr)
   obtain⟨y,hy,hry⟩:=zeC hv hk (by simpa using hr)
   have:=hJ x y hrx hry
   rw[hx,hy]
   simp only[vwt,List.zip_cons_cons,List.zip_nil_left,List.take_succ_cons,List.take_zero,List.map_cons,List.map_nil,List.sum_cons,List.sum_nil,List.length_nil,twt,hx,hy]
   omega
  ·
   rw[if_neg hk];omega
theorem zdW {s:List Mes}{d:Nat}{root:Int}{x:M (d+1)}(h:zae s (d+1) root x=true):zlI (zbp (zae s d)) (s.getD root.toNat .zero).fields (M.vals x)∧zbc (M.vals x):=by
 unfold zae at h
 by_cases h0:root<0∨(s.length:Int)≤root
 ·
  rw[if_pos h0] at h;cases h
 ·
  rw[if_neg h0,Bool.and_eq_true] at h
  exact⟨(zdv h.1).1,(zdv h.1).1.rise⟩
theorem zlL (s:List Mes):∀ (d:Nat) (root:Int) (a b:M d),zae s d root a=true→zae s d root b=true→mwt d (zdL s d root a b)≤mwt d a+mwt d b
 | 0,_,a,_,_,_=>a.elim
 | d+1,root,a,b,ha,hb=>by
  obtain⟨oa,ra⟩:=zdW ha
  obtain⟨ob,rb⟩:=zdW hb
  have key:=zob (vwt (mwt d)) (g:=fun w v=>zej (zdL s d) ((s.getD root.toNat .zero).fields.getD (zak (s.getD root.toNat .zero).fields v.num).toNat .zero) w v) (fun _ _=>zg1 _ _ _ _) ra rb (fun w hw v hv e=>by
   obtain⟨-,-,-,fw⟩:=oa.at' w hw
   obtain⟨-,-,-,fv⟩:=ob.at' v hv
   unfold qOf at fw fv
   rw[e] at fw
   exact zph fw fv fun x y hx hy=>zlL s d _ x y hx hy)
  show 1+twt (M.unk a++M.unk b)+_≤(1+twt (M.unk a)+_)+(1+twt (M.unk b)+_)
  rw[zlK]
  have h2:((M.vals (d:=d) (zdL s (d+1) root a b)).map (vwt (mwt d))).sum≤((M.vals a).map (vwt (mwt d))).sum+((M.vals b).map (vwt (mwt d))).sum:=key
  omega
end
section
open Go.RowKit Go.Shelf
theorem zp9 {w:World}{g:Nat}{s:List Mes}{root:Int}{v1 v2 u1 u2:Value}{d:Nat}{x y:M d}{T:TypeId}(hb:Blk w g [v1,v2,u1,u2] T)(hx:zac d w (.agg #[v1,v2]) x)(hy:zac d w (.agg #[u1,u2]) y)(hw:mwt d x≤1099511627776)(hw':mwt d y≤1099511627776):zp8 w s root g [zae s d root x,zae s d root y]:=by
 intro i r hi
 match i,hi with
 | 0,hi =>
  simp at hi
  subst hi
  exact⟨v1,v2,d,x,by simpa using hb.cell 0 _ rfl,by simpa using hb.cell 1 _ rfl,hx,hw,rfl⟩
 | 1,hi =>
  simp at hi
  subst hi
  exact⟨u1,u2,d,y,by simpa using hb.cell 2 _ rfl,by simpa using hb.cell 3 _ rfl,hy,hw',rfl⟩
 | i+2,hi=>simp at hi
theorem zpi {w:World}{sv v u:Value}{s:List Mes}{d:Nat}{x y:M d}(hS:zaj w sv s)(root:Int)(hx:zac d w v x)(hy:zac d w u y)(hwx:mwt d x≤536870912)(hwy:mwt d y≤536870912) :
  Calls Tryz.prog 21 #[sv,.int .i64 root,v,u] w (zdV w d (zbv s root [zae s d root x,zae s d root y]) (zdL s d root x y)):=by
 obtain⟨a1,n1,c1,a2,n2,c2,rfl⟩:=hx.form
 obtain⟨b1,m1,k1,b2,m2,k2,rfl⟩:=hy.form
 obtain⟨X,HX⟩:∃ X,Hid (X=w.heap.size):=⟨_,rfl⟩
 have hS2:=hS
 obtain⟨-,sa,sc,rfl,-⟩:=hS2.open
 obtain⟨sn,HSN⟩:∃ n,Hid (n=s.length):=⟨_,rfl⟩
 rw[←HSN.out] at hS hS2 ⊢
 obtain⟨W1,HW1⟩:∃ W,Hid (W=((w.alloc (.cells #[.slice a1 n1 c1,.slice a2 n2 c2] 27)).alloc (.cells #[.slice b1 m1 k1,.slice b2 m2 k2] 27)).alloc (.cells #[.slice none 0 0,.slice none 0 0] 27)):=⟨_,rfl⟩
 have hx1:Blk W1 X [.slice a1 n1 c1,.slice a2 n2 c2] 27:=by rw[HW1.out,HX.out];exact ((Blk.new w [.slice a1 n1 c1,.slice a2 n2 c2] _).alloc _).alloc _
 have hy1:Blk W1 (X+1) [.slice b1 m1 k1,.slice b2 m2 k2] 27:=by rw[HW1.out,HX.out];exact (Blk.new' _ [.slice b1 m1 k1,.slice b2 m2 k2] _ _ (by simp)).alloc _
 have hr1:Blk W1 (X+1+1) [.slice none 0 0,.slice none 0 0] 27:=by rw[HW1.out,HX.out];exact Blk.new' _ [.slice none 0 0,.slice none 0 0] _ _ (by simp)
 have hb1:Below w.heap.size w W1:=by rw[HW1.out];(with_reducible repeat first|exact Below.refl _ _|refine pzA ?_ _|refine pzB ?_ _|refine zab ?_ _|refine Below.drew ?_)
 obtain⟨W2,HW2⟩:∃ W,Hid (W=W1.alloc (.cells #[.slice a1 n1 c1,.slice a2 n2 c2,.slice b1 m1 k1,.slice b2 m2 k2] 27)):=⟨_,rfl⟩
 obtain⟨G,HG⟩:∃ G,Hid (G=W1.heap.size):=⟨_,rfl⟩
 have hb12:Below W1.heap.size W1 W2:=by rw[HW2.out];exact (Below.refl _ _).alloc (Nat.le_refl _) _
 have hg2:Blk W2 G [.slice a1 n1 c1,.slice a2 n2 c2,.slice b1 m1 k1,.slice b2 m2 k2] 27:=by rw[HW2.out,HG.out];exact Blk.new W1 [.slice a1 n1 c1,.slice a2 n2 c2,.slice b1 m1 k1,.slice b2 m2 k2] _
 have hb2:=hb1.trans (hb12.mono hb1.size)
 obtain⟨code,HC⟩:∃ c,Hid (c=zbv s root [zae s d root x,zae s d root y]):=⟨_,rfl⟩
 have HMAY:=hid (zi0 (hS.below hb2) root (zp9 (s:=s) (root:=root) hg2 (hx.below hb2) (hy.below hb2) (by omega) (by omega)) (n:=2) (c:=2) rfl (by decide))
 rw[←HC.out] at HMAY ⊢
 have hc12:code≤12:=by rw[HC.out];exact zc0 _ _ _
 have HB2:=hid hb2
 have HXB:=hid (And.intro (hx1.below hb12) (And.intro (hy1.below hb12) (hr1.below hb12)))
 have HS0:=hid hS
 have HXM:=hid (And.intro hx hy)
 have HWT:=hid (And.intro hwx hwy)
 obtain⟨Q,HQ⟩:∃ Q:Ending→World→Prop,Hid (Q=zdV w d code (zdL s d root x y)):=⟨_,rfl⟩
 rw[←HQ.out]
 have k0:=hx1.cell 0 _ rfl
 have k1:=hx1.cell 1 _ rfl
 have kl:=hx1.lt
 have l0:=hy1.cell 0 _ rfl
 have l1:=hy1.cell 1 _ rfl
 have ll:=hy1.lt
 clear hx1 hy1 hr1 hb1 hb12 hg2 hb2 hS hS2 hx hy hwx hwy
 go_enter Tryz.func21,Tryz.ntmps21
 go_upto_region 1 with fail
 rw[←HW1.out,←HX.out]
 go_wp2_with fail
 rw[←HW2.out,←HG.out]
 refine HMAY.out.mono ?_
 rintro e w3 ⟨rfl,hb3⟩
 have HB3:=hid (HB2.out.trans (hb3.mono HB2.out.size))
 have HX3:=hid (And.intro (HXB.out.1.below hb3) (And.intro (HXB.out.2.1.below hb3) (HXB.out.2.2.below hb3)))
 clear k0 k1 kl l0 l1 ll
 have k0:=HX3.out.1.cell 0 _ rfl
 have k1:=HX3.out.1.cell 1 _ rfl
 have kl:=HX3.out.1.lt
 have l0:=HX3.out.2.1.cell 0 _ rfl
 have l1:=HX3.out.2.1.cell 1 _ rfl
 have ll:=HX3.out.2.1.lt
 clear hb3 HMAY HXB
 by_cases h0:code=0
 ·
  subst h0
  obtain⟨g1,g2,g3,g4⟩:=zfi HC.out.symm
  obtain⟨r,rfl⟩:∃ r:Nat,root=r:=⟨root.toNat,by omega⟩
  have hrt:zae s d (r:Int) x=true∧zae s d (r:Int) y=true:=by simpa using g4
  have HP:=hid (zlJ HS0.out d r w3 _ _ x y (by omega) HB3.out HXM.out.1 HXM.out.2 hrt.1 hrt.2 HWT.out.1 HWT.out.2)
  obtain⟨z,HY⟩:∃ z,Hid (z=zdL s d r x y):=⟨_,rfl⟩
  rw[←HY.out] at HP
  have HYW:Hid (mwt d z≤1099511627776):=by
   have h1:=zlL s d r x y hrt.1 hrt.2
   rw[←HY.out] at h1
   have:=HWT.out
   show _≤_
   omega
  rw[←HY.out] at HQ
  clear g1 g2 g3 g4 hrt HC hc12
  go_wp2_with fail
  refine HP.out.mono ?_
  rintro e w4 ⟨v4,rfl,hb4,hap4⟩
  have hM4:=hap4.here
  obtain⟨p1,q1,o1,p2,q2,o2,rfl⟩:=hM4.form
  have HCP:=hid (zdt (w0:=w4) d w4 _ z (Below.refl _ _) hM4 HYW.out)
  have HB4:=hid (HB3.out.trans (hb4.mono HB3.out.size))
  have HR4:=hid (HX3.out.2.2.below hb4)
  clear hb4 hap4 hM4 k0 k1 kl l0 l1 ll HX3
  go_wp2_with fail
  refine HCP.out.mono ?_
  rintro e w5 ⟨v5,rfl,hb5,hap5⟩
  obtain⟨s1,t1,u1,s2,t2,u2,rfl⟩:=hap5.here.form
  have HB5:=hid (HB4.out.trans (hb5.mono HB4.out.size))
  have hr5:=HR4.out.below hb5
  have hlt4:=HR4.out.lt
  have r0:=hr5.cell 0 _ rfl
  have r1:=hr5.cell 1 _ rfl
  have f0:=hr5.free 0
  have f1:=hr5.free 1
  have rl:=hr5.lt
  have z1:=hr5.set 0 (.slice s1 t1 u1)
  have z2:=z1.set 1 (.slice s2 t2 u2)
  have q0:=z2.cell 0 _ rfl
  have q1':=z2.cell 1 _ rfl
  have HE:Hid (Q (.returned (.tuple #[.agg #[.slice s1 t1 u1,.slice s2 t2 u2],.int .u8 0])) ((w5.setCell ⟨X+1+1,0,none⟩ (.slice s1 t1 u1)).setCell ⟨X+1+1,1,none⟩ (.slice s2 t2 u2))):=by
   rw[HQ.out]
   refine⟨(HB5.out.setCell (by rw[HX.out];show w.heap.size≤w.heap.size+1+1;omega) _).setCell (by rw[HX.out];show w.heap.size≤w.heap.size+1+1;omega) _,fun h=>absurd rfl h,fun _=>⟨_,_,_,_,_,_,rfl,?_⟩⟩
   intro w2 hw2
   refine hap5 _ fun b hb hc=>?_
   have hne:b≠X+1+1:=by omega
   have h4:=HB4.out.size
   rw[hw2 b (by simpa using hb) (.inr (by omega)),Below.heap_setCell _ _ _ b hne,Below.heap_setCell _ _ _ b hne]
  clear hr5 z1 z2 hap5 hb5 hlt4 HCP HP
  go_wp2_with fail
  refine bodyPost_ret (v:=.tuple #[.agg #[.slice s1 t1 u1,.slice s2 t2 u2],.int .u8 0]) ?_ rfl HE.out
  simp[results,Tryz.results21,go_sem,q0,q1']
 ·
  have hne:((code:Int) != 0)=true:=by simpa using h0
  have hr3:=HX3.out.2.2
  have r0:=hr3.cell 0 _ rfl
  have r1:=hr3.cell 1 _ rfl
  have f0:=hr3.free 0
  have f1:=hr3.free 1
  have rl:=hr3.lt
  have z1:=hr3.set 0 (.slice none 0 0)
  have z2:=z1.set 1 (.slice none 0 0)
  have q0:=z2.cell 0 _ rfl
  have q1':=z2.cell 1 _ rfl
  have HE:Hid (Q (.returned (.tuple #[.agg #[.slice none 0 0,.slice none 0 0],.int .u8 (code:Int)])) ((w3.setCell ⟨X+1+1,0,none⟩ (.slice none 0 0)).setCell ⟨X+1+1,1,none⟩ (.slice none 0 0))):=by
   rw[HQ.out]
   exact⟨(HB3.out.setCell (by rw[HX.out];show w.heap.size≤w.heap.size+1+1;omega) _).setCell (by rw[HX.out];show w.heap.size≤w.heap.size+1+1;omega) _,fun _=>rfl,fun h=>absurd h h0⟩
  clear hr3 z1 z2 HX3 HC h0
  go_wp2_with fail
  refine bodyPost_ret (v:=.tuple #[.agg #[.slice none 0 0,.slice none 0 0],.int .u8 (code:Int)]) ?_ rfl HE.out
  simp[results,Tryz.results21,go_sem,q0,q1']
end
section
open Go.RowKit
section
variable {P:Program} {ops:Array Oper} {Q:Exit→Act→World→Prop} {S:World→Prop} {L:Nat}
def zeK (P:Program)(ops:Array Oper)(Q:Exit→Act→World→Prop)(S:World→Prop)(L:Nat):Nat→Array Bool→Act→World→Prop
 | 0,listed,a,w=>Region.ready .any ops listed=[]∧Q .normal a w
 | fuel+1,listed,a,w =>
  (Region.ready .any ops listed=[]→Q .normal a w) ∧
  ∀ i∈Region.ready .any ops listed,wpOp P ops Q i (fun a' w'=>(i≠L→S w')∧zeK P ops Q S L fuel (listed.setIfInBounds i true) a' w') a w
theorem zih:∀ (fuel:Nat) (listed:Array Bool) (a:Act) (w:World),zeK P ops Q S L fuel listed a w→wpAny P .any ops Q fuel listed a w
 | 0,_,_,_,h=>h
 | fuel+1,_,_,_,h=>⟨h.1,fun i hi=>wpOp_mono (fun a' w' h'=>zih fuel _ a' w' h'.2) (h.2 i hi)⟩
theorem zka {i:Nat}{oi:Oper}{v:Value}(hi:ops[i]?=some oi)(hsel:∀ (j:Nat) (o:Oper) cs b,ops[j]?=some o→o.op≠ .select cs b)
  (hQ:∀ c a w,Q (.panic c) (a.put oi.dst v) w→Q (.panic c) a w) (hL:Region.waitsFor .any ops L i=true) :
  ∀ (fuel:Nat) (listed:Array Bool) (a:Act) (w:World),
   (∀ j oj,ops[j]?=some oj→j≠i→listed.getD j true=false→(∀ e∈oj.after,Region.binds .any e=true→e.on≠i)→oi.apart ops oj=true) →
   i∈Region.ready .any ops listed→YieldsIf P ops S oi v a→S w →
   zeK P ops Q S L fuel (listed.setIfInBounds i true) (a.put oi.dst v) w→zeK P ops Q S L (fuel+1) listed a w:=by
 obtain⟨oL,hoL,eL,heL,hbL,honL⟩:=Region.waitsFor_spec hL
 have hnL:∀ (listed:Array Bool) (j:Nat),i∈Region.ready .any ops listed→j∈Region.ready .any ops listed→j≠L:=by
  rintro listed j hr hj rfl
  obtain⟨-,o,ho,hall⟩:=mem_ready.1 hj
  rw[hoL] at ho
  cases ho
  have h1:=hall eL heL hbL
  rw[honL] at h1
  have h0:=(mem_ready.1 hr).1
  rw[getD_both h0] at h1
  cases h1
 intro fuel
 induction fuel with
 | zero =>
  intro listed a w _ hr hy hS H
  refine⟨fun h=>(by rw[h] at hr;cases hr),fun j hj=>?_⟩
  by_cases hji:j=i
  ·
   subst hji;exact hy.wpOp hi hS ⟨fun _=>hS,H⟩
  ·
   have:=ready_mono hj hji
   rw[H.1] at this
   cases this
 | succ fuel ih =>
  intro listed a w hfree hr hy hS H
  refine⟨fun h=>(by rw[h] at hr;cases hr),fun j hj=>?_⟩
  by_cases hji:j=i
  ·
   subst hji;exact hy.wpOp hi hS ⟨fun _=>hS,H⟩
  ·
   have hjL:=hnL listed j hr hj
   have h1:=H.2 j (ready_mono hj hji)
   obtain⟨hjun,oj,hoj,hall⟩:=mem_ready.1 hj
   have hnot:∀ e∈oj.after,Region.binds .any e=true→e.on≠i:=fun e he hb heq=>by
    have h1:=hall e he hb
    have h0:=(mem_ready.1 hr).1
    rw[heq,getD_both h0] at h1
    cases h1
   have h2:=wpOp_putIf hoj (hfree j oj hoj hji hjun hnot) (fun cs b=>hsel i oi cs b hi) (fun cs b=>hsel j oj cs b hoj) hQ hy h1
   have hfree':∀ k ok,ops[k]?=some ok→k≠i→(listed.setIfInBounds j true).getD k true=false →
     (∀ e∈ok.after,Region.binds .any e=true→e.on≠i)→oi.apart ops ok=true:=fun k ok hk hki hun hno=>by
    refine hfree k ok hk hki ?_ hno
    by_cases hjk:j=k
    ·
     subst hjk;exact hjun
    ·
     rw[getD_set_ne true hjk] at hun;exact hun
   refine wpOp_mono (fun a' w' h3=>⟨h3.2.1,ih (listed.setIfInBounds j true) a' w' hfree' (ready_mono hr (Ne.symm hji)) h3.1 (h3.2.1 hjL) ?_⟩) h2
   rw[Array.setIfInBounds_comm _ _ hji]
   exact h3.2.2
theorem zkY {id:Nat}{a:Act}{w:World}(L:Nat)(S:World→Prop)(hm:P.follows .mixedOrders=true)
  (h:zeK P ops Q S L ops.size (Array.replicate ops.size false) a w.drew):(Code.region id ops true).wp P Q a w:=
 wp_region_any hm (zih _ _ _ _ h)
theorem zaK {i:Nat}{oi:Oper}{v:Value}{fuel:Nat}{listed:Array Bool}{a:Act}{w:World}(hi:ops[i]?=some oi)
  (hs:Region.noSelect ops=true) (hf:Region.free .any ops listed i=true) (hr:(Region.ready .any ops listed).contains i=true) (hL:Region.waitsFor .any ops L i=true)
  (hQ:∀ c a w,Q (.panic c) (a.put oi.dst v) w→Q (.panic c) a w) (hS:S w) (hy:YieldsIf P ops S oi v a)
  (h:zeK P ops Q S L fuel (listed.setIfInBounds i true) (a.put oi.dst v) w):zeK P ops Q S L (fuel+1) listed a w:=
 zka hi (Region.noSelect_spec hs) hQ hL fuel listed a w (Region.free_spec hi hf) (by simpa using hr) hy hS h
theorem zcL {i:Nat}{oi:Oper}{fuel:Nat}{listed:Array Bool}{a:Act}{w:World}(hr:Region.ready .any ops listed=[i])(hi:ops[i]?=some oi)(hg:oi.guard=none)
  (h:∀ K':Act→World→Prop,Shut (∀ a w,(i≠L→S w)→zeK P ops Q S L fuel (listed.setIfInBounds i true) a w→K' a w)→Oper.wp P oi a w K' Q):zeK P ops Q S L (fuel+1) listed a w:=by
 refine⟨fun h0=>(by rw[hr] at h0;cases h0),fun j hj=>?_⟩
 rw[hr] at hj
 have hji:j=i:=by simpa using hj
 subst hji
 refine wpOp_step hi fun K' hK=>?_
 rw[if_pos (by simp[Region.wanted,hg])]
 exact h K' fun a w hS hW=>hK a w ⟨hS,hW⟩
theorem zkZ {listed:Array Bool}{a:Act}{w:World}(hr:Region.ready .any ops listed=[])(h:Q .normal a w):∀ fuel,zeK P ops Q S L fuel listed a w
 | 0=>⟨hr,h⟩
 | _+1=>⟨fun _=>h,by rw[hr];simp⟩
end
def zpF (O z:Nat)(w0 w':World):Prop:=∀ b,b<w0.heap.size→(b<O∨z≤b)→w'.heap[b]?=w0.heap[b]?
theorem zpF.refl (O z:Nat)(w:World):zpF O z w w:=fun _ _ _=>rfl
theorem zpF.cell {O z:Nat}{w0 w':World}(h:zpF O z w0 w'){b j:Nat}{u:Value}(hb:b<O∨z≤b)(hc:w0.cell? ⟨b,j,none⟩=some u):w'.cell? ⟨b,j,none⟩=some u:=
 (World.cell?_of_block (h b (World.block_lt_of_cell? w0 _ hc) hb)).trans hc
theorem zfF {O z:Nat}{w0 w':World}(hb:Below w0.heap.size w0 w'):zpF O z w0 w':=fun b hlt _=>hb.block b hlt
end
section
open Go.RowKit
def pval {α:Type}(sub:Int→List (List Int)→α→α)(fs:List Fld)(keep:Bool)(ws:List (List Int))(v:Val α):List (Val α):=
 if ws.any (zd0 v.num)=false∧zbd ws v.num≠[]∧(fs.getD (zak fs v.num).toNat .zero).kind=17∧(fs.getD (zak fs v.num).toNat .zero).rep=false then
  [⟨v.num,[],[],(v.subs.take 1).map (sub (fs.getD (zak fs v.num).toNat .zero).of (zbd ws v.num))⟩]
 else if ws.any (zd0 v.num)=keep then [v] else []
def zdw (s:List Mes)(keep:Bool):(d:Nat)→Nat→List (List Int)→M d→M d
 | 0,_,_,x=>x
 | d+1,m,ws,x=>(⟨(M.vals x).flatMap (pval (fun o u y=>zdw s keep d o.toNat u y) (s.getD m .zero).fields keep ws),if keep=true then [] else M.unk x⟩:zec (M d))
end
section
open Go.RowKit
theorem zez.open {w:World}{o:List (List Int)}{e:Ending}{w':World}(h:zez w o e w'):∃ a c,e= .returned (zb1 (.slice a o.length c))∧zaM w' (.slice a o.length c) o∧Below w.heap.size w w'∧zeg w w' (.slice a o.length c) o:=by
 obtain⟨v',rfl,h2,h3⟩:=h
 have h2':=h2.here
 have h2'':=h2'
 obtain⟨-,a,c,rfl,-,-⟩:=h2''.open
 exact⟨a,c,rfl,h2',h3,h2⟩
theorem zfG (a:Option Addr)(n c:Nat)(w:World):(Instr.field 69 (.agg #[.slice a n c]) 0).run Tryz.prog w= .ok (.slice a n c) w:=by kernel_rfl
theorem zmz {w:World}{v:Value}{ls:List (List Int)}(h:zaM w v ls)(hL:zdc ls)(x:Int) :
  Calls Tryz.prog 105 #[zb1 v,.int .i64 x] w fun e w'=>e= .returned (.bool ((mOf ls).any (zd0 x)))∧Below w.heap.size w w':=by
 unfold zb1
 have HOF:Hid (∀ W,Below w.heap.size w W→Calls Tryz.prog 20 #[v] W (zez W (mOf ls))):=fun W hW=>zgU (h.keep (zaa hW)) hL
 obtain⟨-,a,c,rfl,-,-⟩:=h.open
 obtain⟨z,HZ⟩:∃ z,Hid (z=(mOf ls).any (zd0 x)):=⟨_,rfl⟩
 rw[←HZ.out]
 clear h hL
 go_enter Tryz.func105,Tryz.ntmps105
 go_wp2_with fail
 refine (HOF.out _ ?_).mono ?_
 ·
  (with_reducible repeat first|exact Below.refl _ _|refine pzA ?_ _|refine pzB ?_ _|refine zab ?_ _|refine Below.drew ?_)
 ·
  intro e w1 hp
  obtain⟨a2,c2,rfl,hW,hb,-⟩:=hp.open
  have hq:w1.cell? ⟨w.heap.size+1,0,none⟩=some (.int .i64 x):=by
   refine zaa hb _ _ ?_
   simp[go_sem]
  have HC:=hid (zfu hW 139 #[.pointer (some ⟨w.heap.size+1,0,none⟩)] (zd0 x) (fun args w=>by simp[go_sem]) fun y l wr hy hd=>zjF (hd.keeps _ _ hq) hy)
  rw[←HZ.out] at HC
  have HB:Hid (Below w.heap.size w w1):=zai (by (with_reducible repeat first|exact Below.refl _ _|refine pzA ?_ _|refine pzB ?_ _|refine zab ?_ _|refine Below.drew ?_)) hb (by simp;omega)
  unfold zb1
  have hfd:=zfG
  clear hW hb hq hp
  go_wp2_with fail
  refine HC.out.mono ?_
  rintro e w2 ⟨rfl,hd⟩
  have HB2:Hid (Below w.heap.size w w2):=zai HB.out hd.below HB.out.size
  clear hd
  go_wp2_with fail
  go_ret
  exact⟨rfl,HB2.out⟩
theorem zhL {w:World}{v u:Value}{l m:List (List Int)}(h:zaM w v l)(hu:zaM w u m) :
  Calls Tryz.prog 123 #[v,u,.func (.func 78) #[] #[]] w fun e w'=>e= .returned (.bool (decide (l=m)))∧zd8 w w':=by
 obtain⟨hl,a,c,rfl,-,hat⟩:=h.open
 obtain⟨hm,a2,c2,rfl,-,hbt⟩:=hu.open
 obtain⟨n,HN⟩:∃ n,Hid (n=l.length):=⟨_,rfl⟩
 obtain⟨n2,HN2⟩:∃ n,Hid (n=m.length):=⟨_,rfl⟩
 rw[←HN.out] at hl ⊢
 rw[←HN2.out] at hm ⊢
 obtain⟨z,HZ⟩:∃ z,Hid (z=decide (l=m)):=⟨_,rfl⟩
 rw[←HZ.out]
 have HAT:=hid hat
 have HBT:=hid hbt
 have hcf:∀ (args:Array Value) (w:World),(callFunc 78 args).run Tryz.prog w= .ok (.enter 78 args) w:=fun args w=>by simp[go_sem]
 clear hat hbt h hu
 by_cases hnn:n=n2
 ·
  subst hnn
  go_enter Tryz.func123,Tryz.ntmps123
  go_wp2_with fail
  go_loopw [17] (fun v5 wr=>∃ i:Nat,v5= .int .i64 i∧i≤n∧Hid (z=decide (l.drop i=m.drop i))∧Hid (zd8 w wr)) (fun v5 _=>n - (intOf v5).toNat)
  case atStart=>exact⟨0,rfl,by omega,by rw[Hid,HZ.out];simp,zd8.refl _⟩
  case round =>
   obtain⟨i,rfl,hi,HI,HB⟩:=hrel
   by_cases h1:i<n
   ·
    obtain⟨x,hxi⟩:=zeS HN.out h1
    obtain⟨y,hyi⟩:=zeS HN2.out h1
    obtain⟨b,o,xa,xc,ha,g0,hX⟩:=HAT.out i x hxi
    obtain⟨b2,o2,ya,yc,ha2,g2,hY⟩:=HBT.out i y hyi
    have HC:=hid (zjE hxi hyi)
    have hix:=zag Tryz.underlying67 zcT ha i h1 (cap:=c)
    have hix2:=zag Tryz.underlying67 zcT ha2 i h1 (cap:=c2)
    have HS:=hid (zh3 (hX.keep HB.out.keeps) (hY.keep HB.out.keeps))
    replace g0:=HB.out.keeps _ _ g0
    replace g2:=HB.out.keeps _ _ g2
    obtain⟨xn,HXN⟩:∃ xn,Hid (xn=x.length):=⟨_,rfl⟩
    obtain⟨yn,HYN⟩:∃ yn,Hid (yn=y.length):=⟨_,rfl⟩
    rw[←HXN.out] at g0 HS
    rw[←HYN.out] at g2 HS
    clear hxi hyi ha ha2 hX hY
    by_cases hxy:x=y
    ·
     have HC1:Hid (z=decide (l.drop (i+1)=m.drop (i+1))):=by
      rw[Hid,HI.out,decide_eq_decide,HC.out];simp[hxy]
     rw[show decide (x=y)=true from decide_eq_true hxy] at HS
     have HXY:=hid hxy
     clear hxy
     go_wp2_with fail
     refine HS.out.mono ?_
     rintro e w3 ⟨rfl,hd⟩
     have HB3:=hid (HB.out.trans hd)
     clear hd
     go_wp2_with fail
     go_roundw
     case rel=>exact⟨i+1,by go_num,h1,HC1.out,HB3.out⟩
     case measure=>simp[intOf];omega
    ·
     have HC1:Hid (z=false):=by
      rw[Hid,HI.out,decide_eq_false_iff_not,HC.out];simp[hxy]
     rw[show decide (x=y)=false from decide_eq_false hxy] at HS
     have HXY:=hid hxy
     clear hxy
     go_wp2_with fail
     refine HS.out.mono ?_
     rintro e w3 ⟨rfl,hd⟩
     have HB3:=hid (HB.out.trans hd)
     clear hd
     go_wp2_with fail
     go_ret
     exact⟨by rw[HC1.out];first|done|rfl,HB3.out⟩
   ·
    obtain rfl:i=n:=by omega
    have HC1:Hid (z=true):=by
     rw[Hid,HI.out,List.drop_eq_nil_of_le (by rw[←HN.out];omega),List.drop_eq_nil_of_le (by rw[←HN2.out];omega)];simp
    go_wp2_with fail
    go_ret
    exact⟨by rw[HC1.out];first|done|rfl,HB.out⟩
 ·
  have HC1:Hid (z=false):=by
   rw[Hid,HZ.out,decide_eq_false_iff_not];rintro rfl;exact hnn (by rw[HN.out,HN2.out])
  have e1:decide ((n:Int)=n2)=false:=decide_eq_false (by omega)
  have e2:((n:Int) == n2)=false:=by simp;omega
  have e3:(n == n2)=false:=by simp;omega
  clear hnn
  go_enter Tryz.func123,Tryz.ntmps123
  go_wp2_with fail
  go_ret
  exact⟨by rw[HC1.out];first|done|rfl,zd8.refl _⟩
def zeX (ls:List (List Int)):Bool:=decide (mOf ls=ls)
theorem zmA {w:World}{v:Value}{ls:List (List Int)}(h:zaM w v ls)(hL:zdc ls) :
  Calls Tryz.prog 83 #[zb1 v] w fun e w'=>e= .returned (.bool (zeX ls))∧Below w.heap.size w w':=by
 unfold zb1
 obtain⟨wA,HA⟩:∃ wA,Hid (wA=w.alloc (.cells #[v] 69)):=⟨_,rfl⟩
 have hA:Below w.heap.size w wA:=by rw[HA.out];exact (Below.refl _ _).alloc (Nat.le_refl _) _
 have HWA:=hid hA
 have HW:=hid (h.below hA)
 have HOF:=hid (zgU (w:=wA.drew) (((h.below hA)).keep fun _ _ h=>h) hL)
 have hb0:wA.cell? ⟨w.heap.size,0,none⟩=some v:=by rw[HA.out];simp[go_sem]
 have HB0:Hid (wA.drew.cell? ⟨w.heap.size,0,none⟩=some v):=hb0
 have HWD:Hid (zaM wA.drew v ls):=HW.out.keep fun _ _ h=>h
 obtain⟨-,a,c,rfl,-,-⟩:=h.open
 obtain⟨z,HZ⟩:∃ z,Hid (z=zeX ls):=⟨_,rfl⟩
 rw[←HZ.out]
 clear h hL hA hb0
 go_enter Tryz.func83,Tryz.ntmps83
 have c0:=HB0.out
 have hfd:=zfG
 go_wp2_with fail
 rw[←HA.out]
 go_region_held3 (fun w'=>w'.cell? ⟨w.heap.size,0,none⟩=some (.slice a ls.length c)) (first|(with_reducible exact c0)|(with_reducible exact c1)|(with_reducible exact k2)|go_keep) (first|(go_at_call 20;(with_reducible refine HOF.out.mono ?_);intro e w1 hp;obtain⟨a2,c2,rfl,hW2,hb,-⟩:=hp.open;have c1:=zaa hb _ _ c0;have HEQ:=hid (zhL hW2 (HWD.out.below hb));have HB:=hid hb;unfold zb1;clear hW2 hb hp)|(go_at_call 123;(with_reducible refine HEQ.out.mono ?_);rintro e w2 ⟨rfl,hd⟩;have k2:=hd.keeps _ _ c1;have HD:=hid hd;clear hd))
 go_wp2_with fail
 go_ret
 exact⟨by rw[HZ.out];first|done|rfl,zai (zai HWA.out.drew HB.out HWA.out.size) HD.out.below (Nat.le_trans HWA.out.size HB.out.size)⟩
theorem zpj {w1 w':World}(h:∀ b,b<w1.heap.size→w'.heap[b]?=w1.heap[b]?):∀ p u,w1.cell? p=some u→w'.cell? p=some u:=fun p _u hu =>
 (World.cell?_of_block (h _ (World.block_lt_of_cell? w1 p hu))).trans hu
theorem zmB {x:Int}{y:List Int}(r:List (List Int))(h:1<y.length)(h0:y[0]?=some x):zbd (y::r) x=y.drop 1::zbd r x:=by
 unfold zbd
 rw[List.filter_cons,if_pos (by simp[h,h0,List.head?_eq_getElem?])]
 simp
theorem zk0 {x:Int}{y:List Int}(r:List (List Int))(h:¬ 1<y.length):zbd (y::r) x=zbd r x:=by
 unfold zbd
 rw[List.filter_cons,if_neg (by simp[h])]
theorem zk1 {x z:Int}{y:List Int}(r:List (List Int))(h0:y[0]?=some z)(hz:z≠x):zbd (y::r) x=zbd r x:=by
 unfold zbd
 rw[List.filter_cons,if_neg (by simp[h0,List.head?_eq_getElem?,hz])]
def zkb (w:World)(o:List (List Int))(e:Ending)(w':World):Prop:=∃ v',e= .returned (.tuple #[zb1 v',.bool (decide (0<o.length))])∧zeg w w' v' o∧Below w.heap.size w w'
theorem zkc {ls:List (List Int)}(h:zdc ls):zdc (mOf ls):=by
 have hm:=zdK ls
 refine⟨?_,fun l hl=>h.2 l ((hm.2 l).1 hl).1⟩
 exact Nat.le_trans (zpX ls) h.1
theorem zfW {ls:List (List Int)}(h:zdc ls)(x:Int):zdc (zbd ls x):=by
 refine⟨?_,fun l hl=>?_⟩
 ·
  unfold zbd
  rw[List.length_map]
  exact Nat.le_trans (List.length_filter_le _ _) h.1
 ·
  obtain⟨-,h2⟩:=(zgS _ _ _).1 hl
  have:=h.2 _ h2
  simp at this
  omega
theorem zmC {w:World}{v:Value}{ls:List (List Int)}(h:zaM w v ls)(hL:zdc ls)(x:Int) :
  Calls Tryz.prog 104 #[zb1 v,.int .i64 x] w (zkb w (zbd (mOf ls) x)):=by
 unfold zb1
 obtain⟨wA,HA⟩:∃ wA,Hid (wA=(w.alloc (.cells #[v] 69)).alloc (.cells #[.slice none 0 0] 69)):=⟨_,rfl⟩
 have hA:Below w.heap.size w wA:=by rw[HA.out];(with_reducible repeat first|exact Below.refl _ _|refine pzA ?_ _|refine pzB ?_ _|refine zab ?_ _|refine Below.drew ?_)
 have HWA:=hid hA
 have HBX:Hid (Blk wA (w.heap.size+1) [.slice none 0 0] 69):=by rw[HA.out];exact Blk.new' _ [.slice none 0 0] _ _ (by simp)
 have HSZ:Hid (wA.heap.size=w.heap.size+2):=by rw[HA.out];simp[Hid]
 have HOF:=hid (zgU (w:=wA) (h.below hA) hL)
 obtain⟨m,HM⟩:∃ m,Hid (m=mOf ls):=⟨_,rfl⟩
 rw[←HM.out] at HOF ⊢
 have HML:Hid (zdc m):=by rw[HM.out];exact zkc hL
 have HUU:Hid (mOf (zbd m x)=zbd m x):=by rw[HM.out];exact zh4 ls x
 obtain⟨-,a,c,rfl,-,-⟩:=h.open
 obtain⟨n0,HN0⟩:∃ n,Hid (n=ls.length):=⟨_,rfl⟩
 rw[←HN0.out] at HA HOF ⊢
 obtain⟨Q,HQ⟩:∃ Q:Ending→World→Prop,Hid (Q=zkb w (zbd m x)):=⟨_,rfl⟩
 rw[←HQ.out]
 clear h hL hA
 have hfd:=zfG
 go_enter Tryz.func104,Tryz.ntmps104
 go_wp2_with fail
 rw[←HA.out]
 refine HOF.out.mono ?_
 intro e w1 hp
 obtain⟨a2,c2,rfl,hW,hb,-⟩:=hp.open
 obtain⟨n,HN⟩:∃ n,Hid (n=m.length):=⟨_,rfl⟩
 rw[←HN.out] at hW ⊢
 have hn:n≤1099511627776:=by rw[HN.out];exact HML.out.1
 obtain⟨-,a',c',he,-,hat⟩:=hW.open
 rw[←HN.out] at he
 cases he
 have HAT:=hid hat
 have HB:=hid hb
 unfold zb1
 clear hW hb hp hat HOF
 go_wp2_with fail
 go_loopw [6,14] (fun v6 v14 wr=>∃ (k:Nat) (o:List (List Int)),v14= .int .i64 k∧k≤n∧Hid (zam zoU 28 1 w1.heap.size w1.heap.size wr v6 o∧o.length≤k∧o++zbd (m.drop k) x=zbd m x∧Below w1.heap.size w1 wr)) (fun _ v14 _=>n - (intOf v14).toNat)
 case atStart=>exact⟨0,[],rfl,by omega,zam.nil _ _ _ _ _ _,by simp,rfl,Below.refl _ _⟩
 case round =>
  obtain⟨k,o,rfl,hk,HI⟩:=hrel
  obtain⟨oa,oc,hoe⟩:=HI.out.1.form
  obtain⟨j,HJ⟩:∃ j,Hid (j=o.length):=⟨_,rfl⟩
  rw[←HJ.out] at hoe
  subst hoe
  have hjk:j≤k:=by rw[HJ.out];exact HI.out.2.1
  by_cases hlt:k<n
  ·
   obtain⟨y,hy⟩:=zeS HN.out hlt
   obtain⟨b,q,ya,yc,ha,g0,hY⟩:=HAT.out k y hy
   replace g0:=zaa HI.out.2.2.2 _ _ g0
   have hix:=zag Tryz.underlying67 zcT ha k hlt (cap:=c2)
   have HD:=hid (zbS hy)
   have HYL:Hid (y.length≤17592186044416):=HML.out.2 y (List.mem_of_getElem? hy)
   obtain⟨q2,HQ2⟩:∃ q2,Hid (q2=y.length):=⟨_,rfl⟩
   rw[←HQ2.out] at g0 hY
   obtain⟨-,ya',yc',hye,-,hyat⟩:=hY.open
   rw[←HQ2.out] at hye
   cases hye
   have HY:=hid hY
   have HY64:=hid hY.2
   clear hy ha hY
   by_cases h1:1<q2
   ·
    obtain⟨z,hz⟩:=zdJ HQ2.out (by omega:0<q2)
    obtain⟨hz64,b2,o2,ha2,g2⟩:=hyat 0 z hz
    have hix2:=zir Tryz.underlying28 zbr ha2 (by omega:0<q2) (cap:=yc)
    replace g2:=zaa HI.out.2.2.2 _ _ g2
    rw[Nat.add_zero] at g2
    by_cases hzx:z=x
    ·
     subst hzx
     have HTK:=hid (zmB (m.drop (k+1)) (by rw[←HQ2.out];exact h1) hz)
     obtain⟨ta,tc,hsl,hT⟩:=HY.out.l HQ2.out 1 (by omega)
     have hsl':∀ W,(Instr.slice 28 (.slice ya q2 yc) (some (.int .i64 1)) none none).run Tryz.prog W= .ok (.slice ta (q2 - 1) tc) W:=hsl
     obtain⟨a',c',w6,hr,hO6,hB6,hB7⟩:=(HI.out.1).step (Below.refl _ _) (by decide) (Nat.le_refl _) HI.out.2.2.2.size HJ.out.symm (G:=Tryz.prog) 67 (.slice none 0 0) 24 zcH ze7 rfl #[.slice ta (q2 - 1) tc] rfl (by intro u hu;simp at hu;subst hu;rfl) (y.drop 1)
      (fun w' hw'=>⟨_,rfl,hT.keep (zpj fun b hb=>(hw' b (Nat.lt_of_lt_of_le hb HI.out.2.2.2.size) (.inl hb)).trans (HI.out.2.2.2.block b hb))⟩) (by omega) (by decide)
     have HO6:=hid hO6
     have HB7:=hid hB7
     have hq1:((q2 - 1:Nat):Int)=(q2:Int) - 1:=by omega
     clear hO6 hB6 hB7 hyat hz ha2 hT hsl hq1
     go_wp2_with (at_builtin;refine zaf rfl _ _ _ rfl _ _ rfl rfl hr ?_)
     go_roundw
     case rel=>exact⟨k+1,_,by go_num,hlt,HO6.out,by rw[List.length_append];have:=HI.out.2.1;simp;omega,by rw[←HI.out.2.2.1,HD.out,HTK.out,List.append_assoc];rfl,HI.out.2.2.2.trans HB7.out⟩
     case measure=>simp[intOf];omega
    ·
     have HTK:=hid (zk1 (m.drop (k+1)) hz hzx)
     have e1:(z == x)=false:=by simpa using hzx
     clear hzx hyat hz ha2
     go_wp2_with fail
     go_roundw
     case rel=>exact⟨k+1,o,by go_num,hlt,HI.out.1,by have:=HI.out.2.1;omega,by rw[←HI.out.2.2.1,HD.out,HTK.out],HI.out.2.2.2⟩
     case measure=>simp[intOf];omega
   ·
    have HTK:=hid (zk0 (x:=x) (m.drop (k+1)) (by rw[←HQ2.out];exact h1))
    have e1:decide ((1:Int)<q2)=false:=decide_eq_false (by omega)
    clear hyat h1
    go_wp2_with fail
    go_roundw
    case rel=>exact⟨k+1,o,by go_num,hlt,HI.out.1,by have:=HI.out.2.1;omega,by rw[←HI.out.2.2.1,HD.out,HTK.out],HI.out.2.2.2⟩
    case measure=>simp[intOf];omega
  ·
   obtain rfl:k=n:=by omega
   have HEN:Hid (o=zbd m x):=by
    have:=HI.out.2.2.1
    rw[List.drop_eq_nil_of_le (by rw[←HN.out];omega)] at this
    rw[Hid,←this];simp[zbd]
   have hWO:=zam.at HI.out.1 (by have:=HI.out.2.1;omega) (w':=wr) (fun _ _ _=>rfl)
   have HOF2:=hid (zgU (show zaM wr (.slice oa j oc) o from hWO) (by rw[HEN.out];exact zfW HML.out x))
   rw[HEN.out,HUU.out] at HOF2
   have HBX2:=hid ((HBX.out.below HB.out).below HI.out.2.2.2)
   clear hlt hWO
   go_wp2_with fail
   refine HOF2.out.mono ?_
   intro e w3 hp3
   obtain⟨a3,c3,rfl,-,hb3,hW3⟩:=hp3.open
   have HJ2:Hid ((zbd m x).length=j):=by rw[Hid,HJ.out,HEN.out]
   rw[HJ2.out] at hW3 ⊢
   have HW3:=hid hW3
   have HBX3:=hid (HBX2.out.below hb3)
   have hsz3:=HBX3.out.lt
   have c0:=HBX3.out.cell 0 _ rfl
   have f0:=HBX3.out.free 0
   have HB3:Hid (Below w.heap.size w w3):=(HWA.out.trans ((HB.out.trans (HI.out.2.2.2.mono HB.out.size)).mono (by have:=HSZ.out;omega))).trans (hb3.mono (by have:=HB.out.size;have:=HI.out.2.2.2.size;have:=HSZ.out;omega))
   have HCS:Hid ((w3.setCell ⟨w.heap.size+1,0,none⟩ (.slice a3 j c3)).cell? ⟨w.heap.size+1,0,none⟩=some (.slice a3 j c3)):=World.cell?_setCell_same' _ _ _ (by rw[c0];rfl)
   unfold zb1
   clear hW3 hb3 hp3
   have HFIN:Hid (Q (.returned (.tuple #[.agg #[.slice a3 j c3],.bool (decide (0<j))])) (w3.setCell ⟨w.heap.size+1,0,none⟩ (.slice a3 j c3))):=by
    rw[HQ.out,←HJ2.out]
    refine⟨_,rfl,?_,HB3.out.setCell (by simp) _⟩
    rw[HJ2.out]
    have hws:w.heap.size+2≤wr.heap.size:=by have:=HB.out.size;have:=HI.out.2.2.2.size;have:=HSZ.out;omega
    exact HW3.out.later (by omega) (by simp) fun b h1 h2=>Below.heap_setCell _ _ _ _ (by show b≠w.heap.size+1;omega)
   by_cases hj0:0<j
   ·
    have e1:decide (0<j)=true:=decide_eq_true hj0
    rw[e1] at HFIN
    clear e1
    go_wp2_with fail
    refine bodyPost_ret (v:=.tuple #[.agg #[.slice a3 j c3],.bool true]) (by simp[results,Tryz.results104,go_sem,HCS.out]) rfl HFIN.out
   ·
    have e1:decide (0<j)=false:=decide_eq_false hj0
    rw[e1] at HFIN
    obtain rfl:j=0:=by omega
    clear e1
    go_wp2_with fail
    refine bodyPost_ret (v:=.tuple #[.agg #[.slice a3 0 c3],.bool false]) (by simp[results,Tryz.results104,go_sem,HCS.out]) rfl HFIN.out
end
end Go.Proofs.YtdpnmdkbdibkpaaGreatDoor
