/- algebra.At: the value at a way of a meaning, or why there is none. Meanings of at most 2^40 things, ways of at most 2^30 numbers. -/
import Derived.Test.YtdpnmdkbdibkpaaGreatDoorZ17
import Derived.Test.YtdpnmdkbdibkpaaGreatDoorZ20
import Derived.Test.YtdpnmdkbdibkpaaGreatDoorZ27
import Derived.Test.YtdpnmdkbdibkpaaGreatDoorZ32
import Derived.Test.YtdpnmdkbdibkpaaGreatDoorZ34
import Derived.Test.YtdpnmdkbdibkpaaGreatDoorZ36
namespace Go.Proofs.YtdpnmdkbdibkpaaGreatDoor
set_option maxRecDepth 100000
set_option maxHeartbeats 16000000
section
open Go.RowKit Go.Shelf
def atC (s:List Mes)(root:Int){m:Nat}(way:List Int)(x:M (m+way.length)):Nat:=
 if zbv s root [zae s (m+way.length) root x]≠0 then zbv s root [zae s (m+way.length) root x] else if zcF s root way=false then 10 else if (atM way x).isSome=true then 0 else 11
def atV (s:List Mes)(root:Int){m:Nat}(way:List Int)(x:M (m+way.length)):Val (M m):=if atC s root way x=0 then (atM way x).getD .zero else .zero
theorem zfn (m:Nat)(W:World):zat (zac m) W (.agg #[.int .i64 0,.slice none 0 0,.slice none 0 0,.slice none 0 0]) (Val.zero:Val (M m)):=
 ⟨_,_,_,rfl,⟨show (-9223372036854775808:Int)≤0 by omega,show (0:Int)≤9223372036854775807 by omega⟩,zif W,zhd W,zds _ _ _⟩
def zpJ (w:World)(m:Nat)(c:Nat)(u:Val (M m))(e:Ending)(w':World):Prop:=∃ n a1 n1 c1 a2 n2 c2 a3 n3 c3,e= .returned (.tuple #[.agg #[.int .i64 n,.slice a1 n1 c1,.slice a2 n2 c2,.slice a3 n3 c3],.int .u8 (c:Int)])∧Below w.heap.size w w'∧zat (zac m) w' (.agg #[.int .i64 n,.slice a1 n1 c1,.slice a2 n2 c2,.slice a3 n3 c3]) u
theorem zqf {w:World}{p:Nat}{c a b e f:Value}{x y z:Value}{T:TypeId}(h:Blk w p [c,x,y,z] T) :
  Blk ((((w.setCell ⟨p,0,none⟩ a).setCell ⟨p,1,none⟩ b).setCell ⟨p,2,none⟩ e).setCell ⟨p,3,none⟩ f) p [a,b,e,f] T∧But p w ((((w.setCell ⟨p,0,none⟩ a).setCell ⟨p,1,none⟩ b).setCell ⟨p,2,none⟩ e).setCell ⟨p,3,none⟩ f):=by
 have h1:=h.set 0 a
 have h2:=h1.set 1 b
 have h3:=h2.set 2 e
 have h4:=h3.set 3 f
 exact⟨h4,(((But.set h 0 a).trans (But.set h1 1 b)).trans (But.set h2 2 e)).trans (But.set h3 3 f)⟩
theorem zqg {m:Nat}{n:Int}{x:M (m+[n].length)}:atM [n] x=zbu (M.vals (d:=m) x) n:=rfl
theorem zlQ {m:Nat}{n:Int}{r:List Int}{x:M (m+(n::r).length)}(h:zbu (M.vals (d:=m+r.length) x) n=none):atM (n::r) x=none:=by
 cases r with
 | nil=>exact h
 | cons k r=>unfold atM;rw[h]
theorem zlR {m:Nat}{n k:Int}{r:List Int}{x:M (m+(n::k::r).length)}{g:Val (M (m+(k::r).length))}{y:M (m+(k::r).length)}(h:zbu (M.vals (d:=m+(k::r).length) x) n=some g)(hs:g.subs=[y]):atM (n::k::r) x=atM (k::r) y:=by
 conv=>lhs;unfold atM
 rw[h]
 simp only
 rw[hs]
theorem alg_At {m:Nat}{way:List Int}{w:World}{sv xv yv:Value}{s:List Mes}{x:M (m+way.length)}(hS:zaj w sv s)(root:Int)(hx:zac (m+way.length) w xv x)(hy:zar w yv way)(hwx:mwt (m+way.length) x≤1099511627776)(hL:way.length≤1073741824) :
  Calls Tryz.prog 10 #[sv,.int .i64 root,xv,yv] w (zpJ w m (atC s root way x) (atV s root way x)):=by
 have HIY:=hid hy
 have HXM:=hid hx
 have HSS:=hid hS
 have HWT:=hid (And.intro hwx hL)
 obtain⟨a1,n1,c1,a2,n2,c2,rfl⟩:=hx.form
 obtain⟨-,ya,yc,rfl,-,hyat⟩:=hy.open
 have HYAT:=hid hyat
 obtain⟨yn,HYN⟩:∃ n,Hid (n=way.length):=⟨_,rfl⟩
 have HIY':Hid (zar w (.slice ya yn yc) way):=by rw[HYN.out];exact HIY.out
 obtain⟨X,HX⟩:∃ X,Hid (X=w.heap.size):=⟨_,rfl⟩
 have hS2:=hS
 obtain⟨-,sa,sc,rfl,-⟩:=hS2.open
 obtain⟨sn,HSN⟩:∃ n,Hid (n=s.length):=⟨_,rfl⟩
 rw[←HSN.out] at HSS ⊢
 rw[show (Value.slice ya way.length yc)= .slice ya yn yc by rw[HYN.out]]
 have hyn:yn≤1073741824:=by rw[HYN.out];exact hL
 obtain⟨W1,HW1⟩:∃ W,Hid (W=(w.alloc (.cells #[.slice a1 n1 c1,.slice a2 n2 c2] 27)).alloc (.cells #[.int .i64 0,.slice none 0 0,.slice none 0 0,.slice none 0 0] 32)):=⟨_,rfl⟩
 have hx1:Blk W1 X [.slice a1 n1 c1,.slice a2 n2 c2] 27:=by rw[HW1.out,HX.out];exact (Blk.new w [.slice a1 n1 c1,.slice a2 n2 c2] _).alloc _
 have hr1:Blk W1 (X+1) [.int .i64 0,.slice none 0 0,.slice none 0 0,.slice none 0 0] 32:=by rw[HW1.out,HX.out];exact Blk.new' _ [.int .i64 0,.slice none 0 0,.slice none 0 0,.slice none 0 0] _ _ (by simp)
 have hb1:Below w.heap.size w W1:=by rw[HW1.out];(with_reducible repeat first|exact Below.refl _ _|refine pzA ?_ _|refine pzB ?_ _|refine zab ?_ _|refine Below.drew ?_)
 obtain⟨W2,HW2⟩:∃ W,Hid (W=W1.alloc (.cells #[.slice a1 n1 c1,.slice a2 n2 c2] 27)):=⟨_,rfl⟩
 obtain⟨G,HG⟩:∃ G,Hid (G=W1.heap.size):=⟨_,rfl⟩
 have hb12:Below W1.heap.size W1 W2:=by rw[HW2.out];exact (Below.refl _ _).alloc (Nat.le_refl _) _
 have hg2:Blk W2 G [.slice a1 n1 c1,.slice a2 n2 c2] 27:=by rw[HW2.out,HG.out];exact Blk.new W1 [.slice a1 n1 c1,.slice a2 n2 c2] _
 have hb2:=hb1.trans (hb12.mono hb1.size)
 obtain⟨may,HC⟩:∃ c,Hid (c=zbv s root [zae s (m+way.length) root x]):=⟨_,rfl⟩
 have HMAY:=hid (zi0 (HSS.out.below hb2) root (zkX (s:=s) (root:=root) hg2 (HXM.out.below hb2) hwx) (n:=1) (c:=1) rfl (by decide))
 rw[←HC.out] at HMAY
 have hc12:may≤12:=by rw[HC.out];exact zc0 _ _ _
 obtain⟨code,HCO⟩:∃ c,Hid (c=atC s root way x):=⟨_,rfl⟩
 have HCE:Hid (code=if may≠0 then may else if zcF s root way=false then 10 else if (atM way x).isSome=true then 0 else 11):=by rw[Hid,HCO.out,HC.out];rfl
 have HVE:Hid (atV s root way x=if code=0 then (atM way x).getD .zero else .zero):=by rw[Hid,HCO.out];rfl
 obtain⟨Q,HQ⟩:∃ Q:Ending→World→Prop,Hid (Q=zpJ w m code (atV s root way x)):=⟨_,rfl⟩
 rw[←HCO.out,←HQ.out]
 have HB2:=hid hb2
 have HXB:=hid (And.intro (hx1.below hb12) (hr1.below hb12))
 have HXW:Hid (w.heap.size≤X∧w.heap.size≤X+1):=by rw[HX.out];exact⟨Nat.le_refl _,Nat.le_succ _⟩
 -- an answer that is none
 have HNO:Hid (∀ (wx:World) (c:Nat),code=c→c≠0→Below w.heap.size w wx→Q (.returned (.tuple #[.agg #[.int .i64 0,.slice none 0 0,.slice none 0 0,.slice none 0 0],.int .u8 (c:Int)])) ((((wx.setCell ⟨X+1,0,none⟩ (.int .i64 0)).setCell ⟨X+1,1,none⟩ (.slice none 0 0)).setCell ⟨X+1,2,none⟩ (.slice none 0 0)).setCell ⟨X+1,3,none⟩ (.slice none 0 0))):=by
  intro wx c hc h0 hb
  have h1:=HXW.out.2
  rw[HQ.out,HVE.out,if_neg (by omega),hc]
  exact⟨_,_,_,_,_,_,_,_,_,_,rfl,(((hb.setCell h1 _).setCell h1 _).setCell h1 _).setCell h1 _,zfn _ _⟩
 have k0:=hx1.cell 0 _ rfl
 have k1:=hx1.cell 1 _ rfl
 have kl:=hx1.lt
 clear hx1 hr1 hb1 hb12 hg2 hb2 hS hS2 hx hy hwx hL hyat HCO HIY
 go_enter Tryz.func10,Tryz.ntmps10
 go_upto_region 1 with fail
 rw[←HW1.out,←HX.out]
 go_wp2_with fail
 rw[←HW2.out,←HG.out]
 refine HMAY.out.mono ?_
 rintro e w3 ⟨rfl,hb3⟩
 have HB3:=hid (HB2.out.trans (hb3.mono HB2.out.size))
 have HX3:=hid (And.intro (HXB.out.1.below hb3) (HXB.out.2.below hb3))
 clear k0 k1 kl hb3 HMAY HXB HW2 HG
 by_cases h0:may=0
 ·
  subst h0
  obtain⟨g1,g2,g3,g4⟩:=zfi HC.out.symm
  obtain⟨r,rfl⟩:∃ r:Nat,root=r:=⟨root.toNat,by omega⟩
  have hrt:zae s (m+way.length) (r:Int) x=true:=by simpa using g4
  have HRT:=hid (And.intro g1 (And.intro hrt (show r<s.length by omega)))
  have HLA:=hid (zlP (HSS.out.below HB3.out) g1 r (by omega) (HIY'.out.below HB3.out) HWT.out.2)
  clear g1 g2 g3 g4 hrt HC hc12
  go_wp2_with fail
  refine HLA.out.mono ?_
  rintro e w4 ⟨hb4,hno,hyes⟩
  have HB4:=hid (HB3.out.trans (hb4.mono HB3.out.size))
  have HX4:=hid (And.intro (HX3.out.1.below hb4) (HX3.out.2.below hb4))
  clear hb4 HLA HX3
  cases hwo:zcF s (r:Int) way with
  | false =>
   obtain rfl:=hno hwo
   have hce:code=10:=by rw[HCE.out,if_neg (by simp),if_pos hwo]
   obtain⟨W5,HW5⟩:∃ W,Hid (W=w4.alloc (.cells #[.string ⟨#[]⟩,.int .i64 0,.int .i64 0,.bool false,.bool false,.int .i64 0] 51)):=⟨_,rfl⟩
   have hb5:Below w4.heap.size w4 W5:=by rw[HW5.out];exact (Below.refl _ _).alloc (Nat.le_refl _) _
   have HE:=hid (HNO.out W5 10 hce (by decide) (HB4.out.trans (hb5.mono HB4.out.size)))
   have hr5:=HX4.out.2.below hb5
   have r0:=hr5.cell 0 _ rfl
   have r1:=hr5.cell 1 _ rfl
   have r2:=hr5.cell 2 _ rfl
   have r3:=hr5.cell 3 _ rfl
   have f0:=hr5.free 0
   have f1:=hr5.free 1
   have f2:=hr5.free 2
   have f3:=hr5.free 3
   have rl:=hr5.lt
   have z2:=(((hr5.set 0 (.int .i64 0)).set 1 (.slice none 0 0)).set 2 (.slice none 0 0)).set 3 (.slice none 0 0)
   have q0:=z2.cell 0 _ rfl
   have q1:=z2.cell 1 _ rfl
   have q2:=z2.cell 2 _ rfl
   have q3:=z2.cell 3 _ rfl
   clear hno hyes hwo hb5 hr5 z2 hce HX4 HNO HCE
   simp only[Fld.zero,Fld.val]
   go_upto_region 5 with fail
   rw[←HW5.out]
   go_wp2_with fail
   refine bodyPost_ret (v:=.tuple #[.agg #[.int .i64 0,.slice none 0 0,.slice none 0 0,.slice none 0 0],.int .u8 (10:Int)]) ?_ rfl HE.out
   simp[results,Tryz.results10,go_sem,q0,q1,q2,q3]
  | true =>
   obtain rfl:=hyes hwo
   obtain⟨f,HF⟩:∃ f,Hid (f=zdm s r .zero way):=⟨_,rfl⟩
   rw[←HF.out]
   have HCE2:Hid (code=if (atM way x).isSome=true then 0 else 11):=by rw[Hid,HCE.out,if_neg (by simp),if_neg (by rw[hwo];simp)]
   obtain⟨ns,hns⟩:=zcn hwo
   have HOK:=hid (zc6 HRT.out.1 way r x ns HRT.out.2.2 hns HRT.out.2.1)
   have HNE:=hid (zgx hwo)
   obtain⟨fname,fnumber,fkind,frep,fpacked,fof⟩:=f
   obtain⟨W5,HW5⟩:∃ W,Hid (W=w4.alloc (.cells #[.string fname,.int .i64 fnumber,.int .i64 fkind,.bool frep,.bool fpacked,.int .i64 fof] 51)):=⟨_,rfl⟩
   have hb5:Below w4.heap.size w4 W5:=by rw[HW5.out];exact (Below.refl _ _).alloc (Nat.le_refl _) _
   have HB5:=hid (HB4.out.trans (hb5.mono HB4.out.size))
   have HX5:=hid (And.intro (HX4.out.1.below hb5) (HX4.out.2.below hb5))
   clear hno hyes hwo hb5 HX4 HCE hns HF
   simp only[Fld.val]
   go_upto_region 7 with fail
   rw[←HW5.out]
   go_wp2_with fail
   go_loopw [38] (fun v38 wr=>∃ (q:Nat) (rest:List Int) (z:M (m+rest.length)) (p1:Option Addr) (u1 o1:Nat) (p2:Option Addr) (u2 o2:Nat),v38= .int .i64 (q:Int)∧q≤yn∧Hid (rest=way.drop q∧rest≠[]∧Blk wr X [.slice p1 u1 o1,.slice p2 u2 o2] 27∧Blk wr (X+1) [.int .i64 0,.slice none 0 0,.slice none 0 0,.slice none 0 0] 32∧zac (m+rest.length) wr (.agg #[.slice p1 u1 o1,.slice p2 u2 o2]) z∧atM rest z=atM way x∧zge rest z∧mwt (m+rest.length) z≤1099511627776∧Below w.heap.size w wr)) (fun v38 _=>yn - (intOf v38).toNat)
   case atStart=>exact⟨0,way,x,a1,n1,c1,a2,n2,c2,rfl,by omega,rfl,HNE.out,HX5.out.1,HX5.out.2,HXM.out.below HB5.out,rfl,HOK.out,HWT.out.1,HB5.out⟩
   case round =>
    obtain⟨q,rest,z,p1,u1,o1,p2,u2,o2,rfl,hq,HJ⟩:=hrel
    obtain⟨n,rest',rfl⟩:∃ n r,rest=n::r:=by
     cases rest with
     | nil=>exact absurd rfl HJ.out.2.1
     | cons n r=>exact⟨n,r,rfl⟩
    have hlen:rest'.length+1+q=yn:=by
     have h1:=congrArg List.length HJ.out.1
     rw[List.length_drop,List.length_cons,←HYN.out] at h1
     omega
    have hlt:q<yn:=by omega
    have hnb:way[q]?=some n:=by
     have h1:=congrArg (fun l:List Int=>l[0]?) HJ.out.1
     simp only[List.getElem?_cons_zero,List.getElem?_drop,Nat.add_zero] at h1
     exact h1.symm
    obtain⟨h64,b2,o2',ha2,g2⟩:=HYAT.out q n hnb
    have hix2:=zag Tryz.underlying28 zbr ha2 q hlt (cap:=yc)
    replace g2:=zaa HJ.out.2.2.2.2.2.2.2.2 _ _ g2
    have hl2:=World.block_lt_of_cell? wr _ g2
    have x0:=HJ.out.2.2.1.cell 0 _ rfl
    have x1:=HJ.out.2.2.1.cell 1 _ rfl
    have xl:=HJ.out.2.2.1.lt
    have HGT:=hid (zpq (d:=m+rest'.length) HJ.out.2.2.2.2.1 HJ.out.2.2.2.2.2.2.2.1 n)
    clear h64 ha2 hnb
    go_wp2_with fail
    refine HGT.out.mono ?_
    rintro e w6 ⟨num,b1,m1,k1,b2',m2,k2,b3,m3,k3,rfl,hb6,hget⟩
    obtain⟨VB,HVB⟩:∃ b,Hid (b=w6.heap.size):=⟨_,rfl⟩
    obtain⟨W7,HW7⟩:∃ W,Hid (W=w6.alloc (.cells #[.int .i64 num,.slice b1 m1 k1,.slice b2' m2 k2,.slice b3 m3 k3] 32)):=⟨_,rfl⟩
    have hb7:Below w6.heap.size w6 W7:=by rw[HW7.out];exact (Below.refl _ _).alloc (Nat.le_refl _) _
    have hv7:Blk W7 VB [.int .i64 num,.slice b1 m1 k1,.slice b2' m2 k2,.slice b3 m3 k3] 32:=by rw[HW7.out,HVB.out];exact Blk.new w6 [.int .i64 num,.slice b1 m1 k1,.slice b2' m2 k2,.slice b3 m3 k3] _
    have hb67:=hb6.trans (hb7.mono hb6.size)
    have HBW7:=hid (HJ.out.2.2.2.2.2.2.2.2.trans (hb67.mono HJ.out.2.2.2.2.2.2.2.2.size))
    have HX7:=hid (And.intro (HJ.out.2.2.1.below hb67) (HJ.out.2.2.2.1.below hb67))
    have HGET:=hid hget
    have HB7:=hid hb7
    have HV7:=hid hv7
    have HRW:Hid (X+1<wr.heap.size):=HJ.out.2.2.2.1.lt
    obtain⟨sm,HSM⟩:∃ b,Hid (b=(zfZ (M.vals (d:=m+rest'.length) z) n).isSome):=⟨_,rfl⟩
    rw[←HSM.out]
    clear hb6 hb7 hv7 hb67 hget HGT x0 x1 xl g2 hl2 hix2
    go_upto_region 11 with fail
    rw[←HW7.out,←HVB.out]
    cases hg:zfZ (M.vals (d:=m+rest'.length) z) n with
    | none =>
     have hs:sm=false:=by rw[HSM.out,hg];rfl
     subst hs
     have hce:code=11:=by
      rw[HCE2.out,←HJ.out.2.2.2.2.2.1,zlQ hg];rfl
     have HE:=hid (HNO.out W7 11 hce (by decide) HBW7.out)
     have hr5:=HX7.out.2
     have r0:=hr5.cell 0 _ rfl
     have r1:=hr5.cell 1 _ rfl
     have r2:=hr5.cell 2 _ rfl
     have r3:=hr5.cell 3 _ rfl
     have f0:=hr5.free 0
     have f1:=hr5.free 1
     have f2:=hr5.free 2
     have f3:=hr5.free 3
     have rl:=hr5.lt
     have z2:=(((hr5.set 0 (.int .i64 0)).set 1 (.slice none 0 0)).set 2 (.slice none 0 0)).set 3 (.slice none 0 0)
     have q0:=z2.cell 0 _ rfl
     have q1:=z2.cell 1 _ rfl
     have q2:=z2.cell 2 _ rfl
     have q3:=z2.cell 3 _ rfl
     clear hr5 z2 hce HX5 HX7 HNO HCE2 HGET HJ hg hlen
     go_wp2_with fail
     refine bodyPost_ret (v:=.tuple #[.agg #[.int .i64 0,.slice none 0 0,.slice none 0 0,.slice none 0 0],.int .u8 (11:Int)]) ?_ rfl HE.out
     simp[results,Tryz.results10,go_sem,q0,q1,q2,q3]
    | some g =>
     have hs:sm=true:=by rw[HSM.out,hg];rfl
     subst hs
     have HG:=hid (HGET.out g hg)
     have v0:=HV7.out.cell 0 _ rfl
     have v1:=HV7.out.cell 1 _ rfl
     have v2:=HV7.out.cell 2 _ rfl
     have v3:=HV7.out.cell 3 _ rfl
     have vl:=HV7.out.lt
     cases rest' with
     | nil =>
      have hq1:((q:Int) == (yn:Int) - 1)=true:=by simp at hlen ⊢;omega
      have hq2:(q:Int)=(yn:Int) - 1:=by simp at hlen;omega
      have hat:atM way x=some g:=by rw[←HJ.out.2.2.2.2.2.1,zqg];exact hg
      have hce:code=0:=by rw[HCE2.out,hat];rfl
      have hr5:=HX7.out.2
      obtain⟨hk2,hbut⟩:=zqf (a:=.int .i64 num) (b:=.slice b1 m1 k1) (e:=.slice b2' m2 k2) (f:=.slice b3 m3 k3) hr5
      have HE:Hid (Q (.returned (.tuple #[.agg #[.int .i64 num,.slice b1 m1 k1,.slice b2' m2 k2,.slice b3 m3 k3],.int .u8 0])) ((((W7.setCell ⟨X+1,0,none⟩ (.int .i64 num)).setCell ⟨X+1,1,none⟩ (.slice b1 m1 k1)).setCell ⟨X+1,2,none⟩ (.slice b2' m2 k2)).setCell ⟨X+1,3,none⟩ (.slice b3 m3 k3))):=by
       rw[HQ.out,HVE.out,if_pos hce,hce,hat]
       refine⟨_,_,_,_,_,_,_,_,_,_,rfl,HBW7.out.trans (hbut.to_below HXW.out.2 HBW7.out.size),HG.out _ fun b hb hc=>?_⟩
       have hrw:=HRW.out
       rw[hbut.block b (Nat.lt_of_lt_of_le hb HB7.out.size) (by omega)]
       exact HB7.out.block b hb
      have r0:=hr5.cell 0 _ rfl
      have r1:=hr5.cell 1 _ rfl
      have r2:=hr5.cell 2 _ rfl
      have r3:=hr5.cell 3 _ rfl
      have f0:=hr5.free 0
      have f1:=hr5.free 1
      have f2:=hr5.free 2
      have f3:=hr5.free 3
      have rl:=hr5.lt
      have q0:=hk2.cell 0 _ rfl
      have q1:=hk2.cell 1 _ rfl
      have q2:=hk2.cell 2 _ rfl
      have q3:=hk2.cell 3 _ rfl
      clear hr5 hk2 hbut hce hat HX5 HX7 HNO HCE2 HGET HJ hg hlen HG hq2
      go_wp2_with fail
      refine bodyPost_ret (v:=.tuple #[.agg #[.int .i64 num,.slice b1 m1 k1,.slice b2' m2 k2,.slice b3 m3 k3],.int .u8 0]) ?_ rfl HE.out
      simp[results,Tryz.results10,go_sem,q0,q1,q2,q3]
     | cons k r' =>
      have hq1:((q:Int) == (yn:Int) - 1)=false:=by simp at hlen ⊢;omega
      have hok:=HJ.out.2.2.2.2.2.2.1
      obtain⟨y,hys,hoky⟩:=hok.2 g hg
      obtain⟨gb,go,y1,y2,hgb,hgn,hg0,hg1,hgm⟩:=zov (n0:=0) HG.out (k:=0) (p:=y) (by rw[hys];rfl)
      have hm3:m3=1:=by
       obtain⟨_,_,_,e,-,-,-,hSS⟩:=HG.out.here
       obtain⟨-,_,_,e2,-⟩:=hSS.open
       cases e
       rw[hys] at e2
       exact (Value.slice.inj e2).2.1
      subst hgb hm3
      obtain⟨z1,z1n,z1c,z2,z2n,z2c,hse⟩:=hgm.here.form
      obtain⟨rfl,rfl⟩:y1= .slice z1 z1n z1c∧y2= .slice z2 z2n z2c:=by cases hse;exact⟨rfl,rfl⟩
      rw[Nat.zero_mul,Nat.add_zero] at hg0 hg1
      replace hg0:=zaa HB7.out _ _ hg0
      replace hg1:=zaa HB7.out _ _ hg1
      have hgl:=World.block_lt_of_cell? W7 _ hg0
      have hixa:∀ W,(Instr.indexAt 30 (.slice (some ⟨gb,go,none⟩) 1 k3) (.int .i64 0)).run Tryz.prog W= .ok (.pointer (some ⟨gb,go,none⟩)) W:=by
       intro W
       have:=zad Tryz.underlying30 zbX (a:=some ⟨gb,go,none⟩) rfl 0 (by decide:0<1) W (cap:=k3)
       simpa using this
      have hX:=HX7.out.1
      have hne:X+1≠X:=by omega
      have HREL:Hid (k::r'=way.drop (q+1)∧k::r'≠[]∧Blk ((W7.setCell ⟨X,0,none⟩ (.slice z1 z1n z1c)).setCell ⟨X,1,none⟩ (.slice z2 z2n z2c)) X [.slice z1 z1n z1c,.slice z2 z2n z2c] 27∧Blk ((W7.setCell ⟨X,0,none⟩ (.slice z1 z1n z1c)).setCell ⟨X,1,none⟩ (.slice z2 z2n z2c)) (X+1) [.int .i64 0,.slice none 0 0,.slice none 0 0,.slice none 0 0] 32∧zac (m+(k::r').length) ((W7.setCell ⟨X,0,none⟩ (.slice z1 z1n z1c)).setCell ⟨X,1,none⟩ (.slice z2 z2n z2c)) (.agg #[.slice z1 z1n z1c,.slice z2 z2n z2c]) y∧atM (k::r') y=atM way x∧zge (k::r') y∧mwt (m+(k::r').length) y≤1099511627776∧Below w.heap.size w ((W7.setCell ⟨X,0,none⟩ (.slice z1 z1n z1c)).setCell ⟨X,1,none⟩ (.slice z2 z2n z2c))):=by
       refine⟨?_,by simp,(hX.set 0 _).set 1 _,(HX7.out.2.set_other _ _ hne).set_other _ _ hne,hgm _ fun b hb hc=>?_,?_,hoky,?_,(HBW7.out.setCell HXW.out.1 _).setCell HXW.out.1 _⟩
       ·
        have h1:=congrArg (List.drop 1) HJ.out.1
        rw[List.drop_drop,List.drop_succ_cons,List.drop_zero] at h1
        exact h1
       ·
        have hrw:=HRW.out
        have hbx:b≠X:=by omega
        rw[Below.heap_setCell _ _ _ b hbx,Below.heap_setCell _ _ _ b hbx]
        exact HB7.out.block b hb
       ·
        rw[←HJ.out.2.2.2.2.2.1]
        exact (zlR hg hys).symm
       ·
        have h1:=zau (vwt (mwt (m+(k::r').length))) (M.vals (d:=m+(k::r').length) z) g (zbO hg).2
        have h2:mwt (m+(n::k::r').length) z=1+twt (M.unk (d:=m+(k::r').length) z)+((M.vals (d:=m+(k::r').length) z).map (vwt (mwt (m+(k::r').length)))).sum:=rfl
        have h3:mwt (m+(k::r').length) y≤vwt (mwt (m+(k::r').length)) g:=by unfold vwt;rw[hys,List.map_cons,List.map_nil,List.sum_cons,List.sum_nil];omega
        have h4:=HJ.out.2.2.2.2.2.2.2.1
        omega
      have x0:=hX.cell 0 _ rfl
      have x1:=hX.cell 1 _ rfl
      have xf0:=hX.free 0
      have xf1:=hX.free 1
      have xl:=hX.lt
      clear hok hys hoky hgm hgn hse hX hne HX5 HX7 HNO HCE2 HGET HJ hg HG
      go_wp2_with fail
      go_roundw
      case rel=>exact⟨q+1,k::r',y,z1,z1n,z1c,z2,z2n,z2c,by go_num,hlt,HREL.out⟩
      case measure=>simp[intOf];omega
 ·
  have hne:((may:Int) != 0)=true:=by simpa using h0
  have hce:code=may:=by rw[HCE.out,if_pos h0]
  have HE:=hid (HNO.out w3 may hce h0 HB3.out)
  have hr5:=HX3.out.2
  have r0:=hr5.cell 0 _ rfl
  have r1:=hr5.cell 1 _ rfl
  have r2:=hr5.cell 2 _ rfl
  have r3:=hr5.cell 3 _ rfl
  have f0:=hr5.free 0
  have f1:=hr5.free 1
  have f2:=hr5.free 2
  have f3:=hr5.free 3
  have rl:=hr5.lt
  have z2:=(((hr5.set 0 (.int .i64 0)).set 1 (.slice none 0 0)).set 2 (.slice none 0 0)).set 3 (.slice none 0 0)
  have q0:=z2.cell 0 _ rfl
  have q1:=z2.cell 1 _ rfl
  have q2:=z2.cell 2 _ rfl
  have q3:=z2.cell 3 _ rfl
  clear hr5 z2 HX3 HC h0 hce HNO HCE
  go_wp2_with fail
  refine bodyPost_ret (v:=.tuple #[.agg #[.int .i64 0,.slice none 0 0,.slice none 0 0,.slice none 0 0],.int .u8 (may:Int)]) ?_ rfl HE.out
  simp[results,Tryz.results10,go_sem,q0,q1,q2,q3]
end
end Go.Proofs.YtdpnmdkbdibkpaaGreatDoor
