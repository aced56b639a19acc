/- What record.size and record.Next return on any bytes: rsize, rnext. The place is a natural number. What the document's Next record returns on any bytes: rnext. The place is a natural number. -/
import Derived.Test.YtdpnmdkbdibkpaaGreatDoorZ01
namespace Go.Proofs.YtdpnmdkbdibkpaaGreatDoor
set_option maxRecDepth 100000
set_option maxHeartbeats 16000000
section
open Go.RowKit
def zcs (wire:Nat)(l:List UInt8):Nat × Nat × Nat:=
 if wire=0 then (0,(zaN l).2.1,(zaN l).2.2) else if wire=1 then (0,8,0) else if wire=5 then (0,4,0) else ((zaN l).2.1,(zaN l).1,(zaN l).2.2)
structure Rec where
 number:Nat
 wire:Nat
 start:Nat
 at':Nat
 to:Nat
def Rec.none:Rec:=⟨0,0,0,0,0⟩
def Rec.val (r:Rec):Value:=.agg #[.int .i64 r.number,.int .i64 r.wire,.int .i64 r.start,.int .i64 r.at',.int .i64 r.to]
def zbE (l:List UInt8)(start:Nat):Rec × Nat:=
 if l.length≤start then (.none,2) else
 let t:=zb7 (l.drop start)
 if t.2.2.2≠0 then (.none,t.2.2.2) else
 let s:=zcs t.2.1 (l.drop (start+t.2.2.1))
 if s.2.2≠0 then (.none,s.2.2) else
 let at':=start+t.2.2.1+s.1
 if l.length - at'<s.2.1 then (.none,3) else (⟨t.1,t.2.1,start,at',at'+s.2.1⟩,0)
theorem zje (l:List UInt8):(∃ k x n,zb7 l=(k,x,n,0)∧0<n∧n≤10∧n≤l.length∧k≤536870911∧1≤k∧(x=0∨x=1∨x=2∨x=5))∨(∃ c,zb7 l=(0,0,0,c)∧(c=3∨c=4∨c=5)):=by
 rcases zeL l with ⟨x,n,e,et,h1,h2,h3,h4,h5⟩|⟨x,n,e,et,h1,h2,h3⟩|⟨c,e,et,h1⟩
 ·
  have h6:(1:Int)≤(x / 8:Nat)∧((x / 8:Nat):Int)≤536870911∧(((x % 8:Nat):Int)=0∨((x % 8:Nat):Int)=1∨((x % 8:Nat):Int)=2∨((x % 8:Nat):Int)=5):=of_decide_eq_true h5
  exact .inl ⟨_,_,_,et,h1,h2,h3,by omega,by omega,by omega⟩
 ·
  exact .inr ⟨5,et,by omega⟩
 ·
  exact .inr ⟨c,et,by omega⟩
theorem zjf (wire:Nat)(l:List UInt8):(∃ a n,zcs wire l=(a,n,0)∧a≤l.length∧a≤10∧n<2 ^ 64)∨(∃ a n c,zcs wire l=(a,n,c)∧(c=3∨c=4)∧a≤10∧n<2 ^ 64):=by
 unfold zcs
 rcases zdA l with ⟨x,n,e,h1,h2,h3,h4⟩|⟨c,e,h⟩
 ·
  rw[e]
  split
  ·
   exact .inl ⟨0,n,rfl,by omega,by omega,by omega⟩
  ·
   split
   ·
    exact .inl ⟨0,8,rfl,by omega,by omega,by omega⟩
   ·
    split
    ·
     exact .inl ⟨0,4,rfl,by omega,by omega,by omega⟩
    ·
     exact .inl ⟨n,x,rfl,by omega,by omega,by omega⟩
 ·
  rw[e]
  split
  ·
   exact .inr ⟨0,0,c,rfl,h,by omega,by omega⟩
  ·
   split
   ·
    exact .inl ⟨0,8,rfl,by omega,by omega,by omega⟩
   ·
    split
    ·
     exact .inl ⟨0,4,rfl,by omega,by omega,by omega⟩
    ·
     exact .inr ⟨0,0,c,rfl,h,by omega,by omega⟩
theorem zdC (l:List UInt8)(i:Nat) :
  (l.length≤i∧zbE l i=(.none,2)) ∨
  (i<l.length∧∃ c,zb7 (l.drop i)=(0,0,0,c)∧(c=3∨c=4∨c=5)∧zbE l i=(.none,c)) ∨
  (i<l.length∧∃ k x n,zb7 (l.drop i)=(k,x,n,0)∧0<n∧n≤10∧i+n≤l.length∧k≤536870911∧1≤k∧(x=0∨x=1∨x=2∨x=5) ∧
   ((∃ a m c,zcs x (l.drop (i+n))=(a,m,c)∧(c=3∨c=4)∧a≤10∧m<2 ^ 64∧zbE l i=(.none,c)) ∨
    (∃ a m,zcs x (l.drop (i+n))=(a,m,0)∧i+n+a≤l.length∧a≤10∧m<2 ^ 64∧l.length - (i+n+a)<m∧zbE l i=(.none,3)) ∨
    (∃ a m,zcs x (l.drop (i+n))=(a,m,0)∧i+n+a≤l.length∧a≤10∧m≤l.length - (i+n+a)∧zbE l i=(⟨k,x,i,i+n+a,i+n+a+m⟩,0)))):=by
 by_cases hi:l.length≤i
 ·
  exact .inl ⟨hi,by simp[zbE,hi]⟩
 ·
  have hi':i<l.length:=by omega
  rcases zje (l.drop i) with ⟨k,x,n,et,h1,h2,h3,h4,h5,h6⟩|⟨c,et,h1⟩
  ·
   rw[List.length_drop] at h3
   refine .inr (.inr ⟨hi',k,x,n,et,h1,h2,by omega,h4,h5,h6,?_⟩)
   rcases zjf x (l.drop (i+n)) with ⟨a,m,es,g1,g2,g3⟩|⟨a,m,c,es,g1,g2,g3⟩
   ·
    rw[List.length_drop] at g1
    by_cases hm:l.length - (i+n+a)<m
    ·
     refine .inr (.inl ⟨a,m,es,by omega,g2,g3,hm,?_⟩)
     unfold zbE
     rw[if_neg hi,et]
     simp[es,hm]
    ·
     refine .inr (.inr ⟨a,m,es,by omega,g2,by omega,?_⟩)
     unfold zbE
     rw[if_neg hi,et]
     simp[es,hm]
   ·
    refine .inl ⟨a,m,c,es,g1,g2,g3,?_⟩
    unfold zbE
    rw[if_neg hi,et]
    simp[es]
    intro h0;omega
  ·
   refine .inr (.inl ⟨hi',c,et,h1,?_⟩)
   unfold zbE
   rw[if_neg hi,et]
   simp
   intro h0;omega
theorem zeM {w:World}{v:Value}{l:List UInt8}(h:zay w v l)(x:Nat)(hx:x=0∨x=1∨x=2∨x=5) :
  Calls Tryz.prog 166 #[v,.int .i64 x] w fun e w'=>e= .returned (.tuple #[.int .i64 (zcs x l).1,.int .u64 (zcs x l).2.1,.int .u8 (zcs x l).2.2])∧w=w':=by
 obtain⟨W,N,C,HV,hN⟩:∃ W N C,Hid (zaN l=(W,N,C))∧N≤10:=by
  rcases zdA l with ⟨x,n,e,h1,h2,h3,h4⟩|⟨c,e,h⟩
  ·
   exact⟨_,_,_,e,h2⟩
  ·
   exact⟨_,_,_,e,by omega⟩
 rcases hx with rfl|rfl|rfl|rfl
 ·
  have hs:zcs 0 l=(0,N,C):=by simp[zcs,HV.out]
  rw[hs];clear hs
  go_enter Tryz.func166,Tryz.ntmps166
  go_wp2_with (go_at_call 185;refine (zkl h).mono ?_;rintro e w' ⟨rfl,rfl⟩;rw[HV.out])
  go_ret3
  exact⟨rfl,rfl⟩
 ·
  have hs:zcs 1 l=(0,8,0):=by simp[zcs]
  rw[hs];clear hs
  go_enter Tryz.func166,Tryz.ntmps166
  go_wp2
  go_ret3
  exact⟨rfl,rfl⟩
 ·
  have hs:zcs 2 l=(N,W,C):=by simp[zcs,HV.out]
  rw[hs];clear hs
  go_enter Tryz.func166,Tryz.ntmps166
  go_wp2_with (go_at_call 183;refine (zch h).mono ?_;rintro e w' ⟨rfl,rfl⟩;rw[HV.out])
  go_ret3
  exact⟨rfl,rfl⟩
 ·
  have hs:zcs 5 l=(0,4,0):=by simp[zcs]
  rw[hs];clear hs
  go_enter Tryz.func166,Tryz.ntmps166
  go_wp2
  go_ret3
  exact⟨rfl,rfl⟩
theorem zkm {w:World}{v:Value}{l:List UInt8}(h:zay w v l)(i:Nat)(hi63:i≤9223372036854775807) :
  Calls Tryz.prog 156 #[v,.int .i64 i] w fun e w'=>e= .returned (.tuple #[(zbE l i).1.val,.int .u8 (zbE l i).2])∧Below w.heap.size w w':=by
 obtain⟨hlen,a,cap,rfl,-,-,-,-⟩:=h.open
 obtain⟨n,HN⟩:∃ n,Hid (n=l.length):=⟨_,rfl⟩
 have hcs:=zdC l i
 rw[←HN.out] at hcs hlen h ⊢
 rcases hcs with ⟨hi,er⟩|⟨hi,c,et,hc,er⟩|⟨hi,k,x,m,et,h1,h2,h3,h4,h4',h5,hcs⟩
 ·
  have ER:=hid er
  clear er
  go_enter Tryz.func156,Tryz.ntmps156
  go_wp2
  refine bodyPost_ret (v:=.tuple #[Rec.none.val,.int .u8 2]) ?_ rfl ?_
  ·
   simp[results,Tryz.results156,go_sem,Rec.none,Rec.val]
  ·
   rw[ER.out]
   exact⟨rfl,by (with_reducible repeat first|exact Below.refl _ _|refine pzA ?_ _|refine pzB ?_ _|refine zab ?_ _|refine Below.drew ?_)⟩
 ·
  have ER:=hid er
  have ET:=hid et
  have hc0:((c:Int) == 0)=false:=by simp;omega
  obtain⟨v',hsl,hv'⟩:=h.l HN.out i (by omega)
  clear er et
  go_enter Tryz.func156,Tryz.ntmps156
  go_wp2_with fail
  refine (zgj (hv'.below ((Below.refl _ _).alloc (Nat.le_refl _) _))).mono ?_
  rintro e w1 ⟨rfl,hb⟩
  rw[ET.out]
  obtain⟨hcc,hf⟩:=zlT hb
  have hz:w.heap.size<w1.heap.size:=by have:=hb.size;simp at this;omega
  have c0:=zaa hb ⟨w.heap.size,0,none⟩ (.int .i64 0) (by simp[go_sem])
  have c1:=zaa hb ⟨w.heap.size,1,none⟩ (.int .i64 0) (by simp[go_sem])
  have c2:=zaa hb ⟨w.heap.size,2,none⟩ (.int .i64 0) (by simp[go_sem])
  have c3:=zaa hb ⟨w.heap.size,3,none⟩ (.int .i64 0) (by simp[go_sem])
  have c4:=zaa hb ⟨w.heap.size,4,none⟩ (.int .i64 0) (by simp[go_sem])
  go_wp2
  refine bodyPost_ret (v:=.tuple #[Rec.none.val,.int .u8 c]) ?_ rfl ?_
  ·
   simp[results,Tryz.results156,go_sem,Rec.none,Rec.val,c0,c1,c2,c3,c4,hz]
  ·
   rw[ER.out]
   refine⟨rfl,?_⟩
   (with_reducible repeat first|exact Below.refl _ _|refine pzA ?_ _|refine pzB ?_ _|refine zab ?_ _|refine Below.drew ?_)
   exact zcM hb
 ·
  have ET:=hid et
  obtain⟨v',hsl,hv'⟩:=h.l HN.out i (by omega)
  obtain⟨v2,hsl2,hv2⟩:=h.l HN.out (i+m) (by omega)
  simp only[Int.natCast_add] at hsl2
  have HX:=hid h5
  clear et h5
  rcases hcs with ⟨a',m',c,es,hc,ha,hm',er⟩|⟨a',m',es,ha,ha',hm',hlt,er⟩|⟨a',m',es,ha,ha',hm',er⟩
  ·
   have ER:=hid er
   have ES:=hid es
   have hc0:((c:Int) == 0)=false:=by simp;omega
   clear er es hm' hc
   go_enter Tryz.func156,Tryz.ntmps156
   go_wp2_with fail
   refine (zgj (hv'.below ((Below.refl _ _).alloc (Nat.le_refl _) _))).mono ?_
   rintro e w1 ⟨rfl,hb⟩
   rw[ET.out]
   obtain⟨hcc,hf⟩:=zlT hb
   have hz:w.heap.size<w1.heap.size:=by have:=hb.size;simp at this;omega
   have c0:=zaa hb ⟨w.heap.size,0,none⟩ (.int .i64 0) (by simp[go_sem])
   have c1:=zaa hb ⟨w.heap.size,1,none⟩ (.int .i64 0) (by simp[go_sem])
   have c2:=zaa hb ⟨w.heap.size,2,none⟩ (.int .i64 0) (by simp[go_sem])
   have c3:=zaa hb ⟨w.heap.size,3,none⟩ (.int .i64 0) (by simp[go_sem])
   have c4:=zaa hb ⟨w.heap.size,4,none⟩ (.int .i64 0) (by simp[go_sem])
   have hv3:zay w1 v2 (l.drop (i+m)):=hv2.below (zcM hb)
   go_wp2
   go_quiet ((go_at_call 166;exact zep (zeM ((hv3.below ((Below.refl _ _).alloc (Nat.le_refl _) _)).drewN _) _ HX.out)))
   rw[ES.out]
   go_wp2
   refine bodyPost_ret (v:=.tuple #[Rec.none.val,.int .u8 c]) ?_ rfl ?_
   ·
    simp[results,Tryz.results156,go_sem,Rec.none,Rec.val,c0,c1,c2,c3,c4,hz]
   ·
    rw[ER.out]
    refine⟨rfl,?_⟩
    (with_reducible repeat first|exact Below.refl _ _|refine pzA ?_ _|refine pzB ?_ _|refine zab ?_ _|refine Below.drew ?_)
    exact zcM hb
  ·
   have ER:=hid er
   have ES:=hid es
   have hlt':n - (i+m+a')<m':=hlt
   clear er es hm'
   go_enter Tryz.func156,Tryz.ntmps156
   go_wp2_with fail
   refine (zgj (hv'.below ((Below.refl _ _).alloc (Nat.le_refl _) _))).mono ?_
   rintro e w1 ⟨rfl,hb⟩
   rw[ET.out]
   obtain⟨hcc,hf⟩:=zlT hb
   have hz:w.heap.size<w1.heap.size:=by have:=hb.size;simp at this;omega
   have c0:=zaa hb ⟨w.heap.size,0,none⟩ (.int .i64 0) (by simp[go_sem])
   have c1:=zaa hb ⟨w.heap.size,1,none⟩ (.int .i64 0) (by simp[go_sem])
   have c2:=zaa hb ⟨w.heap.size,2,none⟩ (.int .i64 0) (by simp[go_sem])
   have c3:=zaa hb ⟨w.heap.size,3,none⟩ (.int .i64 0) (by simp[go_sem])
   have c4:=zaa hb ⟨w.heap.size,4,none⟩ (.int .i64 0) (by simp[go_sem])
   have hv3:zay w1 v2 (l.drop (i+m)):=hv2.below (zcM hb)
   go_wp2
   go_quiet ((go_at_call 166;exact zep (zeM ((hv3.below ((Below.refl _ _).alloc (Nat.le_refl _) _)).drewN _) _ HX.out)))
   rw[ES.out]
   go_wp2
   refine bodyPost_ret (v:=.tuple #[Rec.none.val,.int .u8 3]) ?_ rfl ?_
   ·
    simp[results,Tryz.results156,go_sem,Rec.none,Rec.val,c0,c1,c2,c3,c4,hz]
   ·
    rw[ER.out]
    refine⟨rfl,?_⟩
    (with_reducible repeat first|exact Below.refl _ _|refine pzA ?_ _|refine pzB ?_ _|refine zab ?_ _|refine Below.drew ?_)
    exact zcM hb
  ·
   have ER:=hid er
   have ES:=hid es
   clear er es
   go_enter Tryz.func156,Tryz.ntmps156
   go_wp2_with fail
   refine (zgj (hv'.below ((Below.refl _ _).alloc (Nat.le_refl _) _))).mono ?_
   rintro e w1 ⟨rfl,hb⟩
   rw[ET.out]
   obtain⟨hcc,hf⟩:=zlT hb
   have hz:w.heap.size<w1.heap.size:=by have:=hb.size;simp at this;omega
   have c0:=zaa hb ⟨w.heap.size,0,none⟩ (.int .i64 0) (by simp[go_sem])
   have c1:=zaa hb ⟨w.heap.size,1,none⟩ (.int .i64 0) (by simp[go_sem])
   have c2:=zaa hb ⟨w.heap.size,2,none⟩ (.int .i64 0) (by simp[go_sem])
   have c3:=zaa hb ⟨w.heap.size,3,none⟩ (.int .i64 0) (by simp[go_sem])
   have c4:=zaa hb ⟨w.heap.size,4,none⟩ (.int .i64 0) (by simp[go_sem])
   have hv3:zay w1 v2 (l.drop (i+m)):=hv2.below (zcM hb)
   go_wp2
   go_quiet ((go_at_call 166;exact zep (zeM ((hv3.below ((Below.refl _ _).alloc (Nat.le_refl _) _)).drewN _) _ HX.out)))
   rw[ES.out]
   go_wp2
   refine bodyPost_ret (v:=.tuple #[(⟨k,x,i,i+m+a',i+m+a'+m'⟩:Rec).val,.int .u8 0]) ?_ rfl ?_
   ·
    simp[results,Tryz.results156,go_sem,Rec.val,c0,c1,c2,c3,c4,hz]
   ·
    rw[ER.out]
    refine⟨rfl,?_⟩
    (with_reducible repeat first|exact Below.refl _ _|refine pzA ?_ _|refine pzB ?_ _|refine zab ?_ _|refine Below.drew ?_)
    exact zcM hb
end
section
open Go.RowKit
theorem zbJ {w:World}{v:Value}{l:List UInt8}(h:zay w v l)(z:Int)(i:Nat)(hz:z=i)(hi:i≤l.length) :
  Calls Tryz.prog 102 #[v,.int .i64 z] w fun e w'=>e= .returned (.tuple #[.int .u64 (zaN (l.drop i)).1,.int .i64 (zaN (l.drop i)).2.1,.int .i64 (zaN (l.drop i)).2.2])∧w=w':=by
 subst hz
 exact zer h i hi
theorem zm5 (l:List UInt8)(a m c:Nat)(h:zcs 0 l=(a,m,c)):a=0∧∃ x,zaN l=(x,m,c):=by
 simp only[zcs,if_pos] at h
 obtain⟨rfl,rfl,rfl⟩:=(by simpa using h:0=a∧(zaN l).2.1=m∧(zaN l).2.2=c)
 exact⟨rfl,_,rfl⟩
theorem zm6 (l:List UInt8)(a m c:Nat)(h:zcs 2 l=(a,m,c)):zaN l=(m,a,c):=by
 obtain⟨rfl,rfl,rfl⟩:=(by simpa [zcs] using h:(zaN l).2.1=a∧(zaN l).1=m∧(zaN l).2.2=c)
 rfl
theorem zm7 (l:List UInt8)(a m c:Nat)(h:zcs 1 l=(a,m,c)):a=0∧m=8∧c=0:=by
 obtain⟨rfl,rfl,rfl⟩:=(by simpa [zcs] using h:0=a∧8=m∧0=c)
 exact⟨rfl,rfl,rfl⟩
theorem zm8 (l:List UInt8)(a m c:Nat)(h:zcs 5 l=(a,m,c)):a=0∧m=4∧c=0:=by
 obtain⟨rfl,rfl,rfl⟩:=(by simpa [zcs] using h:0=a∧4=m∧0=c)
 exact⟨rfl,rfl,rfl⟩
theorem r5_out {w:World}{a:Option Addr}{cap n:Nat}{l:List UInt8}(_h:zay w (.slice a n cap) l)(_HN:Hid (n=l.length))(_hlen:n≤140737488355328)(i:Nat)(hi:n≤i) :
  Calls Tryz.prog 69 #[.slice a n cap,.int .i64 i] w fun e w'=>e= .returned (.tuple #[Rec.none.val,.int .i64 2])∧Below w.heap.size w w':=by
 go_enter Tryz.func69,Tryz.ntmps69
 go_wp2
 refine bodyPost_ret (v:=.tuple #[Rec.none.val,.int .i64 2]) ?_ rfl ⟨rfl,?_⟩
 ·
  simp[results,Tryz.results69,go_sem,Rec.none,Rec.val]
 ·
  (with_reducible repeat first|exact Below.refl _ _|refine pzA ?_ _|refine pzB ?_ _|refine zab ?_ _|refine Below.drew ?_)
theorem r5_tag {w:World}{a:Option Addr}{cap n:Nat}{l:List UInt8}(h:zay w (.slice a n cap) l)(HN:Hid (n=l.length))(_hlen:n≤140737488355328)(i:Nat)(hi:i<n)(c:Nat)(ET:Hid (zb7 (l.drop i)=(0,0,0,c)))(hc0:((c:Int) == 0)=false) :
  Calls Tryz.prog 69 #[.slice a n cap,.int .i64 i] w fun e w'=>e= .returned (.tuple #[Rec.none.val,.int .i64 c])∧Below w.heap.size w w':=by
 go_enter Tryz.func69,Tryz.ntmps69
 go_wp2_with fail
 refine (zbs (h.below ((Below.refl _ _).alloc (Nat.le_refl _) _)) i (by rw[←HN.out];omega)).mono ?_
 rintro e w' ⟨rfl,rfl⟩
 rw[ET.out]
 go_wp2
 refine bodyPost_ret (v:=.tuple #[Rec.none.val,.int .i64 c]) ?_ rfl ⟨rfl,?_⟩
 ·
  simp[results,Tryz.results69,go_sem,Rec.none,Rec.val]
 ·
  (with_reducible repeat first|exact Below.refl _ _|refine pzA ?_ _|refine pzB ?_ _|refine zab ?_ _|refine Below.drew ?_)
theorem zoM {w:World}{a:Option Addr}{cap n:Nat}{l:List UInt8}(h:zay w (.slice a n cap) l)(HN:Hid (n=l.length))(hlen:n≤140737488355328)(i:Nat)(hi:i<n)(k m:Nat)(ET:Hid (zb7 (l.drop i)=(k,0,m,0)))(hm:m≤10)(him:i+m≤n)(_a' m' c:Nat)(x:Nat)(EV:Hid (zaN (l.drop (i+m))=(x,m',c)))(hc0:((c:Int) == 0)=false) :
  Calls Tryz.prog 69 #[.slice a n cap,.int .i64 i] w fun e w'=>e= .returned (.tuple #[Rec.none.val,.int .i64 c])∧Below w.heap.size w w':=by
 go_enter Tryz.func69,Tryz.ntmps69
 go_wp2_with fail
 refine (zbs (h.below ((Below.refl _ _).alloc (Nat.le_refl _) _)) i (by rw[←HN.out];omega)).mono ?_
 rintro e w' ⟨rfl,rfl⟩
 rw[ET.out]
 go_wp2_with fail
 refine (zbJ (h.below (Below.alloc ((Below.refl _ _).alloc (Nat.le_refl _) _) (by simp) _)) _ (i+m) (by omega) (by rw[←HN.out];omega)).mono ?_
 rintro e w' ⟨rfl,rfl⟩
 rw[EV.out]
 go_wp2
 refine bodyPost_ret (v:=.tuple #[Rec.none.val,.int .i64 c]) ?_ rfl ⟨rfl,?_⟩
 ·
  simp[results,Tryz.results69,go_sem,Rec.none,Rec.val]
 ·
  (with_reducible repeat first|exact Below.refl _ _|refine pzA ?_ _|refine pzB ?_ _|refine zab ?_ _|refine Below.drew ?_)
theorem zlV {w:World}{a:Option Addr}{cap n:Nat}{l:List UInt8}(h:zay w (.slice a n cap) l)(HN:Hid (n=l.length))(hlen:n≤140737488355328)(i:Nat)(hi:i<n)(k m:Nat)(ET:Hid (zb7 (l.drop i)=(k,0,m,0)))(hm:m≤10)(him:i+m≤n)(m':Nat)(x:Nat)(EV:Hid (zaN (l.drop (i+m))=(x,m',0)))  (hm':n - (i+m)<m')  :
  Calls Tryz.prog 69 #[.slice a n cap,.int .i64 i] w fun e w'=>e= .returned (.tuple #[Rec.none.val,.int .i64 3])∧Below w.heap.size w w':=by
 go_enter Tryz.func69,Tryz.ntmps69
 go_wp2_with fail
 refine (zbs (h.below ((Below.refl _ _).alloc (Nat.le_refl _) _)) i (by rw[←HN.out];omega)).mono ?_
 rintro e w' ⟨rfl,rfl⟩
 rw[ET.out]
 go_wp2_with fail
 refine (zbJ (h.below (Below.alloc ((Below.refl _ _).alloc (Nat.le_refl _) _) (by simp) _)) _ (i+m) (by omega) (by rw[←HN.out];omega)).mono ?_
 rintro e w' ⟨rfl,rfl⟩
 rw[EV.out]
 go_wp2
 refine bodyPost_ret (v:=.tuple #[Rec.none.val,.int .i64 3]) ?_ rfl ⟨rfl,?_⟩
 ·
  simp[results,Tryz.results69,go_sem,Rec.none,Rec.val]
 ·
  (with_reducible repeat first|exact Below.refl _ _|refine pzA ?_ _|refine pzB ?_ _|refine zab ?_ _|refine Below.drew ?_)
theorem zpN {w:World}{a:Option Addr}{cap n:Nat}{l:List UInt8}(h:zay w (.slice a n cap) l)(HN:Hid (n=l.length))(hlen:n≤140737488355328)(i:Nat)(hi:i<n)(k m:Nat)(ET:Hid (zb7 (l.drop i)=(k,0,m,0)))(hm:m≤10)(him:i+m≤n)(m':Nat)(x:Nat)(EV:Hid (zaN (l.drop (i+m))=(x,m',0)))  (hm':m'≤n - (i+m)) :
  Calls Tryz.prog 69 #[.slice a n cap,.int .i64 i] w fun e w'=>e= .returned (.tuple #[(⟨k,0,i,i+m,i+m+m'⟩:Rec).val,.int .i64 0])∧Below w.heap.size w w':=by
 go_enter Tryz.func69,Tryz.ntmps69
 go_wp2_with fail
 refine (zbs (h.below ((Below.refl _ _).alloc (Nat.le_refl _) _)) i (by rw[←HN.out];omega)).mono ?_
 rintro e w' ⟨rfl,rfl⟩
 rw[ET.out]
 go_wp2_with fail
 refine (zbJ (h.below (Below.alloc ((Below.refl _ _).alloc (Nat.le_refl _) _) (by simp) _)) _ (i+m) (by omega) (by rw[←HN.out];omega)).mono ?_
 rintro e w' ⟨rfl,rfl⟩
 rw[EV.out]
 go_wp2
 refine bodyPost_ret (v:=.tuple #[(⟨k,0,i,i+m,i+m+m'⟩:Rec).val,.int .i64 0]) ?_ rfl ⟨rfl,?_⟩
 ·
  simp[results,Tryz.results69,go_sem,Rec.val]
 ·
  (with_reducible repeat first|exact Below.refl _ _|refine pzA ?_ _|refine pzB ?_ _|refine zab ?_ _|refine Below.drew ?_)
theorem zoN {w:World}{a:Option Addr}{cap n:Nat}{l:List UInt8}(h:zay w (.slice a n cap) l)(HN:Hid (n=l.length))(hlen:n≤140737488355328)(i:Nat)(hi:i<n)(k m:Nat)(ET:Hid (zb7 (l.drop i)=(k,2,m,0)))(hm:m≤10)(him:i+m≤n)(a' m' c:Nat)(EV:Hid (zaN (l.drop (i+m))=(m',a',c)))(hc0:((c:Int) == 0)=false) :
  Calls Tryz.prog 69 #[.slice a n cap,.int .i64 i] w fun e w'=>e= .returned (.tuple #[Rec.none.val,.int .i64 c])∧Below w.heap.size w w':=by
 go_enter Tryz.func69,Tryz.ntmps69
 go_wp2_with fail
 refine (zbs (h.below ((Below.refl _ _).alloc (Nat.le_refl _) _)) i (by rw[←HN.out];omega)).mono ?_
 rintro e w' ⟨rfl,rfl⟩
 rw[ET.out]
 go_wp2_with fail
 refine (zbJ (h.below (Below.alloc ((Below.refl _ _).alloc (Nat.le_refl _) _) (by simp) _)) _ (i+m) (by omega) (by rw[←HN.out];omega)).mono ?_
 rintro e w' ⟨rfl,rfl⟩
 rw[EV.out]
 go_wp2
 refine bodyPost_ret (v:=.tuple #[Rec.none.val,.int .i64 c]) ?_ rfl ⟨rfl,?_⟩
 ·
  simp[results,Tryz.results69,go_sem,Rec.none,Rec.val]
 ·
  (with_reducible repeat first|exact Below.refl _ _|refine pzA ?_ _|refine pzB ?_ _|refine zab ?_ _|refine Below.drew ?_)
theorem zlW {w:World}{a:Option Addr}{cap n:Nat}{l:List UInt8}(h:zay w (.slice a n cap) l)(HN:Hid (n=l.length))(hlen:n≤140737488355328)(i:Nat)(hi:i<n)(k m:Nat)(ET:Hid (zb7 (l.drop i)=(k,2,m,0)))(hm:m≤10)(him:i+m≤n)(a' m':Nat)(EV:Hid (zaN (l.drop (i+m))=(m',a',0)))(ha:i+m+a'≤n)(ha':a'≤10)(hm':n - (i+m+a')<m')  :
  Calls Tryz.prog 69 #[.slice a n cap,.int .i64 i] w fun e w'=>e= .returned (.tuple #[Rec.none.val,.int .i64 3])∧Below w.heap.size w w':=by
 go_enter Tryz.func69,Tryz.ntmps69
 go_wp2_with fail
 refine (zbs (h.below ((Below.refl _ _).alloc (Nat.le_refl _) _)) i (by rw[←HN.out];omega)).mono ?_
 rintro e w' ⟨rfl,rfl⟩
 rw[ET.out]
 go_wp2_with fail
 refine (zbJ (h.below (Below.alloc ((Below.refl _ _).alloc (Nat.le_refl _) _) (by simp) _)) _ (i+m) (by omega) (by rw[←HN.out];omega)).mono ?_
 rintro e w' ⟨rfl,rfl⟩
 rw[EV.out]
 go_wp2
 refine bodyPost_ret (v:=.tuple #[Rec.none.val,.int .i64 3]) ?_ rfl ⟨rfl,?_⟩
 ·
  simp[results,Tryz.results69,go_sem,Rec.none,Rec.val]
 ·
  (with_reducible repeat first|exact Below.refl _ _|refine pzA ?_ _|refine pzB ?_ _|refine zab ?_ _|refine Below.drew ?_)
theorem zpO {w:World}{a:Option Addr}{cap n:Nat}{l:List UInt8}(h:zay w (.slice a n cap) l)(HN:Hid (n=l.length))(hlen:n≤140737488355328)(i:Nat)(hi:i<n)(k m:Nat)(ET:Hid (zb7 (l.drop i)=(k,2,m,0)))(hm:m≤10)(him:i+m≤n)(a' m':Nat)(EV:Hid (zaN (l.drop (i+m))=(m',a',0)))(ha:i+m+a'≤n)(ha':a'≤10)(hm':m'≤n - (i+m+a')) :
  Calls Tryz.prog 69 #[.slice a n cap,.int .i64 i] w fun e w'=>e= .returned (.tuple #[(⟨k,2,i,i+m+a',i+m+a'+m'⟩:Rec).val,.int .i64 0])∧Below w.heap.size w w':=by
 go_enter Tryz.func69,Tryz.ntmps69
 go_wp2_with fail
 refine (zbs (h.below ((Below.refl _ _).alloc (Nat.le_refl _) _)) i (by rw[←HN.out];omega)).mono ?_
 rintro e w' ⟨rfl,rfl⟩
 rw[ET.out]
 go_wp2_with fail
 refine (zbJ (h.below (Below.alloc ((Below.refl _ _).alloc (Nat.le_refl _) _) (by simp) _)) _ (i+m) (by omega) (by rw[←HN.out];omega)).mono ?_
 rintro e w' ⟨rfl,rfl⟩
 rw[EV.out]
 go_wp2
 refine bodyPost_ret (v:=.tuple #[(⟨k,2,i,i+m+a',i+m+a'+m'⟩:Rec).val,.int .i64 0]) ?_ rfl ⟨rfl,?_⟩
 ·
  simp[results,Tryz.results69,go_sem,Rec.val]
 ·
  (with_reducible repeat first|exact Below.refl _ _|refine pzA ?_ _|refine pzB ?_ _|refine zab ?_ _|refine Below.drew ?_)
theorem zlX {w:World}{a:Option Addr}{cap n:Nat}{l:List UInt8}(h:zay w (.slice a n cap) l)(HN:Hid (n=l.length))(hlen:n≤140737488355328)(i:Nat)(hi:i<n)(k m:Nat)(ET:Hid (zb7 (l.drop i)=(k,1,m,0)))(hm:m≤10)(him:i+m≤n)(hm':n - (i+m)<8) :
  Calls Tryz.prog 69 #[.slice a n cap,.int .i64 i] w fun e w'=>e= .returned (.tuple #[Rec.none.val,.int .i64 3])∧Below w.heap.size w w':=by
 go_enter Tryz.func69,Tryz.ntmps69
 go_wp2_with fail
 refine (zbs (h.below ((Below.refl _ _).alloc (Nat.le_refl _) _)) i (by rw[←HN.out];omega)).mono ?_
 rintro e w' ⟨rfl,rfl⟩
 rw[ET.out]
 go_wp2
 refine bodyPost_ret (v:=.tuple #[Rec.none.val,.int .i64 3]) ?_ rfl ⟨rfl,?_⟩
 ·
  simp[results,Tryz.results69,go_sem,Rec.none,Rec.val]
 ·
  (with_reducible repeat first|exact Below.refl _ _|refine pzA ?_ _|refine pzB ?_ _|refine zab ?_ _|refine Below.drew ?_)
theorem zpP {w:World}{a:Option Addr}{cap n:Nat}{l:List UInt8}(h:zay w (.slice a n cap) l)(HN:Hid (n=l.length))(hlen:n≤140737488355328)(i:Nat)(hi:i<n)(k m:Nat)(ET:Hid (zb7 (l.drop i)=(k,1,m,0)))(hm:m≤10)(him:i+m≤n)(hm':8≤n - (i+m)) :
  Calls Tryz.prog 69 #[.slice a n cap,.int .i64 i] w fun e w'=>e= .returned (.tuple #[(⟨k,1,i,i+m,i+m+8⟩:Rec).val,.int .i64 0])∧Below w.heap.size w w':=by
 go_enter Tryz.func69,Tryz.ntmps69
 go_wp2_with fail
 refine (zbs (h.below ((Below.refl _ _).alloc (Nat.le_refl _) _)) i (by rw[←HN.out];omega)).mono ?_
 rintro e w' ⟨rfl,rfl⟩
 rw[ET.out]
 go_wp2
 refine bodyPost_ret (v:=.tuple #[(⟨k,1,i,i+m,i+m+8⟩:Rec).val,.int .i64 0]) ?_ rfl ⟨rfl,?_⟩
 ·
  simp[results,Tryz.results69,go_sem,Rec.val]
 ·
  (with_reducible repeat first|exact Below.refl _ _|refine pzA ?_ _|refine pzB ?_ _|refine zab ?_ _|refine Below.drew ?_)
theorem zlY {w:World}{a:Option Addr}{cap n:Nat}{l:List UInt8}(h:zay w (.slice a n cap) l)(HN:Hid (n=l.length))(hlen:n≤140737488355328)(i:Nat)(hi:i<n)(k m:Nat)(ET:Hid (zb7 (l.drop i)=(k,5,m,0)))(hm:m≤10)(him:i+m≤n)(hm':n - (i+m)<4) :
  Calls Tryz.prog 69 #[.slice a n cap,.int .i64 i] w fun e w'=>e= .returned (.tuple #[Rec.none.val,.int .i64 3])∧Below w.heap.size w w':=by
 go_enter Tryz.func69,Tryz.ntmps69
 go_wp2_with fail
 refine (zbs (h.below ((Below.refl _ _).alloc (Nat.le_refl _) _)) i (by rw[←HN.out];omega)).mono ?_
 rintro e w' ⟨rfl,rfl⟩
 rw[ET.out]
 go_wp2
 refine bodyPost_ret (v:=.tuple #[Rec.none.val,.int .i64 3]) ?_ rfl ⟨rfl,?_⟩
 ·
  simp[results,Tryz.results69,go_sem,Rec.none,Rec.val]
 ·
  (with_reducible repeat first|exact Below.refl _ _|refine pzA ?_ _|refine pzB ?_ _|refine zab ?_ _|refine Below.drew ?_)
theorem zpQ {w:World}{a:Option Addr}{cap n:Nat}{l:List UInt8}(h:zay w (.slice a n cap) l)(HN:Hid (n=l.length))(hlen:n≤140737488355328)(i:Nat)(hi:i<n)(k m:Nat)(ET:Hid (zb7 (l.drop i)=(k,5,m,0)))(hm:m≤10)(him:i+m≤n)(hm':4≤n - (i+m)) :
  Calls Tryz.prog 69 #[.slice a n cap,.int .i64 i] w fun e w'=>e= .returned (.tuple #[(⟨k,5,i,i+m,i+m+4⟩:Rec).val,.int .i64 0])∧Below w.heap.size w w':=by
 go_enter Tryz.func69,Tryz.ntmps69
 go_wp2_with fail
 refine (zbs (h.below ((Below.refl _ _).alloc (Nat.le_refl _) _)) i (by rw[←HN.out];omega)).mono ?_
 rintro e w' ⟨rfl,rfl⟩
 rw[ET.out]
 go_wp2
 refine bodyPost_ret (v:=.tuple #[(⟨k,5,i,i+m,i+m+4⟩:Rec).val,.int .i64 0]) ?_ rfl ⟨rfl,?_⟩
 ·
  simp[results,Tryz.results69,go_sem,Rec.val]
 ·
  (with_reducible repeat first|exact Below.refl _ _|refine pzA ?_ _|refine pzB ?_ _|refine zab ?_ _|refine Below.drew ?_)
theorem zlZ {w:World}{v:Value}{l:List UInt8}(h:zay w v l)(i:Nat) :
  Calls Tryz.prog 69 #[v,.int .i64 i] w fun e w'=>e= .returned (.tuple #[(zbE l i).1.val,.int .i64 (zbE l i).2])∧Below w.heap.size w w':=by
 obtain⟨hlen,a,cap,rfl,-,-,-,-⟩:=h.open
 rcases zdC l i with ⟨hi,er⟩|⟨hi,c,et,hc,er⟩|⟨hi,k,x,m,et,h1,h2,h3,h4,h4',h5,hcs⟩
 ·
  rw[er];exact r5_out h rfl hlen i hi
 ·
  rw[er];exact r5_tag h rfl hlen i hi c et (by simp;omega)
 ·
  rcases h5 with rfl|rfl|rfl|rfl
  ·
   rcases hcs with ⟨a',m',c,es,hc,ha,hm',er⟩|⟨a',m',es,ha,ha',hm',hlt,er⟩|⟨a',m',es,ha,ha',hm',er⟩
   ·
    obtain⟨rfl,x,ev⟩:=zm5 _ _ _ _ es
    rw[er];exact zoM h rfl hlen i hi k m et h2 h3 0 m' c x ev (by simp;omega)
   ·
    obtain⟨rfl,x,ev⟩:=zm5 _ _ _ _ es
    rw[er];exact zlV h rfl hlen i hi k m et h2 h3 m' x ev (by omega)
   ·
    obtain⟨rfl,x,ev⟩:=zm5 _ _ _ _ es
    rw[er];exact zpN h rfl hlen i hi k m et h2 h3 m' x ev (by omega)
  ·
   rcases hcs with ⟨a',m',c,es,hc,ha,hm',er⟩|⟨a',m',es,ha,ha',hm',hlt,er⟩|⟨a',m',es,ha,ha',hm',er⟩
   ·
    obtain⟨rfl,rfl,rfl⟩:=zm7 _ _ _ _ es;omega
   ·
    obtain⟨rfl,rfl,_⟩:=zm7 _ _ _ _ es
    rw[er];exact zlX h rfl hlen i hi k m et h2 h3 (by omega)
   ·
    obtain⟨rfl,rfl,_⟩:=zm7 _ _ _ _ es
    rw[er];exact zpP h rfl hlen i hi k m et h2 h3 (by omega)
  ·
   rcases hcs with ⟨a',m',c,es,hc,ha,hm',er⟩|⟨a',m',es,ha,ha',hm',hlt,er⟩|⟨a',m',es,ha,ha',hm',er⟩
   ·
    have ev:=zm6 _ _ _ _ es
    rw[er];exact zoN h rfl hlen i hi k m et h2 h3 a' m' c ev (by simp;omega)
   ·
    have ev:=zm6 _ _ _ _ es
    rw[er];exact zlW h rfl hlen i hi k m et h2 h3 a' m' ev ha ha' hlt
   ·
    have ev:=zm6 _ _ _ _ es
    rw[er];exact zpO h rfl hlen i hi k m et h2 h3 a' m' ev ha ha' hm'
  ·
   rcases hcs with ⟨a',m',c,es,hc,ha,hm',er⟩|⟨a',m',es,ha,ha',hm',hlt,er⟩|⟨a',m',es,ha,ha',hm',er⟩
   ·
    obtain⟨rfl,rfl,rfl⟩:=zm8 _ _ _ _ es;omega
   ·
    obtain⟨rfl,rfl,_⟩:=zm8 _ _ _ _ es
    rw[er];exact zlY h rfl hlen i hi k m et h2 h3 (by omega)
   ·
    obtain⟨rfl,rfl,_⟩:=zm8 _ _ _ _ es
    rw[er];exact zpQ h rfl hlen i hi k m et h2 h3 (by omega)
end
end Go.Proofs.YtdpnmdkbdibkpaaGreatDoor
