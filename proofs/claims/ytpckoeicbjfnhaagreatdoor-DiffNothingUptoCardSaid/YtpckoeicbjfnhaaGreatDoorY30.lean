/- Parts of a proof: texts of the author, merged. No condition of their own. -/
import Derived.Test.YtpckoeicbjfnhaaGreatDoorY11
import Derived.Test.YtpckoeicbjfnhaaGreatDoorY13
import Derived.Test.YtpckoeicbjfnhaaGreatDoorY16
import Derived.Test.YtpckoeicbjfnhaaGreatDoorY17
import Derived.Test.YtpckoeicbjfnhaaGreatDoorY28
namespace Go.Proofs.YtpckoeicbjfnhaaGreatDoor
set_option maxRecDepth 100000
set_option maxHeartbeats 16000000
section
open Go.RowKit
structure AR where
 k:Int
 run:Bool
 val:List UInt8
 whole:List UInt8
def zsb (l:List UInt8)(x:VW):AR:=⟨x.k,x.run,zah l x,zbx l x.r.start x.r.to⟩
def zeD (fs:List Fld)(l:List UInt8):List AR:=(zbA fs l).1.map (zsb l)
theorem zkg {p:List UInt8}(l:List UInt8){i j:Nat}(h:j≤p.length):zbx (p++l) i j=zbx p i j:=by
 by_cases hij:i≤j
 ·
  exact zou l h hij
 ·
  unfold zbx
  rw[show j - i=0 by omega,List.take_zero,List.take_zero]
theorem zcU (fs:List Fld)(l:List UInt8)(n i:Nat)(h:l.length≤i):zaB fs l n i=([],0,0):=by
 cases n with
 | zero=>rfl
 | succ n=>rw[zaB,if_pos h]
theorem zcV (fs:List Fld)(l:List UInt8)(n i:Nat)(h:¬ l.length≤i)(hc:(zao fs l i).2.2.2=0):zaB fs l (n+1) i =
  if (zaB fs l n (zao fs l i).1.to).2.2≠0 then ([],(zaB fs l n (zao fs l i).1.to).2.1,(zaB fs l n (zao fs l i).1.to).2.2) else (⟨(zao fs l i).1,(zao fs l i).2.1,(zao fs l i).2.2.1⟩::(zaB fs l n (zao fs l i).1.to).1,0,0):=by
 rw[zaB,if_neg h,if_neg (by omega)]
theorem zgE (fs:List Fld)(p l:List UInt8):∀ (n i N:Nat),l.length≤n+i→l.length≤N+i→(zaB fs l n i).2.2=0 →
  (zaB fs (p++l) N (p.length+i)).2.2=0∧(zaB fs (p++l) N (p.length+i)).1.map (zsb (p++l))=(zaB fs l n i).1.map (zsb l)
 | 0,i,N,hn,hN,_=>by
  rw[zcU fs (p++l) N _ (by rw[List.length_append];omega),zcU fs l 0 i (by omega)]
  exact⟨rfl,rfl⟩
 | n+1,i,N,hn,hN,h=>by
  by_cases hi:l.length≤i
  ·
   rw[zcU fs (p++l) N _ (by rw[List.length_append];omega),zcU fs l (n+1) i hi]
   exact⟨rfl,rfl⟩
  obtain⟨N,rfl⟩:∃ N',N=N'+1:=⟨N - 1,by omega⟩
  by_cases hc:(zao fs l i).2.2.2=0
  ·
   have hs:=zix fs p l hc
   have hto:=zdQ fs l i hc
   rw[zcV fs l n i hi hc] at h ⊢
   rw[zcV fs (p++l) N _ (by rw[List.length_append];omega) (by rw[hs])]
   by_cases h2:(zaB fs l n (zao fs l i).1.to).2.2=0
   ·
    obtain⟨g1,g2⟩:=zgE fs p l n (zao fs l i).1.to N (by omega) (by omega) h2
    rw[hs]
    have e:(Rec.shift p.length (zao fs l i).1).to=p.length+(zao fs l i).1.to:=rfl
    simp only[e]
    rw[if_neg (by omega),if_neg (by omega)]
    refine⟨rfl,?_⟩
    simp only[List.map_cons]
    rw[g2]
    congr 1
    unfold zsb zah Rec.shift
    simp only
    rw[zg4,zg4]
   ·
    rw[if_pos h2] at h;exact absurd h h2
  ·
   rw[zaB,if_neg hi,if_pos hc] at h
   exact absurd h hc
theorem zhB (fs:List Fld)(p l:List UInt8)(hl:(zbA fs l).2.2=0):∀ (n i N:Nat),p.length≤n+i→(p++l).length≤N+i→i≤p.length→(zaB fs p n i).2.2=0 →
  (zaB fs (p++l) N i).2.2=0∧(zaB fs (p++l) N i).1.map (zsb (p++l))=(zaB fs p n i).1.map (zsb p)++zeD fs l
 | n,i,N,hn,hN,hi,h=>by
  by_cases hip:p.length≤i
  ·
   obtain rfl:i=p.length:=by omega
   rw[zcU fs p n _ (Nat.le_refl _)]
   rw[List.length_append] at hN
   have:=zgE fs p l l.length 0 N (by omega) (by omega) hl
   exact⟨this.1,this.2⟩
  cases n with
  | zero=>omega
  | succ n =>
   obtain⟨N,rfl⟩:∃ N',N=N'+1:=⟨N - 1,by rw[List.length_append] at hN;omega⟩
   by_cases hc:(zao fs p i).2.2.2=0
   ·
    have hs:=zl9 fs l hc
    have hto:=zdQ fs p i hc
    have hb:=zma hc
    rw[zcV fs p n i hip hc] at h ⊢
    rw[zcV fs (p++l) N i (by rw[List.length_append];omega) (by rw[hs];exact hc)]
    by_cases h2:(zaB fs p n (zao fs p i).1.to).2.2=0
    ·
     obtain⟨g1,g2⟩:=zhB fs p l hl n (zao fs p i).1.to N (by omega) (by omega) hto.2 h2
     rw[hs,if_neg (by omega),if_neg (by omega)]
     refine⟨rfl,?_⟩
     simp only[List.map_cons,List.cons_append]
     rw[g2]
     congr 1
     unfold zsb zah
     simp only
     rw[zkg l hb.2,zkg l hb.2]
    ·
     rw[if_pos h2] at h;exact absurd h h2
   ·
    rw[zaB,if_neg hip,if_pos hc] at h
    exact absurd h hc
theorem ziK {fs:List Fld}{p l:List UInt8}(hp:(zbA fs p).2.2=0)(hl:(zbA fs l).2.2=0):(zbA fs (p++l)).2.2=0∧zeD fs (p++l)=zeD fs p++zeD fs l:=by
 have:=zhB fs p l hl p.length 0 (p++l).length (by omega) (by omega) (by omega) hp
 exact this
theorem zrp (fs:List Fld):(zbA fs []).2.2=0∧zeD fs []=[]:=⟨rfl,rfl⟩
theorem zef {fs:List Fld}:∀ {ls:List (List UInt8)},(∀ l∈ls,(zbA fs l).2.2=0)→(zbA fs ls.flatten).2.2=0∧zeD fs ls.flatten=ls.flatMap (zeD fs)
 | [],_=>zrp fs
 | l::r,h=>by
  obtain⟨h1,h2⟩:=zef (ls:=r) fun x hx=>h x (by simp[hx])
  obtain⟨g1,g2⟩:=ziK (h l (by simp)) h1
  rw[List.flatten_cons,List.flatMap_cons]
  exact⟨g1,by rw[g2,h2]⟩
def arW (f:Fld)(x:AR):List Nat:=if x.run=true then (zce f.kind x.val).1 else if zac f.kind=true then [(zdd f.kind x.val).1] else []
def arB (f:Fld)(x:AR):List (List UInt8):=if x.run=true∨zac f.kind=true then [] else [x.val]
def zeM {α:Type}(sub:Int→List UInt8→List α)(f:Fld)(xs:List AR):Val α:=
 ⟨f.number,(counts f xs).flatMap (arW f),if f.kind=17 then [] else (counts f xs).flatMap (arB f),
  if f.kind=17 then (if f.rep=true then xs.flatMap (fun x=>sub f.of x.val) else if xs=[] then [] else sub f.of (xs.flatMap AR.val)) else []⟩
def msgA {α:Type}(sub:Int→List UInt8→List α)(fs:List Fld)(xs:List AR):zsa α:=
 ⟨((zaq fs).map fun i=>zeM sub (fs.getD i.toNat .zero) (xs.filter fun x=>decide (x.k=i))).filter (fun v=>decide (0<many v)),(xs.filter fun x=>decide (x.k<0)).map AR.whole⟩
theorem zpI {α β:Type}(f:Fld)(g:α→β)(xs:List α):counts f (xs.map g)=(counts f xs).map g:=by
 unfold counts
 split
 ·
  rfl
 ·
  unfold zbn;rw[List.length_map,List.map_drop]
theorem zrq {α:Type}(sub:Int→List UInt8→List α)(f:Fld)(l:List UInt8)(xs:List VW):zeM sub f (xs.map (zsb l))=zay sub f l xs:=by
 unfold zeM zay
 rw[zpI,List.flatMap_map,List.flatMap_map,List.flatMap_map,List.flatMap_map]
 simp only[List.map_eq_nil_iff]
 rfl
theorem ztr {α:Type}(sub:Int→List UInt8→List α)(fs:List Fld)(l:List UInt8):msgA sub fs (zeD fs l)=zdO sub fs l:=by
 unfold msgA zdO zeD
 congr 1
 ·
  congr 1
  refine List.map_congr_left fun i _=>?_
  rw[←zrq]
  congr 1
  unfold zak
  rw[List.filter_map]
  rfl
 ·
  rw[List.filter_map,List.map_map]
  rfl
end
section
open Go.RowKit
theorem zkh {n x:Nat}(ht:zcg n x=true){t:List UInt8}(hf:zcI (x:Int) t=true)(hl:t.length<2 ^ 64) :
  ∃ h,zaJ (zcj n x t) 0=(⟨n,x,0,h,h+t.length⟩,0)∧(zcj n x t).length=h+t.length∧zbx (zcj n x t) h (h+t.length)=t∧0<h:=by
 have ht':(1:Int)≤n∧(n:Int)≤536870911∧((x:Int)=0∨(x:Int)=1∨(x:Int)=2∨(x:Int)=5):=of_decide_eq_true ht
 have hx:x=0∨x=1∨x=2∨x=5:=by omega
 have ha:8*n+x<2 ^ 64:=by omega
 have hpos:=zop (8*n+x)
 rw[zor]
 obtain⟨L,hL⟩:∃ L,L=(if x=2 then zeJ t.length else []):=⟨_,rfl⟩
 rw[←hL]
 have hv:zaO (zeJ (8*n+x)++(L++t))=(8*n+x,(zeJ (8*n+x)).length,0):=by
  rw[zeb _ (by rw[zcp ha]),zcp ha]
 have htr:zc1 (zeJ (8*n+x)++(L++t))=(n,x,(zeJ (8*n+x)).length,0):=by
  unfold zc1
  rw[hv]
  have h8:(8*n+x) / 8=n:=by omega
  have h9:(8*n+x) % 8=x:=by omega
  simp only[h8,h9]
  rw[if_neg (by simp),if_neg (by rw[ht];simp;omega)]
 have hd:(zeJ (8*n+x)++(L++t)).drop (zeJ (8*n+x)).length=L++t:=List.drop_left
 have hsz:zcH x (L++t)=(L.length,t.length,0):=by
  unfold zcH
  rcases hx with rfl|rfl|rfl|rfl
  ·
   rw[if_neg (by decide)] at hL
   subst hL
   unfold zcI at hf
   simp at hf
   simp[hf.1,hf.2]
  ·
   rw[if_neg (by decide)] at hL
   subst hL
   unfold zcI at hf
   simp at hf
   simp[hf]
  ·
   rw[if_pos rfl] at hL
   subst hL
   rw[if_neg (by decide),if_neg (by decide),if_neg (by decide),zeb _ (by rw[zcp hl]),zcp hl]
  ·
   rw[if_neg (by decide)] at hL
   subst hL
   unfold zcI at hf
   simp at hf
   simp[hf]
 refine⟨(zeJ (8*n+x)).length+L.length,?_,by simp;omega,?_,by omega⟩
 ·
  unfold zaJ
  rw[if_neg (by rw[List.length_append];omega),List.drop_zero,htr]
  simp only[Nat.zero_add]
  rw[if_neg (by simp),hd,hsz]
  simp only
  rw[if_neg (by simp),if_neg (by simp;omega)]
 ·
  unfold zbx
  rw[←List.append_assoc,Nat.add_sub_cancel_left]
  rw[show (zeJ (8*n+x)).length+L.length=(zeJ (8*n+x)++L).length by simp,List.drop_left,List.take_length]
theorem zoM (l:List UInt8):zbx l 0 l.length=l:=by unfold zbx;simp
theorem zpJ {fs:List Fld}{q n x:Nat}(_hq:q<fs.length)(hn:zae fs (n:Int)=q)(ht:zcg n x=true){t:List UInt8}(hf:zcI (x:Int) t=true)(hl:t.length<2 ^ 64){run:Bool}
  (hrun:run=((fs.getD q .zero).rep&&zac (fs.getD q .zero).kind&&decide (x=2))) (hk:run=true∨zaM (fs.getD q .zero).kind=true∧zas (fs.getD q .zero).kind=x) :
  (zbA fs (zcj n x t)).2.2=0∧zeD fs (zcj n x t)=[(⟨(q:Int),run,t,zcj n x t⟩:AR)]:=by
 obtain⟨h,h1,h2,h3,h4⟩:=zkh ht hf hl
 have hlook:zao fs (zcj n x t) 0=((⟨n,x,0,h,h+t.length⟩:Rec),(q:Int),run,0):=by
  unfold zao
  rw[h1]
  simp only
  rw[if_neg (by simp),hn,if_neg (by omega),Int.toNat_natCast]
  have e:((fs.getD q Fld.zero).rep&&zac (fs.getD q Fld.zero).kind&&decide (x=2))=run:=hrun.symm
  rw[e]
  cases run with
  | true=>rfl
  | false =>
   rcases hk with hk|⟨hk1,hk2⟩
   ·
    cases hk
   ·
    rw[if_neg (by simp),if_neg (by rw[hk1,hk2];simp)]
 obtain⟨N,hN⟩:∃ N,(zcj n x t).length=N+1:=⟨(zcj n x t).length - 1,by omega⟩
 have hva:zbA fs (zcj n x t)=([(⟨⟨n,x,0,h,h+t.length⟩,(q:Int),run⟩:VW)],0,0):=by
  unfold zbA
  rw[hN,zcV fs _ _ _ (by omega) (by rw[hlook]),hlook]
  simp only
  rw[zcU fs _ N _ (by omega),if_neg (by simp)]
 refine⟨by rw[hva],?_⟩
 unfold zeD
 rw[hva]
 simp only[List.map_cons,List.map_nil]
 unfold zsb zah
 simp only
 rw[h3,←h2,zoM]
end
section
open Go.RowKit
theorem b8_nat {n:Nat}(h:n<256):(b8 n).toNat=n:=((b8_eq n (b8 n) h).1 rfl).symm
theorem zfa:∀ (n x:Nat),zdw (zcq n x)=x % 256 ^ n
 | 0,x=>by simp[zcq,zdw,Nat.mod_one]
 | n+1,x=>by
  rw[zcq,zdw,zfa n,b8_nat (Nat.mod_lt _ (by decide)),Nat.pow_succ,Nat.mul_comm (256 ^ n) 256,Nat.mod_mul]
theorem zmu {k:Int}(h1:9≤k)(h2:k<12)(x:Nat):zaE k x<256 ^ 4:=by
 unfold zaE
 rw[if_neg (by omega),if_neg (by omega),if_pos (by omega)]
 exact Nat.mod_lt _ (by decide)
theorem zta {k:Int}(hk:zac k=true)(x:Nat):(zas k=1∧zeQ k x=zcq 8 (zaE k x))∨(zas k=5∧zeQ k x=zcq 4 (zaE k x)∧9≤k∧k<12)∨(zas k=0∧zeQ k x=zeJ (zaE k x)):=by
 have hk':1≤k∧k≤14:=of_decide_eq_true hk
 unfold zas zeQ
 rw[if_neg (show ¬ (k<1∨17<k) by omega),if_neg (show ¬ (15≤k) by omega)]
 by_cases h1:12≤k
 ·
  rw[if_pos h1,if_pos h1];exact .inl ⟨rfl,rfl⟩
 ·
  rw[if_neg h1,if_neg h1]
  by_cases h2:9≤k
  ·
   rw[if_pos h2,if_pos h2];exact .inr (.inl ⟨rfl,rfl,h2,by omega⟩)
  ·
   rw[if_neg h2,if_neg h2];exact .inr (.inr ⟨rfl,rfl⟩)
theorem zoN {k:Int}{x:Nat}:0<(zeQ k x).length:=by
 unfold zeQ
 split
 ·
  rw[zaZ];omega
 ·
  split
  ·
   rw[zaZ];omega
  ·
   exact zop _
theorem zki {k:Int}{x:Nat}(hk:zac k=true)(h:x<2 ^ 64):zdd k (zeQ k x)=(zaE k x,0):=by
 have hc:=zdv k h
 unfold zdd
 rw[if_pos (zgr hk h)]
 congr 1
 have e:(if zas k=0 then (zaO (zeQ k x)).1 else zeL (zeQ k x))=zaE k x:=by
  rcases zta hk x with ⟨e1,e2⟩|⟨e1,e2,h1,h2⟩|⟨e1,e2⟩
  ·
   rw[e1,e2,if_neg (by decide)]
   unfold zeL
   rw[List.take_of_length_le (by rw[zaZ];omega),zfa]
   exact Nat.mod_eq_of_lt hc
  ·
   rw[e1,e2,if_neg (by decide)]
   unfold zeL
   rw[List.take_of_length_le (by rw[zaZ];omega),zfa]
   exact Nat.mod_eq_of_lt (zmu h1 h2 x)
  ·
   rw[e1,e2,if_pos rfl,zcp hc]
 rw[e]
 exact ziz k x
theorem zmv {k:Int}{x:Nat}(hk:zac k=true)(h:x<2 ^ 64)(r:List UInt8):zbr (zas k) (zeQ k x++r)=((zeQ k x).length,0):=by
 have hc:=zdv k h
 unfold zbr
 rcases zta hk x with ⟨e1,e2⟩|⟨e1,e2,h1,h2⟩|⟨e1,e2⟩
 ·
  rw[e1,e2,if_neg (by decide),if_pos rfl,if_neg (by rw[List.length_append,zaZ];omega),zaZ]
 ·
  rw[e1,e2,if_neg (by decide),if_neg (show ¬ (5=1) by decide),if_neg (by rw[List.length_append,zaZ];omega),zaZ]
 ·
  rw[e1,e2,if_pos rfl,zeb _ (by rw[zcp hc]),zcp hc]
theorem zd2 {k:Int}(hk:zac k=true):∀ (ws:List Nat),(∀ x∈ws,x<2 ^ 64)→(zaz (zas k) (zbR k ws)).2=0∧zbP (zas k) (zbR k ws)=ws.map (zeQ k)
 | [],_=>⟨rfl,rfl⟩
 | x::r,h=>by
  obtain⟨g1,g2⟩:=zd2 hk r fun y hy=>h y (by simp[hy])
  have hx:=h x (by simp)
  have e:zbR k (x::r)=zeQ k x++zbR k r:=by unfold zbR;rw[List.flatMap_cons]
  have hp:=zoN (k:=k) (x:=x)
  have hne:zeQ k x++zbR k r≠[]:=by intro e;rw[List.append_eq_nil_iff] at e;rw[e.1] at hp;simp at hp
  have hs:=zmv hk hx (zbR k r)
  rw[e]
  refine⟨?_,?_⟩
  ·
   rw[zdi _ _ hne _ hs,List.drop_left,if_neg (by omega)]
  ·
   rw[zc5 _ _ hne _ hs,List.drop_left,List.take_left,g2,List.map_cons]
theorem zjC {k:Int}(hk:zac k=true)(ws:List Nat)(h:∀ x∈ws,x<2 ^ 64):zce k (zbR k ws)=(ws.map (zaE k),0):=by
 obtain⟨g1,g2⟩:=zd2 hk ws h
 unfold zce
 rw[if_pos g1]
 unfold ziu
 rw[g2,List.map_map]
 congr 1
 refine List.map_congr_left fun x hx=>?_
 show (zdd k (zeQ k x)).1=_
 rw[zki hk (h x hx)]
end
section
open Go.RowKit
theorem zc0 {α β:Type}{g:α→List β}{h:α→β}:∀ {l:List α},(∀ x∈l,g x=[h x])→l.flatMap g=l.map h
 | [],_=>rfl
 | x::r,hx=>by rw[List.flatMap_cons,List.map_cons,hx x (by simp),zc0 fun y hy=>hx y (by simp[hy])];rfl
theorem zgF (t:List UInt8):zcI ((2:Nat):Int) t=true:=by unfold zcI;simp
def zlr {α:Type}(E:Int→α→List UInt8)(f:Fld)(q:Nat)(x:Val α):List AR:=
 if zac f.kind=true then (if f.rep=true then [⟨q,true,zbR f.kind x.words,zcj f.number 2 (zbR f.kind x.words)⟩] else [⟨q,false,zeQ f.kind (x.words.getD 0 0),zcj f.number (zas f.kind) (zeQ f.kind (x.words.getD 0 0))⟩])
 else x.texts.map (fun t=>⟨q,false,t,zcj f.number 2 t⟩)++x.subs.map fun y=>⟨q,false,E f.of y,zcj f.number 2 (E f.of y)⟩
theorem zpK {α:Type}{E:Int→α→List UInt8}{fs:List Fld}{q:Nat}{f:Fld}{x:Val α}(hf:f=fs.getD q .zero)(hn:zae fs f.number=q)(hk:zaM f.kind=true)(hnum:1≤f.number∧f.number≤536870911)
  (hw:∀ w∈x.words,w<2 ^ 64) (hwl:x.words.length≤1099511627776) (htl:∀ t∈x.texts,t.length<2 ^ 64) (hsl:∀ y∈x.subs,(E f.of y).length<2 ^ 64) :
  (zbA fs (zhL E f x)).2.2=0∧zeD fs (zhL E f x)=zlr E f q x:=by
 obtain⟨n,hnn⟩:∃ n:Nat,f.number=n:=⟨f.number.toNat,by omega⟩
 have htag:∀ w:Nat,(w=0∨w=1∨w=2∨w=5)→zcg n w=true:=fun w h=>by unfold zcg;simp;omega
 have hone:∀ (w:Nat) (t:List UInt8) (run:Bool),(w=0∨w=1∨w=2∨w=5)→zcI (w:Int) t=true→t.length<2 ^ 64→run=(f.rep&&zac f.kind&&decide (w=2))→(run=true∨zas f.kind=w) →
   (zbA fs (zcj f.number w t)).2.2=0∧zeD fs (zcj f.number w t)=[(⟨(q:Int),run,t,zcj f.number w t⟩:AR)]:=by
  intro w t run h1 h2 h3 h4 h5
  rw[hnn]
  by_cases hq:q<fs.length
  ·
   exact zpJ hq (by rw[←hnn];exact hn) (htag w h1) h2 h3 (by rw[←hf];exact h4) (h5.imp id fun h=>⟨by rw[←hf];exact hk,by rw[←hf];exact h⟩)
  ·
   rcases zem fs f.number with e|⟨k,h,e,-⟩
   ·
    omega
   ·
    omega
 unfold zhL zlr
 by_cases hkn:zac f.kind=true
 ·
  rw[if_pos hkn,if_pos hkn]
  have hl0:∀ w,w<2 ^ 64→(zeQ f.kind w).length≤10:=fun w h=>zg1 f.kind h
  by_cases hr:f.rep=true
  ·
   rw[if_pos hr,if_pos hr]
   have hpl:=zeo f.kind x.words hw
   exact hone 2 _ true (by omega) (zgF _) (by omega) (by rw[hr,hkn];rfl) (.inl rfl)
  ·
   rw[if_neg hr,if_neg hr]
   have hw0:x.words.getD 0 0<2 ^ 64:=by
    cases hx:x.words with
    | nil=>simp
    | cons a r=>simp;exact hw a (by rw[hx];simp)
   obtain⟨wn,hwn⟩:∃ wn:Nat,zas f.kind=wn:=⟨_,rfl⟩
   have hwc:=zgu hkn
   have h1:=zgr hkn hw0
   rw[hwn] at h1 ⊢
   have:=hl0 _ hw0
   exact hone wn _ false (by omega) h1 (by omega) (by
    have:decide (wn=2)=false:=by simp;omega
    rw[this];simp) (.inr hwn)
 ·
  rw[if_neg hkn,if_neg hkn]
  have hk2:zas f.kind=2:=by
   have hkf:zac f.kind=false:=by simpa using hkn
   unfold zaM at hk
   unfold zac at hkf
   simp at hk hkf
   unfold zas
   rw[if_neg (by omega),if_pos (by omega)]
  have h2:∀ t:List UInt8,t.length<2 ^ 64→(zbA fs (zcj f.number 2 t)).2.2=0∧zeD fs (zcj f.number 2 t)=[(⟨(q:Int),false,t,zcj f.number 2 t⟩:AR)]:=fun t ht =>
   hone 2 t false (by omega) (zgF t) ht (by rw[show zac f.kind=false by simpa using hkn];simp) (.inr hk2)
  have hT:=zef (fs:=fs) (ls:=x.texts.map (zcj f.number 2)) fun l hl=>by
   obtain⟨t,ht,rfl⟩:=List.mem_map.1 hl
   exact (h2 t (htl t ht)).1
  have hS:=zef (fs:=fs) (ls:=x.subs.map fun y=>zcj f.number 2 (E f.of y)) fun l hl=>by
   obtain⟨y,hy,rfl⟩:=List.mem_map.1 hl
   exact (h2 _ (hsl y hy)).1
  have hB:=ziK hT.1 hS.1
  rw[List.flatMap_def,List.flatMap_def]
  refine⟨hB.1,hB.2.trans ?_⟩
  rw[hT.2,hS.2,List.flatMap_map,List.flatMap_map]
  rw[zc0 (fun t ht=>(h2 t (htl t ht)).2),zc0 (fun y hy=>(h2 _ (hsl y hy)).2)]
end
section
open Go.RowKit
theorem zeg {α:Type}{R:Int→α→Bool}{f:Fld}{x:Val α}(h:zcB R f x=true) :
  0<many x∧(f.rep=false→many x≤1) ∧
  ((zac f.kind=true∧x.texts=[]∧x.subs=[]∧∀ w∈x.words,zaE f.kind w=w)∨(f.kind=17∧x.words=[]∧x.texts=[]∧∀ y∈x.subs,R f.of y=true) ∨
   (zac f.kind=false∧f.kind≠17∧(f.kind=15∨f.kind=16)∧x.words=[]∧x.subs=[]∧(f.kind=15→∀ t∈x.texts,zbw t=t.length))):=by
 unfold zcB at h
 by_cases h0:x.words.length+x.texts.length+x.subs.length=0∨1<x.words.length+x.texts.length+x.subs.length∧f.rep=false
 ·
  rw[if_pos h0] at h;cases h
 rw[if_neg h0] at h
 have hm:many x=x.words.length+x.texts.length+x.subs.length:=rfl
 refine⟨by omega,fun hr=>?_,?_⟩
 ·
  rw[hm]
  by_cases h1:1<x.words.length+x.texts.length+x.subs.length
  ·
   exact absurd (.inr ⟨h1,hr⟩) h0
  ·
   omega
 by_cases hk:zac f.kind=true
 ·
  rw[if_pos hk] at h
  simp only[Bool.and_eq_true,decide_eq_true_eq,List.all_eq_true,List.length_eq_zero_iff] at h
  exact .inl ⟨hk,h.1.1,h.1.2,h.2⟩
 ·
  rw[if_neg hk] at h
  by_cases h17:f.kind=17
  ·
   rw[if_pos h17] at h
   simp only[Bool.and_eq_true,decide_eq_true_eq,List.all_eq_true,List.length_eq_zero_iff] at h
   exact .inr (.inl ⟨h17,h.1.1,h.1.2,h.2⟩)
  ·
   rw[if_neg h17] at h
   by_cases h15:f.kind=15
   ·
    rw[if_pos h15] at h
    simp only[Bool.and_eq_true,decide_eq_true_eq,List.all_eq_true,List.length_eq_zero_iff] at h
    exact .inr (.inr ⟨by simpa using hk,h17,.inl h15,h.1.1,h.1.2,fun _=>h.2⟩)
   ·
    rw[if_neg h15] at h
    simp only[Bool.and_eq_true,decide_eq_true_eq,List.length_eq_zero_iff] at h
    exact .inr (.inr ⟨by simpa using hk,h17,.inr h.1,h.2.1,h.2.2,fun e=>absurd e h15⟩)
theorem zmw {α β:Type}(g:α→List β)(h:α→β)(l:List α)(e:∀ x,g x=[h x]):l.flatMap g=l.map h:=zc0 fun x _=>e x
theorem zhc {α:Type}(f:Fld){l:List α}(h:f.rep=false→l.length≤1):counts f l=l:=by
 unfold counts
 by_cases hr:f.rep=true
 ·
  rw[if_pos hr]
 ·
  rw[if_neg hr]
  have:=h (by simpa using hr)
  unfold zbn
  rw[show l.length - 1=0 by omega,List.drop_zero]
theorem zpL {α β:Type}{R:Int→α→Bool}{E:Int→α→List UInt8}{sub:Int→List UInt8→List β}{f:Fld}{q:Nat}{x:Val α}(h:zcB R f x=true)(hw:∀ w∈x.words,w<2 ^ 64) :
  zeM sub f (zlr E f q x)=⟨f.number,x.words,x.texts,x.subs.flatMap fun y=>sub f.of (E f.of y)⟩:=by
 obtain⟨hpos,hone,hc⟩:=zeg h
 unfold many at hpos hone
 rcases hc with ⟨hk,h1,h2,h3⟩|⟨h17,h1,h2,-⟩|⟨hk,h17,-,h1,h2,-⟩
 ·
  have h17:f.kind≠17:=by intro e;rw[e] at hk;exact absurd hk (by decide)
  unfold zlr zeM
  rw[if_pos hk,if_neg h17,if_neg h17,h1,h2]
  by_cases hr:f.rep=true
  ·
   rw[if_pos hr]
   rw[zhc f (by intro e;simp)]
   have hm:x.words.map (zaE f.kind)=x.words:=by
    conv=>rhs;rw[←List.map_id x.words]
    exact List.map_congr_left h3
   simp only[List.flatMap_cons,List.flatMap_nil,List.append_nil]
   unfold arW arB
   rw[if_pos rfl,if_pos (.inl rfl),zjC hk _ hw,hm]
  ·
   have hr':f.rep=false:=by simpa using hr
   rw[if_neg hr]
   rw[zhc f (by intro e;simp)]
   have hl:=hone hr'
   rw[h1,h2] at hpos hl
   obtain⟨w,hwx⟩:∃ w,x.words=[w]:=List.length_eq_one_iff.1 (by simp at hpos hl;omega)
   have hw0:w<2 ^ 64:=hw w (by rw[hwx];simp)
   have hc0:zaE f.kind w=w:=h3 w (by rw[hwx];simp)
   simp only[List.flatMap_cons,List.flatMap_nil,List.append_nil]
   unfold arW arB
   rw[if_neg (by simp),if_pos hk,if_pos (.inr hk),hwx]
   simp only[List.getD_cons_zero]
   rw[zki hk hw0,hc0]
 ·
  have hk:¬ zac f.kind=true:=by rw[h17];decide
  unfold zlr zeM
  rw[if_neg hk,if_pos h17,if_pos h17,h1,h2]
  simp only[List.map_nil,List.nil_append]
  have hW:(counts f (x.subs.map fun y=>(⟨(q:Int),false,E f.of y,zcj f.number 2 (E f.of y)⟩:AR))).flatMap (arW f)=[]:=by
   refine zew _ _ fun z hz=>?_
   have hz':=zcr f _ hz
   obtain⟨y,-,rfl⟩:=List.mem_map.1 hz'
   unfold arW
   rw[if_neg (by simp),if_neg hk]
  rw[hW]
  congr 1
  by_cases hr:f.rep=true
  ·
   rw[if_pos hr,List.flatMap_map]
  ·
   have hr':f.rep=false:=by simpa using hr
   have hl:=hone hr'
   rw[h1,h2] at hpos hl
   obtain⟨y,hy⟩:∃ y,x.subs=[y]:=List.length_eq_one_iff.1 (by simp at hpos hl;omega)
   rw[if_neg hr,hy]
   simp
 ·
  unfold zlr zeM
  rw[if_neg (by rw[hk];decide),if_neg h17,if_neg h17,h1,h2]
  simp only[List.map_nil,List.append_nil,List.flatMap_nil]
  rw[zhc f (by
   intro e
   have:=hone e
   rw[h1,h2] at this
   simp at this ⊢;omega)]
  have hW:(x.texts.map fun t=>(⟨(q:Int),false,t,zcj f.number 2 t⟩:AR)).flatMap (arW f)=[]:=by
   refine zew _ _ fun z hz=>?_
   obtain⟨y,-,rfl⟩:=List.mem_map.1 hz
   unfold arW
   rw[if_neg (by simp),if_neg (by rw[hk];decide)]
  have hB:(x.texts.map fun t=>(⟨(q:Int),false,t,zcj f.number 2 t⟩:AR)).flatMap (arB f)=x.texts:=by
   rw[List.flatMap_map]
   rw[zmw _ id _ (fun t=>by unfold arB;rw[if_neg (by rw[hk];simp)];rfl),List.map_id]
  rw[hW,hB]
end
section
open Go.RowKit
def qOf {α:Type}(fs:List Fld)(v:Val α):Int:=zae fs v.num
structure zmx {α:Type}(F:Fld→Val α→Bool)(fs:List Fld)(vals:List (Val α)):Prop where
 at':∀ v∈vals,0≤qOf fs v∧qOf fs v<fs.length∧(fs.getD (qOf fs v).toNat .zero).number=v.num∧F (fs.getD (qOf fs v).toNat .zero) v=true
 rise:vals.Pairwise fun a b=>a.num<b.num
theorem zfb {α:Type}{F:Fld→Val α→Bool}{fs:List Fld}:∀ {vals:List (Val α)} {last:Int},zfD F fs vals last=true→zmx F fs vals∧∀ v∈vals,last<v.num
 | [],_,_=>⟨⟨fun _ h=>by simp at h,List.Pairwise.nil⟩,fun _ h=>by simp at h⟩
 | v::r,last,h=>by
  unfold zfD at h
  by_cases h0:zae fs v.num<0∨v.num≤last∨F (fs.getD (zae fs v.num).toNat .zero) v=false
  ·
   rw[if_pos h0] at h;cases h
  rw[if_neg h0] at h
  obtain⟨⟨g1,g2⟩,g3⟩:=zfb h
  have h1:0≤zae fs v.num:=by
   by_cases h:zae fs v.num<0
   ·
    exact absurd (.inl h) h0
   ·
    omega
  have h2:last<v.num:=by
   by_cases h:v.num≤last
   ·
    exact absurd (.inr (.inl h)) h0
   ·
    omega
  have h3:F (fs.getD (zae fs v.num).toNat .zero) v=true:=by
   cases e:F (fs.getD (zae fs v.num).toNat .zero) v with
   | true=>rfl
   | false=>exact absurd (.inr (.inr e)) h0
  refine⟨⟨fun w hw=>?_,List.pairwise_cons.2 ⟨g3,g2⟩⟩,fun w hw=>?_⟩
  ·
   rcases List.mem_cons.1 hw with rfl|hw
   ·
    rcases zem fs w.num with e|⟨k,hk,e,hn⟩
    ·
     omega
    ·
     refine⟨h1,?_,?_,h3⟩
     ·
      show zae fs w.num<_;omega
     ·
      show (fs.getD (zae fs w.num).toNat .zero).number=_
      rw[e,Int.toNat_natCast];exact hn
   ·
    exact g1 w hw
  ·
   rcases List.mem_cons.1 hw with rfl|hw
   ·
    exact h2
   ·
    have:=g3 w hw;omega
theorem ziL {α:Type}(Q:α→Int)(R:α→List AR):∀ (vals:List α),(∀ v∈vals,∀ r∈R v,r.k=Q v)→(vals.map Q).Nodup→∀ v∈vals,(vals.flatMap R).filter (fun r=>decide (r.k=Q v))=R v
 | [],_,_,v,hv=>by simp at hv
 | a::t,hk,hn,v,hv=>by
  rw[List.map_cons,List.nodup_cons] at hn
  rw[List.flatMap_cons,List.filter_append]
  have hrest:∀ w:α,(∀ u∈t,Q u≠Q w)→(t.flatMap R).filter (fun r=>decide (r.k=Q w))=[]:=by
   intro w hw
   rw[List.filter_eq_nil_iff]
   intro r hr
   obtain⟨u,hu,hru⟩:=List.mem_flatMap.1 hr
   have:=hk u (by simp[hu]) r hru
   simp only[decide_eq_true_eq]
   rw[this];exact hw u hu
  rcases List.mem_cons.1 hv with rfl|hv
  ·
   rw[hrest v (fun u hu e=>hn.1 (List.mem_map.2 ⟨u,hu,e⟩)),List.append_nil]
   rw[List.filter_eq_self]
   intro r hr
   simpa using hk v (by simp) r hr
  ·
   have h1:(R a).filter (fun r=>decide (r.k=Q v))=[]:=by
    rw[List.filter_eq_nil_iff]
    intro r hr
    simp only[decide_eq_true_eq]
    rw[hk a (by simp) r hr]
    intro e
    exact hn.1 (List.mem_map.2 ⟨v,hv,e.symm⟩)
   rw[h1,List.nil_append]
   exact ziL Q R t (fun u hu=>hk u (by simp[hu])) hn.2 v hv
theorem znM {α:Type}(Q:α→Int)(R:α→List AR)(vals:List α)(hk:∀ v∈vals,∀ r∈R v,r.k=Q v)(i:Int)(hi:∀ v∈vals,Q v≠i):(vals.flatMap R).filter (fun r=>decide (r.k=i))=[]:=by
 rw[List.filter_eq_nil_iff]
 intro r hr
 obtain⟨u,hu,hru⟩:=List.mem_flatMap.1 hr
 simp only[decide_eq_true_eq]
 rw[hk u hu r hru];exact hi u hu
theorem zts {α:Type}{E:Int→α→List UInt8}{f:Fld}{q:Nat}{x:Val α}:∀ r∈zlr E f q x,r.k=(q:Int):=by
 intro r hr
 unfold zlr at hr
 split at hr
 ·
  split at hr <;> (simp at hr;rw[hr])
 ·
  rcases List.mem_append.1 hr with h|h
  ·
   obtain⟨t,-,rfl⟩:=List.mem_map.1 h;rfl
  ·
   obtain⟨t,-,rfl⟩:=List.mem_map.1 h;rfl
theorem places {α:Type}{F:Fld→Val α→Bool}{fs:List Fld}{vals:List (Val α)}(h:zmx F fs vals):(zaq fs).filter (fun i=>decide (∃ v∈vals,qOf fs v=i))=vals.map (qOf fs):=by
 have hp:(vals.map (qOf fs)).Pairwise (zck fs):=by
  rw[List.pairwise_map]
  refine List.Pairwise.imp_of_mem (fun {a b} ha hb hab=>?_) h.rise
  refine .inl ?_
  unfold zdc
  rw[(h.at' a ha).2.2.1,(h.at' b hb).2.2.1];exact hab
 have hs:=(zbD fs fs.length).2
 have hf:((zaq fs).filter (fun i=>decide (∃ v∈vals,qOf fs v=i))).Pairwise (zck fs):=hs.filter _
 have hnd:∀ {l:List Int},l.Pairwise (zck fs)→l.Nodup:=fun {l} hl=>List.Pairwise.imp (fun {a b} hab=>by rintro rfl;exact zck.asymm _ _ hab hab) hl
 refine zg2 zck.asymm hf hp ?_
 refine (List.perm_ext_iff_of_nodup (hnd hf) (hnd hp)).2 fun i=>?_
 rw[List.mem_filter,List.mem_map]
 constructor
 ·
  rintro⟨-,h2⟩
  simpa using h2
 ·
  rintro⟨v,hv,rfl⟩
  refine⟨?_,by simpa using ⟨v,hv,rfl⟩⟩
  have hb:=h.at' v hv
  refine (zbD fs fs.length).1.mem_iff.2 (zeu.2 ⟨hb.1,hb.2.1⟩)
def zmy {α β:Type}(G:Int→α→List β)(fs:List Fld)(v:Val α):Val β:=⟨v.num,v.words,v.texts,v.subs.flatMap (G (fs.getD (qOf fs v).toNat .zero).of)⟩
def zeh {α:Type}(E:Int→α→List UInt8)(fs:List Fld)(v:Val α):List AR:=zlr E (fs.getD (qOf fs v).toNat .zero) (qOf fs v).toNat v
theorem zmz {α β:Type}(g:α→List β):∀ (l:List α),(∀ x∈l,(g x).length=1)→(l.flatMap g).length=l.length
 | [],_=>rfl
 | x::r,h=>by
  rw[List.flatMap_cons,List.length_append,h x (by simp),zmz g r fun y hy=>h y (by simp[hy]),List.length_cons];omega
theorem zsC {α β:Type}{R:Int→α→Bool}{E:Int→α→List UInt8}{sub:Int→List UInt8→List β}{fs:List Fld}{vals:List (Val α)}{un:List AR}(h:zmx (zcB R) fs vals)(hw:∀ v∈vals,∀ w∈v.words,w<2 ^ 64)(hun:∀ r∈un,r.k<0)
  (hsub:∀ v∈vals,∀ y∈v.subs,(sub (fs.getD (qOf fs v).toNat .zero).of (E (fs.getD (qOf fs v).toNat .zero).of y)).length=1) :
  msgA sub fs (vals.flatMap (zeh E fs)++un)=⟨vals.map (zmy (fun o y=>sub o (E o y)) fs),un.map AR.whole⟩:=by
 have hk:∀ v∈vals,∀ r∈zeh E fs v,r.k=qOf fs v:=fun v hv r hr=>by
  have:=zts r hr
  have h1:=(h.at' v hv).1
  rw[this];omega
 have hnd:(vals.map (qOf fs)).Nodup:=by
  rw[←places h]
  refine List.Pairwise.filter _ ?_
  refine List.Pairwise.imp (fun {a b} hab=>?_) (zbD fs fs.length).2
  rintro rfl
  exact zck.asymm _ _ hab hab
 have hfl:∀ i:Int,0≤i→(vals.flatMap (zeh E fs)++un).filter (fun r=>decide (r.k=i))=(vals.flatMap (zeh E fs)).filter (fun r=>decide (r.k=i)):=by
  intro i hi
  rw[List.filter_append]
  have:un.filter (fun r=>decide (r.k=i))=[]:=by
   rw[List.filter_eq_nil_iff]
   intro r hr
   have:=hun r hr
   simp only[decide_eq_true_eq];omega
  rw[this,List.append_nil]
 have hval:∀ v∈vals,zeM sub (fs.getD (qOf fs v).toNat .zero) ((vals.flatMap (zeh E fs)++un).filter (fun r=>decide (r.k=qOf fs v)))=zmy (fun o y=>sub o (E o y)) fs v:=by
  intro v hv
  obtain⟨h1,h2,h3,h4⟩:=h.at' v hv
  rw[hfl _ h1,ziL (qOf fs) (zeh E fs) vals hk hnd v hv]
  unfold zeh zmy
  rw[zpL h4 (hw v hv),h3]
 have hmany:∀ v∈vals,0<many (zmy (fun o y=>sub o (E o y)) fs v):=by
  intro v hv
  have h4:=(zeg (h.at' v hv).2.2.2).1
  unfold many at h4 ⊢
  unfold zmy
  simp only
  rw[zmz _ _ (hsub v hv)]
  exact h4
 unfold msgA
 congr 1
 ·
  have hkey:((zaq fs).map fun i=>zeM sub (fs.getD i.toNat .zero) ((vals.flatMap (zeh E fs)++un).filter fun x=>decide (x.k=i))).filter (fun v=>decide (0<many v)) =
    ((zaq fs).filter (fun i=>decide (∃ v∈vals,qOf fs v=i))).map fun i=>zeM sub (fs.getD i.toNat .zero) ((vals.flatMap (zeh E fs)++un).filter fun x=>decide (x.k=i)):=by
   rw[List.filter_map]
   congr 1
   refine List.filter_congr fun i hi=>?_
   have hb:=zaH hi
   simp only[Function.comp]
   by_cases he:∃ v∈vals,qOf fs v=i
   ·
    obtain⟨v,hv,rfl⟩:=he
    refine (decide_eq_true ?_).trans (decide_eq_true ⟨v,hv,rfl⟩).symm
    rw[hval v hv];exact hmany v hv
   ·
    refine (decide_eq_false ?_).trans (decide_eq_false he).symm
    rw[hfl i hb.1,znM (qOf fs) (zeh E fs) vals hk i (fun v hv e=>he ⟨v,hv,e⟩)]
    have:many (zeM sub (fs.getD i.toNat .zero) [])=0:=by
     unfold many zeM counts zbn
     simp
    omega
  rw[hkey,places h,List.map_map]
  exact List.map_congr_left fun v hv=>hval v hv
 ·
  rw[List.filter_append]
  have h1:(vals.flatMap (zeh E fs)).filter (fun x=>decide (x.k<0))=[]:=by
   rw[List.filter_eq_nil_iff]
   intro r hr
   obtain⟨v,hv,hrv⟩:=List.mem_flatMap.1 hr
   have:=hk v hv r hrv
   have:=(h.at' v hv).1
   simp only[decide_eq_true_eq];omega
  have h2:un.filter (fun x=>decide (x.k<0))=un:=by
   rw[List.filter_eq_self]
   intro r hr
   simpa using hun r hr
  rw[h1,h2,List.nil_append]
end
section
open Go.RowKit
def zej {α β:Type}(S:α→β→Bool):List α→List β→Bool
 | [],[]=>true
 | x::r,y::t=>S x y&&zej S r t
 | _,_=>false
def zcm {α β:Type}(S:α→β→Bool)(x:Val α)(y:Val β):Bool:=decide (x.num=y.num∧x.words=y.words∧x.texts=y.texts)&&zej S x.subs y.subs
def zbE:(a b:Nat)→M a→M b→Bool
 | 0,_,x,_=>Empty.elim x
 | _+1,0,_,y=>Empty.elim y
 | a+1,b+1,x,y=>decide (M.unk x=M.unk y)&&zej (zcm (zbE a b)) (M.vals x) (M.vals y)
def zhC {α:Type}(D:α→Nat)(v:Val α):Nat:=(v.subs.map fun y=>D y+1).foldl max 0
def zdE:(d:Nat)→M d→Nat
 | 0,_=>0
 | d+1,x=>((M.vals x).map (zhC (zdE d))).foldl max 0
theorem ziM:∀ (l:List Nat) (a:Nat),a≤l.foldl max a∧∀ x∈l,x≤l.foldl max a
 | [],a=>⟨Nat.le_refl _,by simp⟩
 | y::r,a=>by
  obtain⟨h1,h2⟩:=ziM r (max a y)
  rw[List.foldl_cons]
  refine⟨by omega,fun x hx=>?_⟩
  rcases List.mem_cons.1 hx with rfl|hx
  ·
   omega
  ·
   exact h2 x hx
theorem zh3 {b:Nat}:∀ (l:List Nat) (a:Nat),a≤b→(∀ x∈l,x≤b)→l.foldl max a≤b
 | [],_,h,_=>h
 | x::r,a,h,hl=>by
  rw[List.foldl_cons]
  exact zh3 r _ (by have:=hl x (by simp);omega) fun y hy=>hl y (by simp[hy])
theorem zmA {α β:Type}(S:α→β→Bool)(l:List α)(m:List β)(k:Nat)(x:α)(y:β)(h:l[k]?=some x)(h2:m[k]?=some y):zej S (l.drop k) (m.drop k)=(S x y&&zej S (l.drop (k+1)) (m.drop (k+1))):=by
 obtain⟨hk,rfl⟩:=List.getElem?_eq_some_iff.1 h
 obtain⟨hk2,rfl⟩:=List.getElem?_eq_some_iff.1 h2
 rw[List.drop_eq_getElem_cons hk,List.drop_eq_getElem_cons hk2,zej]
theorem zls {α β:Type}(S:α→β→Bool):∀ (l:List α) (m:List β),l.length≠m.length→zej S l m=false
 | [],[],h=>absurd rfl h
 | [],_::_,_=>rfl
 | _::_,[],_=>rfl
 | x::r,y::t,h=>by
  rw[zej,zls S r t (by simpa using h),Bool.and_false]
theorem zrr {α:Type}[DecidableEq α](l m:List α)(k:Nat)(x y:α)(h:l[k]?=some x)(h2:m[k]?=some y):decide (l.drop k=m.drop k)=(decide (x=y)&&decide (l.drop (k+1)=m.drop (k+1))):=by
 obtain⟨hk,rfl⟩:=List.getElem?_eq_some_iff.1 h
 obtain⟨hk2,rfl⟩:=List.getElem?_eq_some_iff.1 h2
 rw[Bool.eq_iff_iff,Bool.and_eq_true,decide_eq_true_iff,decide_eq_true_iff,decide_eq_true_iff,List.drop_eq_getElem_cons hk,List.drop_eq_getElem_cons hk2,List.cons.injEq]
theorem zmB (x y:List UInt8):((⟨x.toArray⟩:ByteArray).toList == (⟨y.toArray⟩:ByteArray).toList)=decide (x=y):=by
 rw[Bool.eq_iff_iff]
 simp[ByteArray.toList_eq]
theorem formM:∀ {d:Nat} {w:World} {v:Value} {x:M d},zat d w v x→∃ a1 n1 c1 a2 n2 c2,v= .agg #[.slice a1 n1 c1,.slice a2 n2 c2]
 | 0,_,_,_,h=>h.elim
 | d+1,_,_,_,h=>by
  obtain⟨vv,uv,rfl,hV,hU⟩:=h
  obtain⟨-,va,vc,rfl,-,-⟩:=hV.open
  obtain⟨-,ua,uc,rfl,-,-⟩:=hU.open
  exact⟨_,_,_,_,_,_,rfl⟩
theorem formV {d:Nat}{w:World}{m:Int}{v1 v2 v3:Value}{x:Val (M d)}(h:zb6 (zat d) w (.agg #[.int .i64 m,v1,v2,v3]) x):∃ a1 n1 c1 a2 n2 c2 a3 n3 c3,v1= .slice a1 n1 c1∧v2= .slice a2 n2 c2∧v3= .slice a3 n3 c3:=by
 obtain⟨wv,tv,sv,e,-,hW,hT,hS⟩:=h
 cases e
 obtain⟨-,wa,wc,rfl,-,-⟩:=hW.open
 obtain⟨-,ta,tc,rfl,-,-⟩:=hT.open
 obtain⟨-,sa,sc,rfl,-,-⟩:=hS.open
 exact⟨_,_,_,_,_,_,_,_,_,rfl,rfl,rfl⟩
end
end Go.Proofs.YtpckoeicbjfnhaaGreatDoor
