/- Parts of a proof: texts of the author, merged. No condition of their own. -/
import Derived.Test.YtpckoeicbjfnhaaGreatDoorShelf
import Derived.Test.YtpckoeicbjfnhaaGreatDoorY03
import Derived.Test.YtpckoeicbjfnhaaGreatDoorY07
import Derived.Test.YtpckoeicbjfnhaaGreatDoorY11
import Derived.Test.YtpckoeicbjfnhaaGreatDoorY16
import Derived.Test.YtpckoeicbjfnhaaGreatDoorY19
import Derived.Test.YtpckoeicbjfnhaaGreatDoorY20
import Derived.Test.YtpckoeicbjfnhaaGreatDoorY29
import Derived.Test.YtpckoeicbjfnhaaGreatDoorY31
import Derived.Shelf.SlIterI.Nil
import Derived.Shelf.SortM.Plain
import Derived.Shelf.SortM.SortNone
namespace Go.Proofs.YtpckoeicbjfnhaaGreatDoor
set_option maxRecDepth 100000
set_option maxHeartbeats 16000000
section
open Go.RowKit
/-! Literals: a block as a slice. -/
theorem zpM {w:World}{g:Nat}{fs:List Fld}{T:TypeId}(h:Blk w g (fs.flatMap Fld.cells) T)(n:Nat)(hl:n=fs.length)(hn:n≤140737488355328)(hok:∀ f∈fs,f.Ok):zaK w (.slice (some ⟨g,0,none⟩) n n) fs:=by
 subst hl
 refine⟨zcA h 6 _ ?_ hn,hok⟩
 clear h hok hn
 induction fs with
 | nil=>rfl
 | cons f r ih=>rw[List.flatMap_cons,List.length_append,ih,List.length_cons,Nat.succ_mul];show 6+_=_;omega
theorem zkm {w:World}{g:Nat}{name:ByteArray}{fs:List Fld}{fv:Value}{T:TypeId}(h:Blk w g [.string name,fv] T)(hn:name.size≤140737488355328)(hf:zaK w fv fs):zap w (.slice (some ⟨g,0,none⟩) 1 1) [⟨name,fs⟩]:=by
 refine⟨[fv],rfl,zcA h 2 1 rfl (by omega),by simpa using hn,fun i hi=>?_⟩
 have:i=0:=by simp at hi;omega
 subst this
 exact hf
theorem zoR {d:Nat}{w:World}{g:Nat}{wv tv sv:Value}{x:Val (M d)}{T:TypeId}(h:Blk w g [.int .i64 x.num,wv,tv,sv] T)(hv:zb6 (zat d) w (.agg #[.int .i64 x.num,wv,tv,sv]) x):zdR (zat d) w (.slice (some ⟨g,0,none⟩) 1 1) [x]:=by
 refine⟨[[.int .i64 x.num,wv,tv,sv]],rfl,by simp,by simpa using zcA h 4 1 rfl (by omega),fun i r y hr hy=>?_⟩
 match i with
 | 0 =>
  simp at hr hy
  subst hr
  subst hy
  exact hv
 | i+1=>simp at hr
end
section
open Go.RowKit
structure ziR (a:Nat)(w:World)(bx o:Nat)(v:Val (M a))(wa:Option Addr)(wn wc:Nat)(ta:Option Addr)(tn tc:Nat)(sa:Option Addr)(sn sc:Nat):Prop where
 c0:w.cell? ⟨bx,o,none⟩=some (.int .i64 v.num)
 c1:w.cell? ⟨bx,o+1,none⟩=some (.slice wa wn wc)
 c2:w.cell? ⟨bx,o+2,none⟩=some (.slice ta tn tc)
 c3:w.cell? ⟨bx,o+3,none⟩=some (.slice sa sn sc)
 val:zb6 (zat a) w (.agg #[.int .i64 v.num,.slice wa wn wc,.slice ta tn tc,.slice sa sn sc]) v
theorem ziR.below {a:Nat}{w W:World}{bx o:Nat}{v:Val (M a)}{wa:Option Addr}{wn wc:Nat}{ta:Option Addr}{tn tc:Nat}{sa:Option Addr}{sn sc:Nat}(h:ziR a w bx o v wa wn wc ta tn tc sa sn sc)(hb:Below w.heap.size w W):ziR a W bx o v wa wn wc ta tn tc sa sn sc:=
 ⟨zaa hb _ _ h.c0,zaa hb _ _ h.c1,zaa hb _ _ h.c2,zaa hb _ _ h.c3,VMsg.below h.val hb⟩
theorem zlx {a:Nat}{w:World}{xa:Option Addr}{n xc:Nat}{l:List (Val (M a))}(h:zdR (zat a) w (.slice xa n xc) l){bx ox:Nat}(hx:l≠[]→xa=some ⟨bx,ox,none⟩){i:Nat}{v:Val (M a)}(hi:l[i]?=some v) :
  ∃ wa wn wc ta tn tc sa sn sc,ziR a w bx (ox+i*4) v wa wn wc ta tn tc sa sn sc:=by
 obtain⟨-,a',c',e,-,hat⟩:=h.open
 obtain⟨b,o,v1,v2,v3,ha,h0,h1,h2,h3,hv⟩:=hat i v hi
 obtain⟨rfl,-,rfl⟩:xa=a'∧n=l.length∧xc=c':=by injection e with e1 e2 e3;exact⟨e1,e2,e3⟩
 have hx':=hx (by rintro rfl;simp at hi)
 rw[hx'] at ha
 cases ha
 have hv':=hv
 obtain⟨wv,tv,sv,e,-,hW,hT,hS⟩:=hv'
 obtain⟨rfl,rfl,rfl⟩:v1=wv∧v2=tv∧v3=sv:=by
  injection e with e
  have e:=congrArg Array.toList e
  simp at e
  exact e
 obtain⟨-,wa,wc,rfl,-,-⟩:=hW.open
 obtain⟨-,ta,tc,rfl,-,-⟩:=hT.open
 obtain⟨-,sa,sc,rfl,-,-⟩:=hS.open
 exact⟨wa,_,wc,ta,_,tc,sa,_,sc,h0,h1,h2,h3,hv⟩
theorem zrv {a:Nat}{w:World}{bx o:Nat}{v:Val (M a)}{wa:Option Addr}{wn wc:Nat}{ta:Option Addr}{tn tc:Nat}{sa:Option Addr}{sn sc:Nat}(h:ziR a w bx o v wa wn wc ta tn tc sa sn sc){p:M a}{l:List (M a)}(hs:v.subs=p::l) :
  0<sn∧∃ sb so v1 n1 q1 ua un uc,sa=some ⟨sb,so,none⟩∧w.cell? ⟨sb,so,none⟩=some (.slice v1 n1 q1)∧w.cell? ⟨sb,so+1,none⟩=some (.slice ua un uc)∧zat a w (.agg #[.slice v1 n1 q1,.slice ua un uc]) p:=by
 obtain⟨wv,tv,sv,e,-,-,-,hS⟩:=h.val
 have e3:sv= .slice sa sn sc:=by
  injection e with e
  have e:=congrArg Array.toList e
  simp at e
  exact e.2.2.symm
 subst e3
 obtain⟨-,a',c',e,-,hat⟩:=hS.open
 obtain⟨rfl,rfl,rfl⟩:sa=a'∧sn=v.subs.length∧sc=c':=by injection e with e1 e2 e3;exact⟨e1,e2,e3⟩
 obtain⟨sb,so,v1,v2,ha,h1,h2,hM⟩:=hat 0 p (by rw[hs];rfl)
 refine⟨by rw[hs];simp,sb,so,?_⟩
 cases a with
 | zero=>exact p.elim
 | succ a =>
  obtain⟨vv,uv,e,hV,hU⟩:=hM
  obtain⟨rfl,rfl⟩:v1=vv∧v2=uv:=by
   injection e with e
   have e:=congrArg Array.toList e
   simp at e
   exact e
  obtain⟨-,va,vc,rfl,-,-⟩:=hV.open
  obtain⟨-,ua,uc,rfl,-,-⟩:=hU.open
  rw[Nat.zero_mul,Nat.add_zero] at h1 h2
  exact⟨va,_,vc,ua,_,uc,ha,h1,h2,_,_,rfl,hV,hU⟩
theorem zoS {a b:Nat}{w:World}{x y:Value}{ua ub:Option Addr}{un uc um ud:Nat}{p:M a}{q:M b}(hp:zat a w (.agg #[x,.slice ua un uc]) p)(hq:zat b w (.agg #[y,.slice ub um ud]) q) :
  Calls Tryz.prog 32 #[.slice ua un uc,.slice ub um ud] w fun e w'=>e= .returned (.bool (zhD a b p q))∧zfC w w':=by
 cases a with
 | zero=>exact p.elim
 | succ a =>
  cases b with
  | zero=>exact q.elim
  | succ b =>
   obtain⟨vv,uv,e,-,hU⟩:=hp
   obtain⟨vv2,uv2,e2,-,hU2⟩:=hq
   have h1:uv= .slice ua un uc:=by
    injection e with e
    have e:=congrArg Array.toList e
    simp at e
    exact e.2.symm
   have h2:uv2= .slice ub um ud:=by
    injection e2 with e
    have e:=congrArg Array.toList e
    simp at e
    exact e.2.symm
   subst h1
   subst h2
   exact ziQ hU hU2
theorem zsD {a b:Nat}{W:World}{g h:Nat}{wa:Option Addr}{wn wc:Nat}{ta:Option Addr}{tn tc:Nat}{sa:Option Addr}{sn sc:Nat}{wa2:Option Addr}{wn2 wc2:Nat}{ta2:Option Addr}{tn2 tc2:Nat}{sa2:Option Addr}{sn2 sc2:Nat}{v:Val (M a)}{u:Val (M b)}
  (hg:Blk W g [.int .i64 v.num,.slice wa wn wc,.slice ta tn tc,.slice sa sn sc] 81) (hh:Blk W h [.int .i64 u.num,.slice wa2 wn2 wc2,.slice ta2 tn2 tc2,.slice sa2 sn2 sc2] 81)
  (hv:zb6 (zat a) W (.agg #[.int .i64 v.num,.slice wa wn wc,.slice ta tn tc,.slice sa sn sc]) v) (hu:zb6 (zat b) W (.agg #[.int .i64 u.num,.slice wa2 wn2 wc2,.slice ta2 tn2 tc2,.slice sa2 sn2 sc2]) u) :
  Calls Tryz.prog 68 #[.agg #[.slice (some ⟨g,0,none⟩) 1 1,.slice none 0 0],.agg #[.slice (some ⟨h,0,none⟩) 1 1,.slice none 0 0]] W fun e w'=>e= .returned (.bool (zcm (zbE a b) v u))∧Below W.heap.size W w':=by
 have hn:zbe W (.slice none 0 0) []:=⟨⟨rfl,by simp,_,_,rfl,Nat.le_refl _,by omega,fun _=>rfl,fun j u hu=>by simp at hu⟩,by simp⟩
 have h1:zat (a+1) W (.agg #[.slice (some ⟨g,0,none⟩) 1 1,.slice none 0 0]) (⟨[v],[]⟩:zsa (M a)):=⟨_,_,rfl,zoR hg hv,hn⟩
 have h2:zat (b+1) W (.agg #[.slice (some ⟨h,0,none⟩) 1 1,.slice none 0 0]) (⟨[u],[]⟩:zsa (M b)):=⟨_,_,rfl,zoR hh hu,hn⟩
 refine (zru (a+1) (b+1) W _ _ _ _ h1 h2).mono ?_
 rintro e w' ⟨rfl,hb⟩
 refine⟨?_,hb⟩
 congr 2
 show (decide (([]:List (List UInt8))=[])&&zej (zcm (zbE a b)) [v] [u])=_
 simp[zej]
theorem zmG {ks K:List Int}(hnd:ks.Nodup)(hp:K.Perm ks):(K.mergeSort fun x y=>decide (x≤y)).Pairwise (· < ·)∧∀ n,n∈(K.mergeSort fun x y=>decide (x≤y))↔n∈ks:=by
 have h1:(K.mergeSort fun x y=>decide (x≤y)).Perm K:=List.mergeSort_perm _ _
 have h2:(K.mergeSort fun x y=>decide (x≤y)).Pairwise fun x y=>decide (x≤y)=true:=List.pairwise_mergeSort (fun a b c h1 h2=>by simp at *;omega) (fun a b=>by simp;omega) _
 have h3:(K.mergeSort fun x y=>decide (x≤y)).Nodup:=(h1.trans hp).nodup_iff.2 hnd
 refine⟨?_,fun n=>(h1.trans hp).mem_iff⟩
 rw[List.nodup_iff_pairwise_ne] at h3
 refine (h2.and h3).imp fun h=>?_
 have:=of_decide_eq_true h.1
 omega
theorem zoT {ks:List Int}(hnd:ks.Nodup)(h:∀ n∈ks,1≤n∧n≤536870911):ks.length≤536870911:=by
 obtain⟨h1,h2⟩:=zmG hnd (List.Perm.refl ks)
 have h3:=zoK (lo:=1) (hi:=536870911) h1 (fun n hn=>h n ((h2 n).1 hn)) (by omega)
 rw[List.length_mergeSort] at h3
 omega
theorem ziS {α β:Type}{D:Int→α→β→List (List Int)}{U S:α→β→Bool}{f:Fld}{v:Val α}{u:Val β}(hs:zcm S v u=false)(h:¬ (f.kind=17∧f.rep=false)):zeE D U S f (some v) (some u)=[[f.number]]:=by
 rw[zbc,if_neg (by rw[hs];decide)]
 split
 ·
  rw[if_neg (fun h2=>h ⟨h2.1,h2.2.1⟩)]
 ·
  rfl
theorem zpN {α β:Type}{D:Int→α→β→List (List Int)}{U S:α→β→Bool}{f:Fld}{v:Val α}{u:Val β}{p:α}{q:β}{l:List α}{t:List β}(hs:zcm S v u=false)(hv:v.subs=p::l)(hu:u.subs=q::t)(h17:f.kind=17)(hr:f.rep=false) :
  zeE D U S f (some v) (some u)=if U p q=true then (D f.of p q).map (f.number :: ·) else [[f.number]]:=by
 rw[zbc,if_neg (by rw[hs];decide),hv,hu]
 simp only
 by_cases hU:U p q=true
 ·
  rw[if_pos ⟨h17,hr,hU⟩,if_pos hU]
 ·
  rw[if_neg (fun h=>hU h.2.2),if_neg hU]
end
section
def mOf (l:List (List Int)):List (List Int):=rOf l l.length
theorem zsE (l:List (List Int)):zfL l (mOf l):=zoD l
end
section
open Go.RowKit
theorem zpO {s:List Mes}{a b:Nat}{r:Int}{x:M (a+1)}{y:M (b+1)}{w:List Int}(h:w∈zaX s (a+1) (b+1) r x y):w≠[]:=by
 rw[zaX] at h
 obtain⟨i,-,hw⟩:=List.mem_flatMap.1 h
 rcases zgH (D:=zaX s a b) (U:=zhD a b) (S:=zbE a b) (f:=(s.getD r.toNat .zero).fields.getD i.toNat .zero) (a:=zb9 (M.vals x) ((s.getD r.toNat .zero).fields.getD i.toNat .zero).number) (b:=zb9 (M.vals y) ((s.getD r.toNat .zero).fields.getD i.toNat .zero).number) with ⟨e1,e2⟩|⟨v,u,e1,e2,e3⟩|⟨v,u,p,q,l,t,e1,e2,e3,e4,e5,e6,e9⟩|e
 ·
  rw[e1,e2] at hw;cases hw
 ·
  rw[e1,e2,zbc,if_pos e3] at hw;cases hw
 ·
  rw[e9] at hw
  obtain⟨w',-,rfl⟩:=List.mem_map.1 hw
  simp
 ·
  rw[e,List.mem_singleton] at hw
  rw[hw];simp
end
section
open Go.RowKit
theorem zsF (n:Int)(a b:List Int):ltW (n::a) (n::b)=ltW a b:=by simp[ltW]
theorem ltW_lt {n m:Int}(h:n<m)(a b:List Int):ltW (n::a) (m::b)=true:=by
 have h1:¬ n=m:=by omega
 simp[ltW,h1,h]
def zrw (D:List (List Int)):Prop:=D.Pairwise (fun a b=>ltW a b=true)∧∀ u∈D,∀ w∈D,u <+: w→u=w
theorem zpP {s:List Mes}{a b:Nat}{f:Fld}{v:Option (Val (M a))}{u:Option (Val (M b))}(ih:∀ (r:Int) (p:M a) (q:M b),zrw (zaX s a b r p q)) :
  zrw (zeE (zaX s a b) (zhD a b) (zbE a b) f v u)∧∀ w∈zeE (zaX s a b) (zhD a b) (zbE a b) f v u,∃ t,w=f.number::t:=by
 rcases zgH (D:=zaX s a b) (U:=zhD a b) (S:=zbE a b) (f:=f) (a:=v) (b:=u) with ⟨e1,e2⟩|⟨x,y,e1,e2,e3⟩|⟨x,y,p,q,l,t,e1,e2,e3,e4,e5,e6,e9⟩|e
 ·
  rw[e1,e2]
  exact⟨⟨List.Pairwise.nil,fun _ h=>by cases h⟩,fun _ h=>by cases h⟩
 ·
  rw[e1,e2,zbc,if_pos e3]
  exact⟨⟨List.Pairwise.nil,fun _ h=>by cases h⟩,fun _ h=>by cases h⟩
 ·
  rw[e9]
  obtain⟨h1,h2⟩:=ih f.of p q
  refine⟨⟨List.pairwise_map.2 (h1.imp fun h=>by rw[zsF];exact h),?_⟩,fun w hw=>?_⟩
  ·
   intro u hu w hw hp
   obtain⟨u',hu',rfl⟩:=List.mem_map.1 hu
   obtain⟨w',hw',rfl⟩:=List.mem_map.1 hw
   rw[h2 u' hu' w' hw' (List.cons_prefix_cons.1 hp).2]
  ·
   obtain⟨w',-,rfl⟩:=List.mem_map.1 hw
   exact⟨w',rfl⟩
 ·
  rw[e]
  refine⟨⟨by simp,?_⟩,fun w hw=>⟨[],by simpa using hw⟩⟩
  intro u hu w hw _
  rw[List.mem_singleton.1 hu,List.mem_singleton.1 hw]
theorem zmH {g:Int→List (List Int)}{N:Int→Int}:∀ {l:List Int},l.Pairwise (fun i j=>N i<N j)→(∀ i∈l,zrw (g i)∧∀ w∈g i,∃ t,w=N i::t)→zrw (l.flatMap g)
 | [],_,_=>⟨List.Pairwise.nil,fun _ h=>by cases h⟩
 | i::r,hl,h=>by
  obtain⟨h1,h2⟩:=List.pairwise_cons.1 hl
  obtain⟨i1,i2⟩:=zmH h2 fun j hj=>h j (by simp[hj])
  obtain⟨⟨f1,f2⟩,f3⟩:=h i (by simp)
  have hlt:∀ u∈g i,∀ w∈r.flatMap g,∃ a b n m,u=n::a∧w=m::b∧n<m:=fun u hu w hw=>by
   obtain⟨a,rfl⟩:=f3 u hu
   obtain⟨j,hj,hw⟩:=List.mem_flatMap.1 hw
   obtain⟨b,rfl⟩:=(h j (by simp[hj])).2 w hw
   exact⟨a,b,_,_,rfl,rfl,h1 j hj⟩
  rw[List.flatMap_cons]
  refine⟨List.pairwise_append.2 ⟨f1,i1,fun u hu w hw=>?_⟩,fun u hu w hw hp=>?_⟩
  ·
   obtain⟨a,b,n,m,rfl,rfl,hnm⟩:=hlt u hu w hw
   exact ltW_lt hnm a b
  ·
   rcases List.mem_append.1 hu with hu|hu <;> rcases List.mem_append.1 hw with hw|hw
   ·
    exact f2 u hu w hw hp
   ·
    obtain⟨a,b,n,m,rfl,rfl,hnm⟩:=hlt u hu w hw
    have:=(List.cons_prefix_cons.1 hp).1
    omega
   ·
    obtain⟨a,b,n,m,rfl,rfl,hnm⟩:=hlt w hw u hu
    have:=(List.cons_prefix_cons.1 hp).1
    omega
   ·
    exact i2 u hu w hw hp
theorem zkn {s:List Mes}(hs:zaw s=true):∀ (a b:Nat) (r:Int) (x:M a) (y:M b),zrw (zaX s a b r x y)
 | 0,_,_,x,_=>x.elim
 | _+1,0,_,_,y=>y.elim
 | a+1,b+1,r,x,y=>by
  rw[zaX]
  by_cases hr:r.toNat<s.length
  ·
   have hN:=zbs hs r.toNat hr
   refine zmH (N:=fun i=>((s.getD r.toNat .zero).fields.getD i.toNat .zero).number) ?_ fun i hi=>zpP fun r p q=>zkn hs a b r p q
   exact List.Pairwise.imp_of_mem (R:=zck (s.getD r.toNat .zero).fields) (fun hi hj h=>hN.lt (zaH hi) (zaH hj) h) (zbD _ _).2
  ·
   have hz:s.getD r.toNat .zero= .zero:=by rw[List.getD_eq_getElem?_getD,List.getElem?_eq_none (by omega)];rfl
   rw[hz]
   exact⟨List.Pairwise.nil,fun _ h=>by cases h⟩
theorem zpQ {s:List Mes}(hs:zaw s=true){a b:Nat}{r:Int}{x:M (a+1)}{y:M (b+1)}:mOf (zaX s (a+1) (b+1) r x y)=zaX s (a+1) (b+1) r x y:=by
 obtain⟨h1,h2⟩:=zkn hs (a+1) (b+1) r x y
 exact (zsE _).one ⟨h1,fun w=>⟨fun hw=>⟨hw,zpO hw,fun u hu _ hp=>h2 u hu w hw hp⟩,fun h=>h.1⟩⟩
theorem ziT {α β:Type}{S:α→β→Bool}{T:β→α→Bool}(h:∀ x y,S x y=T y x):∀ (a:List α) (b:List β),zej S a b=zej T b a
 | [],[]=>rfl
 | [],_::_=>rfl
 | _::_,[]=>rfl
 | x::r,y::t=>by unfold zej;rw[h x y,ziT h r t]
theorem zko {α β:Type}{S:α→β→Bool}{T:β→α→Bool}(h:∀ x y,S x y=T y x)(u:Val α)(v:Val β):zcm S u v=zcm T v u:=by
 unfold zcm
 rw[ziT h]
 congr 1
 exact decide_eq_decide.2 ⟨fun ⟨a,b,c⟩=>⟨a.symm,b.symm,c.symm⟩,fun ⟨a,b,c⟩=>⟨a.symm,b.symm,c.symm⟩⟩
theorem zkp:∀ (a b:Nat) (x:M a) (y:M b),zbE a b x y=zbE b a y x
 | 0,_,x,_=>x.elim
 | _+1,0,_,y=>y.elim
 | a+1,b+1,x,y=>by
  unfold zbE
  rw[ziT (zko (zkp a b))]
  congr 1
  exact decide_eq_decide.2 ⟨Eq.symm,Eq.symm⟩
theorem zkq:∀ (a b:Nat) (x:M a) (y:M b),zhD a b x y=zhD b a y x
 | 0,_,x,_=>x.elim
 | _+1,0,_,y=>y.elim
 | _+1,_+1,x,y=>by unfold zhD;exact decide_eq_decide.2 ⟨Eq.symm,Eq.symm⟩
theorem zpR {α β:Type}{D:Int→α→β→List (List Int)}{E:Int→β→α→List (List Int)}{U S:α→β→Bool}{V T:β→α→Bool}(hD:∀ r x y,D r x y=E r y x)(hU:∀ x y,U x y=V y x)(hS:∀ x y,S x y=T y x)(f:Fld)(v:Option (Val α))(u:Option (Val β)) :
  zeE D U S f v u=zeE E V T f u v:=by
 match v,u with
 | none,none=>rfl
 | none,some _=>rfl
 | some _,none=>rfl
 | some v,some u =>
  rw[zbc,zbc,zko hS]
  match v.subs,u.subs with
  | [],[]=>rfl
  | [],_::_=>rfl
  | _::_,[]=>rfl
  | p::_,q::_=>simp only;rw[hU,hD]
theorem zhe (s:List Mes):∀ (a b:Nat) (r:Int) (x:M a) (y:M b),zaX s a b r x y=zaX s b a r y x
 | 0,_,_,x,_=>x.elim
 | _+1,0,_,_,y=>y.elim
 | a+1,b+1,r,x,y=>by
  rw[zaX,zaX]
  exact zfN fun i _=>zpR (zhe s a b) (zkq a b) (zkp a b) _ _ _
theorem zrx {s:List Mes}(hs:zaw s=true){d:Nat}{r:Int}{x y:M (d+1)}(hx:zav s (d+1) r x=true)(hy:zav s (d+1) r y=true):(zaX s (d+1) (d+1) r x y=[]∧M.unk x=M.unk y)↔x=y:=by
 constructor
 ·
  rintro⟨h1,h2⟩
  exact zoP (znP hs) (d+1) r x y hx hy ((zoQ d x y).2 h2) h1
 ·
  rintro rfl
  refine⟨?_,rfl⟩
  rw[zaX,List.flatMap_eq_nil_iff]
  intro i _
  cases zb9 (M.vals x) ((s.getD r.toNat .zero).fields.getD i.toNat .zero).number with
  | none=>rfl
  | some v=>rw[zbc,if_pos ((zmD d v v).2 rfl)]
end
section
open Go.RowKit
theorem zry {α:Type}{v:Val α}{r:List (Val α)}{n:Int}:zb9 (v::r) n=if v.num=n then some v else zb9 r n:=by
 unfold zb9
 rw[List.find?_cons]
 by_cases h:v.num=n
 ·
  simp[h]
 ·
  simp[h]
theorem zrz {α:Type}(f:Val α→Nat)(N:List Int):(N.map fun n=>((zb9 ([]:List (Val α)) n).map f).getD 0).sum=0:=by
 induction N with
 | nil=>rfl
 | cons n t ih=>rw[List.map_cons,List.sum_cons,ih];rfl
theorem zly {α:Type}(f:Val α→Nat):∀ (l:List (Val α)) (N:List Int),N.Nodup→(N.map fun n=>((zb9 l n).map f).getD 0).sum≤(l.map f).sum
 | [],N,_=>by rw[zrz];exact Nat.zero_le _
 | v::r,N,h=>by
  have ih:=zly f r N h
  have key:∀ N:List Int,N.Nodup→(N.map fun n=>((zb9 (v::r) n).map f).getD 0).sum≤(if v.num∈N then f v else 0)+(N.map fun n=>((zb9 r n).map f).getD 0).sum:=by
   intro N hN
   induction N with
   | nil=>simp
   | cons n t iht =>
    obtain⟨h1,h2⟩:=List.nodup_cons.1 hN
    have h3:=iht h2
    rw[List.map_cons,List.sum_cons,List.map_cons,List.sum_cons,zry]
    by_cases e:v.num=n
    ·
     subst e
     rw[if_pos rfl,if_pos (by simp)]
     rw[if_neg h1] at h3
     simp only[Option.map_some,Option.getD_some]
     omega
    ·
     rw[if_neg e]
     by_cases m:v.num∈t
     ·
      rw[if_pos m] at h3
      rw[if_pos (List.mem_cons_of_mem _ m)]
      omega
     ·
      rw[if_neg m] at h3
      rw[if_neg (by rw[List.mem_cons,not_or];exact⟨e,m⟩)]
      omega
  have h1:=key N h
  rw[List.map_cons,List.sum_cons]
  split at h1 <;> omega
theorem ziU {α β:Type}(g:α→List β)(a b:α→Nat):∀ l:List α,(∀ x∈l,(g x).length≤a x+b x)→(l.flatMap g).length≤(l.map a).sum+(l.map b).sum
 | [],_=>by simp
 | x::r,h=>by
  have h1:=ziU g a b r fun y hy=>h y (by simp[hy])
  have h2:=h x (by simp)
  rw[List.flatMap_cons,List.length_append,List.map_cons,List.sum_cons,List.map_cons,List.sum_cons]
  omega
theorem znQ {α:Type}(f:α→Nat)(v:Val α):1≤vwt f v:=by unfold vwt;omega
theorem zrA {α:Type}(f:α→Nat){v:Val α}{p:α}{l:List α}(h:v.subs=p::l):f p≤vwt f v:=by
 unfold vwt
 rw[h,List.map_cons,List.sum_cons]
 omega
theorem zdF {s:List Mes}(hs:zaw s=true):∀ (a b:Nat) (r:Int) (x:M a) (y:M b),(zaX s a b r x y).length≤mwt a x+mwt b y
 | 0,_,_,x,_=>x.elim
 | _+1,0,_,_,y=>y.elim
 | a+1,b+1,r,x,y=>by
  rw[zaX]
  have hnd:((zaq (s.getD r.toNat .zero).fields).map fun i=>((s.getD r.toNat .zero).fields.getD i.toNat .zero).number).Nodup:=by
   by_cases hr:r.toNat<s.length
   ·
    have hN:=zbs hs r.toNat hr
    rw[List.nodup_iff_pairwise_ne,List.pairwise_map]
    refine List.Pairwise.imp_of_mem (R:=zck (s.getD r.toNat .zero).fields) ?_ (zbD _ _).2
    intro i j hi hj h
    have h2:((s.getD r.toNat .zero).fields.getD i.toNat .zero).number<((s.getD r.toNat .zero).fields.getD j.toNat .zero).number:=hN.lt (zaH hi) (zaH hj) h
    exact fun e=>by omega
   ·
    have hz:s.getD r.toNat .zero= .zero:=by rw[List.getD_eq_getElem?_getD,List.getElem?_eq_none (by omega)];rfl
    rw[hz]
    exact List.nodup_nil
  have hx:=zly (vwt (mwt a)) (M.vals x) _ hnd
  have hy:=zly (vwt (mwt b)) (M.vals y) _ hnd
  rw[List.map_map] at hx hy
  have hle:=ziU (fun i=>zeE (zaX s a b) (zhD a b) (zbE a b) ((s.getD r.toNat .zero).fields.getD i.toNat .zero) (zb9 (M.vals x) ((s.getD r.toNat .zero).fields.getD i.toNat .zero).number) (zb9 (M.vals y) ((s.getD r.toNat .zero).fields.getD i.toNat .zero).number))
   (fun i=>((zb9 (M.vals x) ((s.getD r.toNat .zero).fields.getD i.toNat .zero).number).map (vwt (mwt a))).getD 0) (fun i=>((zb9 (M.vals y) ((s.getD r.toNat .zero).fields.getD i.toNat .zero).number).map (vwt (mwt b))).getD 0)
   (zaq (s.getD r.toNat .zero).fields) fun i _=>by
    generalize (s.getD r.toNat .zero).fields.getD i.toNat .zero=f
    generalize zb9 (M.vals x) f.number=X
    generalize zb9 (M.vals y) f.number=Y
    match X,Y with
    | none,none=>simp[zeE]
    | none,some u=>have:=znQ (mwt b) u;simp[zeE];omega
    | some v,none=>have:=znQ (mwt a) v;simp[zeE];omega
    | some v,some u =>
     have h1:=znQ (mwt a) v
     rw[zbc]
     simp only[Option.map_some,Option.getD_some]
     split
     ·
      simp
     ·
      split
      ·
       rename_i p l q t hv hu
       have h2:=zrA (mwt a) hv
       have h3:=zrA (mwt b) hu
       have h4:=zdF hs a b f.of p q
       split
       ·
        rw[List.length_map];omega
       ·
        simp;omega
      ·
       simp;omega
  unfold mwt
  have e1:∀ (L:List Int) (g:Int→Int) (h:Int→Nat),L.map (h ∘ g)=L.map fun i=>h (g i):=fun _ _ _=>rfl
  rw[e1] at hx hy
  omega
theorem zh6 {α:Type}(f:α→Nat){v:Val α}{p:α}{l:List α}(h:v.subs=p::l):f p+1≤vwt f v:=by
 unfold vwt
 rw[h,List.map_cons,List.sum_cons]
 omega
theorem zlz {d:Nat}{x:M (d+1)}{v:Val (M d)}(h:v∈M.vals x):vwt (mwt d) v+1≤mwt (d+1) x:=by
 have:=za4 (vwt (mwt d)) (M.vals x) v h
 unfold mwt
 omega
theorem ziV {s:List Mes}:∀ (a b:Nat) (r:Int) (x:M a) (y:M b),∀ w∈zaX s a b r x y,w.length≤mwt a x+mwt b y
 | 0,_,_,x,_=>x.elim
 | _+1,0,_,_,y=>y.elim
 | a+1,b+1,r,x,y=>by
  intro w hw
  have h1:1≤mwt (a+1) x:=by unfold mwt;omega
  rw[zaX] at hw
  obtain⟨i,-,hw⟩:=List.mem_flatMap.1 hw
  generalize (s.getD r.toNat .zero).fields.getD i.toNat .zero=f at hw
  rcases zgH (D:=zaX s a b) (U:=zhD a b) (S:=zbE a b) (f:=f) (a:=zb9 (M.vals x) f.number) (b:=zb9 (M.vals y) f.number) with ⟨e1,e2⟩|⟨v,u,e1,e2,e3⟩|⟨v,u,p,q,l,t,e1,e2,e3,e4,e5,e6,e9⟩|e
  ·
   rw[e1,e2] at hw;cases hw
  ·
   rw[e1,e2,zbc,if_pos e3] at hw;cases hw
  ·
   rw[e9] at hw
   obtain⟨w',hw',rfl⟩:=List.mem_map.1 hw
   have h2:=ziV a b _ p q w' hw'
   have h3:=zh6 (mwt a) e4
   have h4:=zh6 (mwt b) e5
   have h5:=zlz (zbY e1).1
   have h6:=zlz (zbY e2).1
   rw[List.length_cons]
   omega
  ·
   rw[e,List.mem_singleton] at hw
   rw[hw];simp;omega
end
section
open Go.RowKit Go.Maps Go.Sort Go.Shelf
def RU (_:Value):Option (DataW Unit × List MemPlace):=some (.lit (.bool true),[])
theorem zlA {es:List (Int × Value)}:∀ {i:Nat} {x:MapEntry},x∈zc2 zcK es i→∃ p v,(p,v)∈es∧x.key= .int .i64 p∧i≤x.born∧x.born<i+es.length:=by
 induction es with
 | nil=>intro i x h;cases h
 | cons e r ih =>
  obtain⟨p,v⟩:=e
  intro i x h
  rw[zc2] at h
  rcases List.mem_cons.1 h with rfl|h
  ·
   exact⟨p,v,by simp,rfl,Nat.le_refl _,by simp⟩
  ·
   obtain⟨q,u,h1,h2,h3,h4⟩:=ih h
   exact⟨q,u,by simp[h1],h2,by omega,by simp;omega⟩
theorem zrB {es:List (Int × Value)}:∀ i:Nat,((zc2 zcK es i).map (·.born)).Nodup:=by
 induction es with
 | nil=>intro i;simp[zc2]
 | cons e r ih =>
  obtain⟨p,v⟩:=e
  intro i
  rw[zc2,List.map_cons,List.nodup_cons]
  refine⟨fun h=>?_,ih (i+1)⟩
  obtain⟨x,hx,e⟩:=List.mem_map.1 h
  obtain⟨-,-,-,-,h3,-⟩:=zlA hx
  simp only at e
  omega
theorem zrC {es:List (Int × Value)}:∀ i:Nat,(zc2 zcK es i).map (·.key)=(es.map Prod.fst).map zcK:=by
 induction es with
 | nil=>intro i;rfl
 | cons e r ih =>
  obtain⟨p,v⟩:=e
  intro i
  rw[zc2,List.map_cons,ih];rfl
theorem ziW (x:Lit × DataW Unit):∀ l:List (Lit × DataW Unit),(DataW.insert x l).Perm (x::l)
 | []=>List.Perm.refl _
 | y::r=>by
  rw[DataW.insert]
  split
  ·
   exact List.Perm.refl _
  ·
   exact ((ziW x r).cons y).trans (List.Perm.swap x y r)
theorem zhf:∀ l:List (Lit × DataW Unit),(l.foldr DataW.insert []).Perm l
 | []=>List.Perm.refl _
 | x::r=>(ziW x _).trans ((zhf r).cons x)
theorem ztd {p:Int}(h:zcS p):(Lit.int .i64 p).wf=true:=by
 unfold zcS at h
 show (decide (IntKind.i64.min≤p)&&decide (p≤IntKind.i64.max))=true
 rw[Bool.and_eq_true,decide_eq_true_eq,decide_eq_true_eq,(by decide:IntKind.i64.min= -9223372036854775808),(by decide:IntKind.i64.max=9223372036854775807)]
 exact h
theorem zsG {w:World}{r:Nat}{es:List (Int × Value)}(h:zax w r zcK es)(hn:es.length≤1073741824)(hd:(es.map Prod.fst).Nodup)(hsz:∀ p∈es.map Prod.fst,zcS p) :
  ∃ D0:DataW Unit,w.ownsMap Tryz.prog 3 RU r es.length D0∧(intKeys D0).Perm (es.map Prod.fst)∧Maps.size D0=es.length:=by
 refine⟨_,⟨(zc2 zcK es 0).toArray,es.length,h,⟨by simp[zgl];unfold maxLen;omega,⟨fun x hx=>?_,by simpa using zrB 0,?_⟩,fun x hx=>?_⟩,by simp[zgl],rfl⟩,?_,?_⟩
 ·
  obtain⟨-,-,-,-,-,h4⟩:=zlA (by simpa using hx)
  omega
 ·
  show ((zc2 zcK es 0).toArray.toList.map (·.key)).Nodup
  rw[List.toList_toArray,zrC]
  exact List.Pairwise.map _ (fun a b hab e=>hab (by unfold zcK at e;injection e)) hd
 ·
  obtain⟨p,v,h1,h2,-,-⟩:=zlA (i:=0) (by simpa using hx)
  have hp:(Lit.int .i64 p).wf=true:=ztd (hsz p (List.mem_map.2 ⟨_,h1,rfl⟩))
  refine⟨(.int .i64 p,.lit (.bool true)),?_⟩
  unfold Go.WideElems.rd
  rw[h2,keyOf_int_mk Tryz.underlying3 hp]
  rfl
 ·
  have hp:=zhf ((zc2 zcK es 0).toArray.toList.map (Go.WideElems.rg Tryz.prog 3 RU))
  refine (hp.map fun p=>Go.intOf p.1).trans ?_
  rw[List.toList_toArray,List.map_map]
  have:∀ (l:List (Int × Value)) (i:Nat),(∀ p∈l.map Prod.fst,zcS p)→(zc2 zcK l i).map ((fun p=>Go.intOf p.1) ∘ Go.WideElems.rg Tryz.prog 3 RU)=l.map Prod.fst:=by
   intro l
   induction l with
   | nil=>intro i _;rfl
   | cons e r ih =>
    obtain⟨p,v⟩:=e
    intro i hl
    rw[zc2,List.map_cons,ih (i+1) fun q hq=>hl q (by simp at hq ⊢;exact .inr hq),List.map_cons]
    congr 1
    have hp:(Lit.int .i64 p).wf=true:=ztd (hl p (by simp))
    show Go.intOf (Go.WideElems.rg Tryz.prog 3 RU ⟨zcK p,v,i⟩).1=_
    unfold Go.WideElems.rg Go.WideElems.rd
    show Go.intOf (((keyOf Tryz.prog 3 (.int .i64 p)).bind fun key=>(RU v).map fun y=>(key,y.1)).getD (.bool false,.nil)).1=_
    rw[keyOf_int_mk Tryz.underlying3 hp]
    rfl
  rw[this es 0 hsz]
 ·
  show (List.foldr DataW.insert [] _).length=_
  rw[(zhf _).length_eq]
  simp[zgl]
theorem Tryz.sortsA (m:Nat):AnyZI.SortsIn Tryz.prog Tryz.sortedA_ren Fence.wide m:=
 ⟨fun blk off cap ss W hH hblk hsz=>callsIn_wide.2 (AnyM.slices_Sort_int Tryz.sortA blk off cap ss W hH hblk hsz),
  fun p cap W=>callsIn_wide.2 (AnyM.slices_Sort_int_none Tryz.sortA p cap W)⟩
theorem zrD (mb:Option Nat)(W:World):Calls Tryz.prog 66 #[.map mb] W fun e w'=>e= .returned (.func (.func 103) #[] #[.pointer (some ⟨W.heap.size,0,none⟩)])∧w'=W.alloc (.cells #[.map mb] 126):=
 (callsIn_wide (n:=5)).1 (AnyZI.keys_in Tryz.keysA Fence.wide 5 trivial rfl mb W)
theorem znR {w:World}{r:Nat}{es:List (Int × Value)}(h:zax w r zcK es)(hn:es.length≤1073741824)(hd:(es.map Prod.fst).Nodup)(hsz:∀ p∈es.map Prod.fst,zcS p) :
  Calls Tryz.prog 65 #[.func (.func 103) #[] #[.pointer (some ⟨w.heap.size,0,none⟩)]] (w.alloc (.cells #[.map (some r)] 126)) fun e w'=>∃ (v:Value) (ss:List Int),e= .returned v∧ss.Perm (es.map Prod.fst) ∧
   w'.ownsRow (w.heap.size+1) 3 1 v ss.length ((ss.mergeSort (fun x y=>decide (x≤y))).map encZ)∧Below (w.heap.size+1) (w.alloc (.cells #[.map (some r)] 126)) w':=by
 obtain⟨D0,hown,hperm,hsize⟩:=zsG h hn hd hsz
 have hbl:=hown.lt
 have hseq:SeqGives Fence.wide 2 Tryz.prog 103 #[.pointer (some ⟨w.heap.size,0,none⟩)] encZ (fun ss=>ss.Perm (intKeys D0)) (Maps.size D0) (w.alloc (.cells #[.map (some r)] 126)):=
  AnyZI.keys_gives (ρ:=Tryz.keysA_ren) { Tryz.keysA with } Fence.wide _ trivial rfl (by omega) w.heap.size r es.length D0 _ (by simp) (by simp) (by
   obtain⟨es',clock,hb,Ft,hs,hD⟩:=hown
   exact⟨es',clock,(Below.heap_alloc _ _ r hbl).trans hb,Ft,hs,hD⟩)
 have cS:=AnyZI.sorted_in Tryz.sortedA Fence.wide 5 trivial trivial trivial trivial rfl (by omega) (Tryz.sortsA _) (enters_of Tryz.func102 (by kernel_rfl) rfl) 103 #[.pointer (some ⟨w.heap.size,0,none⟩)] trivial (enters_of Tryz.func103 (by kernel_rfl) rfl) _ _ (by rw[hsize];unfold maxLen;omega) (by rw[hsize];omega) _ hseq
 change CallsIn _ _ Tryz.prog 65 _ _ _ at cS
 refine ((callsIn_wide (n:=5)).1 cS).mono ?_
 rintro e w' ⟨v,ss,rfl,hS,hrow,-,hb⟩
 rw[World.size_alloc] at hrow hb
 exact⟨v,ss,rfl,hS.trans hperm,hrow,hb⟩
end
section
open Go.RowKit
def zjt (w:World)(r:List Value)(l:List Int):Prop:=∃ v,r=[v]∧za1 w v l
def zca (w:World)(v:Value)(ls:List (List Int)):Prop:=zcL zjt 1 w v ls
theorem zjt.keep {w w':World}{r:List Value}{l:List Int}(h:zjt w r l)(hk:∀ p u,w.cell? p=some u→w'.cell? p=some u):zjt w' r l:=let ⟨v,h1,h2⟩:=h;⟨v,h1,h2.keep hk⟩
theorem zca.keep {w w':World}{v:Value}{ls:List (List Int)}(h:zca w v ls)(hk:∀ p u,w.cell? p=some u→w'.cell? p=some u):zca w' v ls:=zcL.keep h hk fun _ _ hx=>hx.keep hk
theorem zca.below {w w':World}{v:Value}{ls:List (List Int)}(h:zca w v ls)(hb:Below w.heap.size w w'):zca w' v ls:=h.keep (zaa hb)
theorem zca.open {w:World}{v:Value}{ls:List (List Int)}(h:zca w v ls) :
  ls.length≤140737488355328∧∃ a cap,v= .slice a ls.length cap∧(a=none→cap=0)∧∀ k l,ls[k]?=some l→∃ b o a2 c2,a=some ⟨b,o,none⟩∧w.cell? ⟨b,o+k,none⟩=some (.slice a2 l.length c2)∧za1 w (.slice a2 l.length c2) l:=by
 obtain⟨h1,a,cap,h2,h3,h4⟩:=zcL.open (by decide) h
 refine⟨h1,a,cap,h2,h3,fun k l hl=>?_⟩
 obtain⟨b,o,r,ha,-,hc,v',rfl,hI⟩:=h4 k l hl
 have hI':=hI
 obtain⟨-,a2,c2,rfl,-,-⟩:=hI'.open
 have:=hc 0 _ rfl
 rw[Nat.mul_one,Nat.add_zero] at this
 exact⟨b,o,a2,c2,ha,this,hI⟩
theorem zcE (w:World):(sizeOf 50).run Tryz.prog w= .ok 1 w:=by kernel_rfl
theorem zcW:Tryz.prog.underlying 31=some (.slice 50):=Tryz.underlying31
theorem zfc:(Tryz.prog.info? 50).map (fun i=>(i.zero,i.size,i.bytes))=some (some (.slice none 0 0),1,24):=by kernel_rfl
theorem zga {ls:List (List Int)}{n i:Nat}(hn:n=ls.length)(h:i<n):∃ x,ls[i]?=some x:=⟨_,List.getElem?_eq_getElem (by omega)⟩
theorem zhE {l m:List (List Int)}{i:Nat}{x y:List Int}(hx:l[i]?=some x)(hy:m[i]?=some y):(l.drop i=m.drop i)↔x=y∧l.drop (i+1)=m.drop (i+1):=by
 rw[zdC hx,zdC hy,List.cons.injEq]
theorem zkr {w:World}{v u:Value}{l m:List (List Int)}(h:zca w v l)(hu:zca w u m) :
  Calls Tryz.prog 13 #[v,u] w fun e w'=>e= .returned (.bool (decide (l=m)))∧zfC w w':=by
 obtain⟨hl,a,c,rfl,-,hat⟩:=h.open
 obtain⟨hm,a2,c2,rfl,-,hbt⟩:=hu.open
 obtain⟨n,HN⟩:∃ n,Hid (n=l.length):=⟨_,rfl⟩
 obtain⟨n2,HN2⟩:∃ n,Hid (n=m.length):=⟨_,rfl⟩
 rw[←HN.out] at hl ⊢
 rw[←HN2.out] at hm ⊢
 obtain⟨z,HZ⟩:∃ z,Hid (z=decide (l=m)):=⟨_,rfl⟩
 rw[←HZ.out]
 have HAT:=hid hat
 have HBT:=hid hbt
 clear hat hbt h hu
 by_cases hnn:n=n2
 ·
  subst hnn
  go_enter Tryz.func13,Tryz.ntmps13
  go_wp2_with fail
  go_loopw [5] (fun v5 wr=>∃ i:Nat,v5= .int .i64 i∧i≤n∧Hid (z=decide (l.drop i=m.drop i))∧Hid (zfC w wr)) (fun v5 _=>n - (intOf v5).toNat)
  case atStart=>exact⟨0,rfl,by omega,by rw[Hid,HZ.out];simp,zfC.refl _⟩
  case round =>
   obtain⟨i,rfl,hi,HI,HB⟩:=hrel
   by_cases h1:i<n
   ·
    obtain⟨x,hxi⟩:=zga HN.out h1
    obtain⟨y,hyi⟩:=zga HN2.out h1
    obtain⟨b,o,xa,xc,ha,g0,hX⟩:=HAT.out i x hxi
    obtain⟨b2,o2,ya,yc,ha2,g2,hY⟩:=HBT.out i y hyi
    have HC:=hid (zhE hxi hyi)
    have hix:=zaj Tryz.underlying31 zcE ha i h1 (cap:=c)
    have hix2:=zaj Tryz.underlying31 zcE ha2 i h1 (cap:=c2)
    have HS:=hid fun k=>zjx (hX.keep (w':=wr.drewN k) (HB.out.step k).keeps) (hY.keep (w':=wr.drewN k) (HB.out.step k).keeps)
    replace g0:=HB.out.keeps _ _ g0
    replace g2:=HB.out.keeps _ _ g2
    obtain⟨xn,HXN⟩:∃ xn,Hid (xn=x.length):=⟨_,rfl⟩
    obtain⟨yn,HYN⟩:∃ yn,Hid (yn=y.length):=⟨_,rfl⟩
    rw[←HXN.out] at g0 HS
    rw[←HYN.out] at g2 HS
    clear hxi hyi ha ha2 hX hY
    by_cases hxy:x=y
    ·
     have HC1:Hid (z=decide (l.drop (i+1)=m.drop (i+1))):=by
      rw[Hid,HI.out,decide_eq_decide,HC.out];simp[hxy]
     rw[show decide (x=y)=true from decide_eq_true hxy] at HS
     have HXY:=hid hxy
     clear hxy
     go_wp2_with fail
     go_quiet ((go_at_call 36;exact zfC.quiet (HS.out _)))
     go_wp2_with fail
     go_roundw
     case rel=>exact⟨i+1,by go_num,h1,HC1.out,HB.out.step _⟩
     case measure=>simp[intOf];omega
    ·
     have HC1:Hid (z=false):=by
      rw[Hid,HI.out,decide_eq_false_iff_not,HC.out];simp[hxy]
     rw[show decide (x=y)=false from decide_eq_false hxy] at HS
     have HXY:=hid hxy
     clear hxy
     go_wp2_with fail
     go_quiet ((go_at_call 36;exact zfC.quiet (HS.out _)))
     go_wp2_with fail
     go_ret
     exact⟨by rw[HC1.out];first|done|rfl,HB.out.step _⟩
   ·
    obtain rfl:i=n:=by omega
    have HC1:Hid (z=true):=by
     rw[Hid,HI.out,List.drop_eq_nil_of_le (by rw[←HN.out];omega),List.drop_eq_nil_of_le (by rw[←HN2.out];omega)];simp
    go_wp2_with fail
    go_ret
    exact⟨by rw[HC1.out];first|done|rfl,HB.out⟩
 ·
  have HC1:Hid (z=false):=by
   rw[Hid,HZ.out,decide_eq_false_iff_not];rintro rfl;exact hnn (by rw[HN.out,HN2.out])
  have e1:decide ((n:Int)=n2)=false:=decide_eq_false (by omega)
  have e2:((n:Int) == n2)=false:=by simp;omega
  have e3:(n == n2)=false:=by simp;omega
  clear hnn
  go_enter Tryz.func13,Tryz.ntmps13
  go_wp2_with fail
  go_ret
  exact⟨by rw[HC1.out];first|done|rfl,zfC.refl _⟩
end
section
open Go.RowKit
def zbF (v:Value):Value:=.agg #[v]
end
section
open Go.RowKit
def zhg (w:World)(base:Nat)(v:Value)(vs:List Value):Prop:=w.ownsRow base 50 1 v vs.length vs
theorem zpS {w:World}{v:Value}{vs:List Value}(h:Seg w v 1 vs.length vs)(h1:∀ u∈vs,u.oneCell'=true)(hl:vs.length≤1099511627776) :
  Calls Tryz.prog 59 #[v] w fun e w'=>∃ v',e= .returned v'∧zhg w' w.heap.size v' vs∧Below w.heap.size w w':=by
 have H:=hid h
 obtain⟨-,-,a,cap,rfl,-,-,hnil,-⟩:=h
 obtain⟨n,HN⟩:∃ n,Hid (n=vs.length):=⟨_,rfl⟩
 rw[←HN.out] at hl H ⊢
 cases a with
 | none =>
  have:=hnil rfl
  have HE:Hid (vs=[]):=List.eq_nil_of_length_eq_zero (by have:=HN.out;obtain⟨-,-,a',c',e,h1,-⟩:=H.out;cases e;omega)
  clear hl
  go_enter Tryz.func59,Tryz.ntmps59
  have eqn:=fun W a n c n' c'=>Lib.run_eql_slice_nil (P:=Tryz.prog) W 31 _ a n c n' c' zcW
  go_wp2
  go_ret
  refine⟨_,rfl,?_,Below.refl _ _⟩
  rw[HE.out]
  exact World.ownsRow_nil _ _ _ _
 | some ad =>
  have hO:zhg (w.alloc (.cells #[] 50)) w.heap.size (.slice (some ⟨w.heap.size,0,none⟩) 0 0) []:=by
   exact World.ownsRow_made (base:=w.heap.size) (e:=50) (size:=1) w #[] 0 (Nat.le_refl _) (by unfold maxLen;omega) rfl
  obtain⟨v',w',hr,hO',hg,-⟩:=zba (P:=Tryz.prog) _ w.heap.size 31 31 50 (.slice none 0 0) 1 24 zcW zfc rfl (by decide) _ _ _ n _ _ hO (H.out.below ((Below.refl _ _).alloc (Nat.le_refl _) _))
   h1 (by simp;omega) (by simp;omega) (by simp)
  have hg':Below w.heap.size w w':=((Below.refl w.heap.size w).alloc (Nat.le_refl _) (.cells #[] 50)).grown hg (by simp) (by intro q e;simp[Value.ownBlock] at e;omega)
  have HO:Hid (zhg w' w.heap.size v' vs):=by
   unfold Hid zhg;rw[←HN.out];simpa using hO'
  have HG:=hid hg'
  clear hO' hg' hg hO h1
  go_enter Tryz.func59,Tryz.ntmps59
  have eqn:=fun W a n c n' c'=>Lib.run_eql_slice_nil (P:=Tryz.prog) W 31 _ a n c n' c' zcW
  go_wp2_with (at_builtin;refine zad rfl _ _ _ rfl _ _ rfl rfl hr ?_)
  go_ret
  exact⟨_,rfl,HO.out,HG.out⟩
end
end Go.Proofs.YtpckoeicbjfnhaaGreatDoor
