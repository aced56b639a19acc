/- Parts of a proof: texts of the author, merged. No condition of their own. -/
import Derived.Test.YtpckoeicbjfnhaaGreatDoorY07
import Derived.Test.YtpckoeicbjfnhaaGreatDoorY13
import Derived.Test.YtpckoeicbjfnhaaGreatDoorY15
import Derived.Test.YtpckoeicbjfnhaaGreatDoorY17
import Derived.Test.YtpckoeicbjfnhaaGreatDoorY29
import Derived.Test.YtpckoeicbjfnhaaGreatDoorY30
namespace Go.Proofs.YtpckoeicbjfnhaaGreatDoor
set_option maxRecDepth 100000
set_option maxHeartbeats 16000000
section
open Go.RowKit
def zb9 {α:Type}(l:List (Val α))(n:Int):Option (Val α):=l.find? fun v=>decide (v.num=n)
theorem zbY {α:Type}{l:List (Val α)}{n:Int}{v:Val α}(h:zb9 l n=some v):v∈l∧v.num=n:=by
 unfold zb9 at h
 have h2:=List.find?_some h
 exact⟨List.mem_of_find?_eq_some h,by simpa using h2⟩
theorem zmC {α:Type}{l:List (Val α)}{n:Int}(h:zb9 l n=none):∀ v∈l,v.num≠n:=fun v hv e=>by
 have:=List.find?_eq_none.1 h v hv
 simp[e] at this
theorem zlt {α:Type}{l:List (Val α)}(hr:l.Pairwise fun a b=>a.num<b.num){v:Val α}(hv:v∈l):zb9 l v.num=some v:=by
 induction l with
 | nil=>cases hv
 | cons x r ih =>
  obtain⟨h1,h2⟩:=List.pairwise_cons.1 hr
  unfold zb9
  rw[List.find?_cons]
  rcases List.mem_cons.1 hv with rfl|hv
  ·
   simp
  ·
   have hne:¬ x.num=v.num:=by have:=h1 v hv;omega
   simp only[hne,decide_false]
   exact ih h2 hv
theorem zoO {α:Type}:∀ {a b:List (Val α)},a.Pairwise (fun x y=>x.num<y.num)→b.Pairwise (fun x y=>x.num<y.num)→(∀ v,v∈a↔v∈b)→a=b
 | [],[],_,_,_=>rfl
 | [],y::b,_,_,h=>absurd ((h y).2 (by simp)) (by simp)
 | x::a,[],_,_,h=>absurd ((h x).1 (by simp)) (by simp)
 | x::a,y::b,ha,hb,h=>by
  obtain⟨a1,a2⟩:=List.pairwise_cons.1 ha
  obtain⟨b1,b2⟩:=List.pairwise_cons.1 hb
  have hxy:x=y:=by
   rcases List.mem_cons.1 ((h x).1 (by simp)) with h1|h1
   ·
    exact h1
   ·
    rcases List.mem_cons.1 ((h y).2 (by simp)) with h2|h2
    ·
     exact h2.symm
    ·
     have:=a1 y h2
     have:=b1 x h1
     omega
  subst hxy
  congr 1
  refine zoO a2 b2 fun v=>?_
  constructor
  ·
   intro hv
   rcases List.mem_cons.1 ((h v).1 (by simp[hv])) with h1|h1
   ·
    subst h1;have:=a1 v hv;omega
   ·
    exact h1
  ·
   intro hv
   rcases List.mem_cons.1 ((h v).2 (by simp[hv])) with h1|h1
   ·
    subst h1;have:=b1 v hv;omega
   ·
    exact h1
def zeE {α β:Type}(D:Int→α→β→List (List Int))(U S:α→β→Bool)(f:Fld):Option (Val α)→Option (Val β)→List (List Int)
 | none,none=>[]
 | some v,some u=>if zcm S v u=true then [] else
   match v.subs,u.subs with
   | p::_,q::_=>if f.kind=17∧f.rep=false∧U p q=true then (D f.of p q).map (f.number :: ·) else [[f.number]]
   | _,_=>[[f.number]]
 | _,_=>[[f.number]]
def zhD:(a b:Nat)→M a→M b→Bool
 | 0,_,x,_=>Empty.elim x
 | _+1,0,_,y=>Empty.elim y
 | _+1,_+1,x,y=>decide (M.unk x=M.unk y)
def zaX (s:List Mes):(a b:Nat)→Int→M a→M b→List (List Int)
 | 0,_,_,x,_=>Empty.elim x
 | _+1,0,_,_,y=>Empty.elim y
 | a+1,b+1,r,x,y=>(zaq (s.getD r.toNat .zero).fields).flatMap fun i =>
   zeE (zaX s a b) (zhD a b) (zbE a b) ((s.getD r.toNat .zero).fields.getD i.toNat .zero) (zb9 (M.vals x) ((s.getD r.toNat .zero).fields.getD i.toNat .zero).number) (zb9 (M.vals y) ((s.getD r.toNat .zero).fields.getD i.toNat .zero).number)
theorem zgG {α:Type}{S:α→α→Bool}(h:∀ x,S x x=true):∀ l:List α,zej S l l=true
 | []=>rfl
 | x::r=>by unfold zej;rw[h x,zgG h r];rfl
theorem zkj:∀ (d:Nat) (x:M d),zbE d d x x=true
 | 0,x=>x.elim
 | d+1,x=>by
  unfold zbE
  rw[decide_eq_true rfl,Bool.true_and]
  refine zgG (fun v=>?_) _
  unfold zcm
  rw[decide_eq_true ⟨rfl,rfl,rfl⟩,Bool.true_and]
  exact zgG (zkj d) _
theorem zlu {α:Type}{S:α→α→Bool}(h:∀ x y,S x y=true→x=y):∀ {a b:List α},zej S a b=true→a=b
 | [],[],_=>rfl
 | [],_::_,h2=>by simp[zej] at h2
 | _::_,[],h2=>by simp[zej] at h2
 | x::r,y::t,h2=>by
  unfold zej at h2
  rw[Bool.and_eq_true] at h2
  rw[h x y h2.1,zlu h h2.2]
theorem ziN {α:Type}{S:α→α→Bool}(h:∀ x y,S x y=true→x=y){u v:Val α}(hs:zcm S u v=true):u=v:=by
 unfold zcm at hs
 rw[Bool.and_eq_true] at hs
 obtain⟨e1,e2,e3⟩:u.num=v.num∧u.words=v.words∧u.texts=v.texts:=of_decide_eq_true hs.1
 have e4:=zlu h hs.2
 cases u;cases v
 simp only at e1 e2 e3 e4
 rw[e1,e2,e3,e4]
theorem ziO:∀ (d:Nat) (x y:M d),zbE d d x y=true→x=y
 | 0,x,_,_=>x.elim
 | d+1,x,y,h=>by
  unfold zbE at h
  rw[Bool.and_eq_true] at h
  have h1:M.unk x=M.unk y:=of_decide_eq_true h.1
  have h2:=zlu (S:=zcm (zbE d d)) (fun u v hs=>ziN (ziO d) hs) h.2
  show (⟨M.vals x,M.unk x⟩:zsa (M d))=⟨M.vals y,M.unk y⟩
  rw[h1,h2]
theorem zmD (d:Nat)(u v:Val (M d)):zcm (zbE d d) u v=true↔u=v:=by
 refine⟨ziN (ziO d),fun h=>?_⟩
 subst h
 unfold zcm
 rw[decide_eq_true ⟨rfl,rfl,rfl⟩,Bool.true_and]
 exact zgG (zkj d) _
theorem zbH {s:List Mes}{d:Nat}{r:Int}{x:M (d+1)}(h:zav s (d+1) r x=true):zmx (zcB (zav s d)) (s.getD r.toNat .zero).fields (M.vals x):=by
 rw[zav] at h
 split at h
 ·
  exact absurd h (by decide)
 ·
  rw[Bool.and_eq_true] at h
  exact (zfb h.1).1
theorem zh4 {α:Type}{R:Int→α→Bool}{f:Fld}{v:Val α}(h:zcB R f v=true)(h17:f.kind=17)(hr:f.rep=false):v.words=[]∧v.texts=[]∧∃ p,v.subs=[p]∧R f.of p=true:=by
 unfold zcB at h
 have hk:¬ zac f.kind=true:=by rw[h17];decide
 split at h
 ·
  cases h
 ·
  rename_i hn
  rw[Bool.and_eq_true] at h
  obtain⟨h1,h2⟩:=h
  have h1:=of_decide_eq_true h1
  have hw:=List.length_eq_zero_iff.1 h1.1
  have ht:=List.length_eq_zero_iff.1 h1.2
  refine⟨hw,ht,?_⟩
  rw[not_or] at hn
  obtain⟨n1,n2⟩:=hn
  have hl:v.subs.length=1:=by
   rw[h1.1,h1.2] at n1 n2
   have:¬ (1<0+0+v.subs.length):=fun h=>n2 ⟨h,hr⟩
   omega
  match hs:v.subs,hl with
  | [p],_ =>
   rw[hs] at h2
   exact⟨p,rfl,by simpa using h2⟩
theorem zbc {α β:Type}(D:Int→α→β→List (List Int))(U S:α→β→Bool)(f:Fld)(v:Val α)(u:Val β):zeE D U S f (some v) (some u)=if zcm S v u=true then [] else
   match v.subs,u.subs with
   | p::_,q::_=>if f.kind=17∧f.rep=false∧U p q=true then (D f.of p q).map (f.number :: ·) else [[f.number]]
   | _,_=>[[f.number]]:=rfl
theorem zgH {α β:Type}{D:Int→α→β→List (List Int)}{U S:α→β→Bool}{f:Fld}{a:Option (Val α)}{b:Option (Val β)} :
  (a=none∧b=none)∨(∃ v u,a=some v∧b=some u∧zcm S v u=true)∨(∃ v u p q l t,a=some v∧b=some u∧¬ zcm S v u=true∧v.subs=p::l∧u.subs=q::t∧(f.kind=17∧f.rep=false∧U p q=true)∧zeE D U S f a b=(D f.of p q).map (f.number :: ·))∨zeE D U S f a b=[[f.number]]:=by
 match a,b with
 | none,none=>exact .inl ⟨rfl,rfl⟩
 | none,some u=>exact .inr (.inr (.inr rfl))
 | some v,none=>exact .inr (.inr (.inr rfl))
 | some v,some u =>
  by_cases hs:zcm S v u=true
  ·
   exact .inr (.inl ⟨v,u,rfl,rfl,hs⟩)
  ·
   rw[zbc,if_neg hs]
   match hv:v.subs,hu:u.subs with
   | [],_=>exact .inr (.inr (.inr rfl))
   | _::_,[]=>exact .inr (.inr (.inr rfl))
   | p::l,q::t =>
    by_cases hc:f.kind=17∧f.rep=false∧U p q=true
    ·
     simp only
     rw[if_pos hc]
     exact .inr (.inr (.inl ⟨v,u,p,q,l,t,rfl,rfl,hs,hv,hu,hc,rfl⟩))
    ·
     simp only
     rw[if_neg hc]
     exact .inr (.inr (.inr rfl))
theorem ziP {fs:List Fld}{x:Int}(h:0≤x∧x<fs.length):x∈zaq fs:=(zbD fs _).1.mem_iff.2 (zeu.2 h)
theorem znN {α:Type}{R:Int→α→Bool}{f:Fld}{v u:Val α}{p q:α}{l t:List α}(hv:zcB R f v=true)(hu:zcB R f u=true)(h17:f.kind=17)(hr:f.rep=false)(hn:v.num=u.num)(hvs:v.subs=p::l)(hus:u.subs=q::t) :
  v.subs=[p]∧u.subs=[q]∧R f.of p=true∧R f.of q=true∧(p=q→v=u):=by
 obtain⟨w1,t1,p',s1,r1⟩:=zh4 hv h17 hr
 obtain⟨w2,t2,q',s2,r2⟩:=zh4 hu h17 hr
 rw[s1] at hvs
 rw[s2] at hus
 obtain⟨rfl,rfl⟩:=List.cons.inj hvs
 obtain⟨rfl,rfl⟩:=List.cons.inj hus
 refine⟨s1,s2,r1,r2,fun e=>?_⟩
 subst e
 cases v;cases u
 simp only at hn w1 t1 s1 w2 t2 s2
 rw[hn,w1,t1,s1,w2,t2,s2]
def znO (s:List Mes):Prop:=∀ (r:Int) (i j:Int),0≤r∧r<s.length→(0≤i∧i<(s.getD r.toNat .zero).fields.length)→(0≤j∧j<(s.getD r.toNat .zero).fields.length) →
 ((s.getD r.toNat .zero).fields.getD i.toNat .zero).number=((s.getD r.toNat .zero).fields.getD j.toNat .zero).number→i=j
theorem zh5 {s:List Mes}(hN:znO s){d:Nat}{r:Int}(hr:0≤r∧r<s.length){x:M (d+1)}(h:zav s (d+1) r x=true){i:Int}(hi:0≤i∧i<(s.getD r.toNat .zero).fields.length){v:Val (M d)}
  (hg:zb9 (M.vals x) ((s.getD r.toNat .zero).fields.getD i.toNat .zero).number=some v):zcB (zav s d) ((s.getD r.toNat .zero).fields.getD i.toNat .zero) v=true:=by
 obtain⟨hm,hn⟩:=zbY hg
 obtain⟨h1,h2,h3,h4⟩:=(zbH h).at' v hm
 have:qOf (s.getD r.toNat .zero).fields v=i:=hN r _ _ hr ⟨h1,h2⟩ hi (by rw[h3,hn])
 rw[this] at h4
 exact h4
theorem zhd {s:List Mes}{r:Int}:∀ {d:Nat} {x:M d},zav s d r x=true→0≤r∧r<s.length
 | 0,x,_=>x.elim
 | d+1,x,h=>by
  rw[zav] at h
  split at h
  ·
   exact absurd h (by decide)
  ·
   omega
theorem zoP {s:List Mes}(hN:znO s):∀ (d:Nat) (r:Int) (x y:M d),zav s d r x=true→zav s d r y=true→zhD d d x y=true→zaX s d d r x y=[]→x=y
 | 0,_,x,_,_,_,_,_=>x.elim
 | d+1,r,x,y,hx,hy,hu,hd=>by
  have hroot:=zhd hx
  have hu':M.unk x=M.unk y:=of_decide_eq_true hu
  rw[zaX,List.flatMap_eq_nil_iff] at hd
  have hX:=zbH hx
  have hY:=zbH hy
  have key:∀ i:Int,(0≤i∧i<(s.getD r.toNat .zero).fields.length)→zb9 (M.vals x) ((s.getD r.toNat .zero).fields.getD i.toNat .zero).number=zb9 (M.vals y) ((s.getD r.toNat .zero).fields.getD i.toNat .zero).number:=fun i hi=>by
   have h:=hd i (ziP hi)
   rcases zgH (D:=zaX s d d) (U:=zhD d d) (S:=zbE d d) (f:=(s.getD r.toNat .zero).fields.getD i.toNat .zero) (a:=zb9 (M.vals x) ((s.getD r.toNat .zero).fields.getD i.toNat .zero).number) (b:=zb9 (M.vals y) ((s.getD r.toNat .zero).fields.getD i.toNat .zero).number) with ⟨e1,e2⟩|⟨v,u,e1,e2,e3⟩|⟨v,u,p,q,l,t,e1,e2,e3,e4,e5,⟨e6,e7,e8⟩,e9⟩|e
   ·
    rw[e1,e2]
   ·
    rw[e1,e2,ziN (ziO d) e3]
   ·
    exfalso
    obtain⟨-,-,r1,r2,hpq⟩:=znN (zh5 hN hroot hx hi e1) (zh5 hN hroot hy hi e2) e6 e7 (by rw[(zbY e1).2,(zbY e2).2]) e4 e5
    rw[h] at e9
    have hnil:zaX s d d ((s.getD r.toNat .zero).fields.getD i.toNat .zero).of p q=[]:=List.map_eq_nil_iff.1 e9.symm
    exact e3 ((zmD d v u).2 (hpq (zoP hN d _ p q r1 r2 e8 hnil)))
   ·
    rw[e] at h;cases h
  have hvals:M.vals x=M.vals y:=by
   refine zoO hX.rise hY.rise fun v=>?_
   constructor
   ·
    intro hv
    obtain⟨h1,h2,h3,-⟩:=hX.at' v hv
    have:=key _ ⟨h1,h2⟩
    rw[h3,zlt hX.rise hv] at this
    exact (zbY this.symm).1
   ·
    intro hv
    obtain⟨h1,h2,h3,-⟩:=hY.at' v hv
    have:=key _ ⟨h1,h2⟩
    rw[h3,zlt hY.rise hv] at this
    exact (zbY this).1
  show (⟨M.vals x,M.unk x⟩:zsa (M d))=⟨M.vals y,M.unk y⟩
  rw[hvals,hu']
theorem zoQ:∀ (d:Nat) (x y:M (d+1)),zhD (d+1) (d+1) x y=true↔M.unk x=M.unk y:=fun d x y=>by unfold zhD;rw[decide_eq_true_iff]
theorem znP {s:List Mes}(hs:zaw s=true):znO s:=fun r i j hr hi hj h=>by
 have hN:=zbs hs r.toNat (by omega)
 rcases Int.lt_trichotomy i j with hlt|heq|hgt
 ·
  exact absurd h (hN.ne (by omega) (by omega))
 ·
  exact heq
 ·
  exact absurd h.symm (hN.ne (by omega) (by omega))
theorem zfN {α β:Type}{l:List α}{f g:α→List β}(h:∀ a∈l,f a=g a):l.flatMap f=l.flatMap g:=by
 induction l with
 | nil=>rfl
 | cons x r ih=>rw[List.flatMap_cons,List.flatMap_cons,h x (by simp),ih fun y hy=>h y (by simp[hy])]
theorem zfO {α β:Type}(p:α→Bool)(g:α→List β):∀ (l:List α),(∀ x∈l,p x=false→g x=[])→l.flatMap g=(l.filter p).flatMap g
 | [],_=>rfl
 | x::r,h=>by
  have ih:=zfO p g r fun y hy=>h y (by simp[hy])
  rw[List.flatMap_cons]
  cases hp:p x with
  | true=>rw[List.filter_cons_of_pos hp,List.flatMap_cons,ih]
  | false=>rw[List.filter_cons_of_neg (by simp[hp]),h x (by simp) hp,List.nil_append,ih]
theorem zrs {s:List Mes}(hs:zaw s=true){a b:Nat}{r:Int}(hr:0≤r∧r<s.length){x:M (a+1)}{y:M (b+1)}(hx:zav s (a+1) r x=true)(hy:zav s (b+1) r y=true){K:List Int}
  (hK:K.Pairwise (· < ·)) (hm:∀ n,n∈K↔(∃ v∈M.vals x,v.num=n)∨∃ v∈M.vals y,v.num=n) :
  zaX s (a+1) (b+1) r x y=K.flatMap fun n=>zeE (zaX s a b) (zhD a b) (zbE a b) ((s.getD r.toNat .zero).fields.getD (zae (s.getD r.toNat .zero).fields n).toNat .zero) (zb9 (M.vals x) n) (zb9 (M.vals y) n):=by
 have hN:=zbs hs r.toNat (by omega)
 obtain⟨fs,hfs⟩:∃ fs,fs=(s.getD r.toNat .zero).fields:=⟨_,rfl⟩
 have hX:=zbH hx
 have hY:=zbH hy
 rw[←hfs] at hN hX hY
 rw[zaX,←hfs]
 have hnone:∀ {d:Nat} {l:List (Val (M d))} {n:Int},(¬ ∃ v∈l,v.num=n)→zb9 l n=none:=fun {d l n} h=>by
  cases hg:zb9 l n with
  | none=>rfl
  | some v=>obtain⟨h1,h2⟩:=zbY hg;exact absurd ⟨v,h1,h2⟩ h
 rw[zfO (fun i=>decide ((fs.getD i.toNat .zero).number∈K)) _ (zaq fs) fun i _ hp=>by
  have hp:¬ (fs.getD i.toNat .zero).number∈K:=of_decide_eq_false hp
  rw[hm,not_or] at hp
  rw[hnone hp.1,hnone hp.2]
  rfl]
 have hKe:K=((zaq fs).filter fun i=>decide ((fs.getD i.toNat .zero).number∈K)).map fun i=>(fs.getD i.toNat .zero).number:=by
  have hsort:(((zaq fs).filter fun i=>decide ((fs.getD i.toNat .zero).number∈K)).map fun i=>(fs.getD i.toNat .zero).number).Pairwise (· < ·):=by
   rw[List.pairwise_map]
   refine List.Pairwise.imp_of_mem (R:=zck fs) ?_ ((zbD fs _).2.filter _)
   intro i j hi hj h
   exact hN.lt (zaH (List.mem_filter.1 hi).1) (zaH (List.mem_filter.1 hj).1) h
  have hnd:∀ {l:List Int},l.Pairwise (· < ·)→l.Nodup:=fun h=>h.imp fun h=>by omega
  refine zg2 (R:=(· < ·)) (fun a b h1 h2=>by omega) hK hsort ((List.perm_ext_iff_of_nodup (hnd hK) (hnd hsort)).2 fun n=>?_)
  constructor
  ·
   intro hn
   have hq:∃ q:Int,(0≤q∧q<fs.length)∧(fs.getD q.toNat .zero).number=n:=by
    rcases (hm n).1 hn with ⟨v,hv,e⟩|⟨v,hv,e⟩
    ·
     obtain⟨h1,h2,h3,-⟩:=hX.at' v hv
     exact⟨_,⟨h1,h2⟩,by rw[h3,e]⟩
    ·
     obtain⟨h1,h2,h3,-⟩:=hY.at' v hv
     exact⟨_,⟨h1,h2⟩,by rw[h3,e]⟩
   obtain⟨q,hq1,hq2⟩:=hq
   exact List.mem_map.2 ⟨q,List.mem_filter.2 ⟨ziP hq1,by rw[hq2];exact decide_eq_true hn⟩,hq2⟩
  ·
   intro hn
   obtain⟨q,hq,rfl⟩:=List.mem_map.1 hn
   exact of_decide_eq_true (List.mem_filter.1 hq).2
 conv=>rhs;rw[hKe]
 rw[List.flatMap_map]
 refine zfN fun i hi=>?_
 have hir:=zaH (List.mem_filter.1 hi).1
 have:zae fs (fs.getD i.toNat .zero).number=i:=by rw[hN.at (by omega)];omega
 rw[this]
end
section
open Go.RowKit
theorem zkk {s:List Mes}:∀ (a b:Nat) (r:Int) (x:M a) (y:M b),∀ w∈zaX s a b r x y,w.length≤a
 | 0,_,_,x,_=>x.elim
 | _+1,0,_,_,y=>y.elim
 | a+1,b+1,r,x,y=>by
  intro w hw
  rw[zaX] at hw
  obtain⟨i,-,hw⟩:=List.mem_flatMap.1 hw
  rcases zgH (D:=zaX s a b) (U:=zhD a b) (S:=zbE a b) (f:=(s.getD r.toNat .zero).fields.getD i.toNat .zero) (a:=zb9 (M.vals x) ((s.getD r.toNat .zero).fields.getD i.toNat .zero).number) (b:=zb9 (M.vals y) ((s.getD r.toNat .zero).fields.getD i.toNat .zero).number) with ⟨e1,e2⟩|⟨v,u,e1,e2,e3⟩|⟨v,u,p,q,l,t,e1,e2,e3,e4,e5,e6,e9⟩|e
  ·
   rw[e1,e2] at hw;cases hw
  ·
   rw[e1,e2,zbc,if_pos e3] at hw;cases hw
  ·
   rw[e9] at hw
   obtain⟨w',hw',rfl⟩:=List.mem_map.1 hw
   have:=zkk a b _ p q w' hw'
   simp;omega
  ·
   rw[e,List.mem_singleton] at hw
   rw[hw];simp
theorem zmE {α β:Type}(g:α→List β)(l:List α)(k:Nat):((l.take k).flatMap g).length≤(l.flatMap g).length:=by
 conv=>rhs;rw[←List.take_append_drop k l,List.flatMap_append,List.length_append]
 omega
theorem zkl {s:List Mes}(hs:zaw s=true){d:Nat}{r:Int}{x:M (d+1)}(hx:zav s (d+1) r x=true):∀ v∈M.vals x,1≤v.num∧v.num≤536870911:=by
 intro v hv
 have hroot:=zhd hx
 obtain⟨h1,h2,h3,-⟩:=(zbH hx).at' v hv
 rw[←h3]
 have:=of_decide_eq_true (zcl hs r.toNat (by omega) (qOf (s.getD r.toNat .zero).fields v).toNat (by omega)).2
 rw[List.getD_eq_getElem?_getD] at this ⊢
 exact⟨this.1,this.2.1⟩
theorem ztb {α:Type}{l:List (Val α)}(hr:l.Pairwise fun a b=>a.num<b.num){b o:Nat}{n:Int} :
  (pt l b o l.length n=none∧zb9 l n=none)∨∃ i v,l[i]?=some v∧v.num=n∧pt l b o l.length n=some ⟨b,o+i*4,none⟩∧zb9 l n=some v:=by
 cases hp:pt l b o l.length n with
 | none =>
  have h1:=(zlp (Nat.le_refl _)).1 hp
  rw[List.take_length] at h1
  refine .inl ⟨rfl,?_⟩
  cases hg:zb9 l n with
  | none=>rfl
  | some v=>obtain⟨h2,h3⟩:=zbY hg;exact absurd h3 (h1 v h2)
 | some p =>
  obtain⟨i,v,-,h2,h3,rfl⟩:=zrl (Nat.le_refl _) hp
  refine .inr ⟨i,v,h2,h3,rfl,?_⟩
  rw[←h3]
  exact zlt hr (List.mem_of_getElem? h2)
end
section
open Go.RowKit
theorem ziQ {w:World}{v u:Value}{l m:List (List UInt8)}(h:zbe w v l)(hu:zbe w u m) :
  Calls Tryz.prog 32 #[v,u] w fun e w'=>e= .returned (.bool (decide (l=m)))∧zfC w w':=by
 obtain⟨-,a,c,rfl,-,hat⟩:=h.open
 obtain⟨-,a2,c2,rfl,-,hbt⟩:=hu.open
 obtain⟨n,HN⟩:∃ n,Hid (n=l.length):=⟨_,rfl⟩
 obtain⟨n2,HN2⟩:∃ n,Hid (n=m.length):=⟨_,rfl⟩
 have hlen:n≤140737488355328:=by rw[HN.out];exact h.open.1
 have hlen2:n2≤140737488355328:=by rw[HN2.out];exact hu.open.1
 rw[←HN.out,←HN2.out]
 obtain⟨z,HZ⟩:∃ z,Hid (z=decide (l=m)):=⟨_,rfl⟩
 rw[←HZ.out]
 have HAT:=hid hat
 have HBT:=hid hbt
 clear hat hbt h hu
 by_cases hnn:n=n2
 ·
  subst hnn
  go_enter Tryz.func32,Tryz.ntmps32
  go_wp2_with fail
  go_loopw [13] (fun v8 wr=>∃ k:Nat,k≤n∧v8= .int .i64 k∧Hid (decide (l.drop k=m.drop k)=z)∧(∃ kw,wr=w.drewN kw)) (fun v8 _=>n - (intOf v8).toNat)
  case atStart=>exact⟨0,by omega,rfl,by rw[HZ.out];rfl,0,rfl⟩
  case round =>
   obtain⟨k,hk,rfl,HK,kw,rfl⟩:=hrel
   by_cases hlt:k<n
   ·
    have hat:=HAT.out
    have hbt:=HBT.out
    have hxi:l[k]?=some (l[k]'(by rw[←HN.out];exact hlt)):=List.getElem?_eq_getElem _
    generalize l[k]'(by rw[←HN.out];exact hlt)=x at hxi
    have hyi:m[k]?=some (m[k]'(by rw[←HN2.out];exact hlt)):=List.getElem?_eq_getElem _
    generalize m[k]'(by rw[←HN2.out];exact hlt)=y at hyi
    obtain⟨-,b,o,ha,g0⟩:=hat k x hxi
    obtain⟨-,b2,o2,ha2,g02⟩:=hbt k y hyi
    clear hat hbt
    unfold zb3 at g0 g02
    have HST:=hid (zrr l m k x y hxi hyi)
    have hix:=zaj Tryz.underlying25 zkX ha k hlt (cap:=c)
    have hix2:=zaj Tryz.underlying25 zkX ha2 k hlt (cap:=c2)
    clear ha ha2 hxi hyi
    by_cases hp:x=y
    ·
     have HK2:Hid (decide (l.drop (k+1)=m.drop (k+1))=z):=by rw[Hid,←HK.out,HST.out,decide_eq_true hp];rfl
     have hb1:((⟨x.toArray⟩:ByteArray).toList == (⟨y.toArray⟩:ByteArray).toList)=true:=by rw[zmB];simpa using hp
     have hb2:((⟨x.toArray⟩:ByteArray).toList != (⟨y.toArray⟩:ByteArray).toList)=false:=by rw[bne,hb1];rfl
     generalize (⟨x.toArray⟩:ByteArray)=X at *
     generalize (⟨y.toArray⟩:ByteArray)=Y at *
     clear hp HST HK
     go_wp2_with fail
     go_quiet (fail)
     go_wp2_with fail
     go_roundw
     case rel=>exact⟨k+1,by omega,by go_num,HK2,_,rfl⟩
     case measure=>simp[intOf];omega
    ·
     have hz:z=false:=by rw[←HK.out,HST.out,decide_eq_false hp];rfl
     subst hz
     have hb1:((⟨x.toArray⟩:ByteArray).toList == (⟨y.toArray⟩:ByteArray).toList)=false:=by rw[zmB];simpa using hp
     have hb2:((⟨x.toArray⟩:ByteArray).toList != (⟨y.toArray⟩:ByteArray).toList)=true:=by rw[bne,hb1];rfl
     generalize (⟨x.toArray⟩:ByteArray)=X at *
     generalize (⟨y.toArray⟩:ByteArray)=Y at *
     clear hp HST HK
     go_wp2_with fail
     go_quiet (fail)
     go_wp2_with fail
     go_ret
     exact⟨rfl,_,World.drewN_drewN _ _ _⟩
   ·
    have hz:z=true:=by
     rw[←HK.out,List.drop_of_length_le (by rw[←HN.out];omega),List.drop_of_length_le (by rw[←HN2.out];omega)];rfl
    subst hz
    go_wp2_with fail
    go_ret
    exact⟨rfl,_,rfl⟩
 ·
  have hz:z=false:=by
   rw[HZ.out]
   refine decide_eq_false ?_
   rintro rfl
   exact hnn (HN.out.trans HN2.out.symm)
  subst hz
  have e1:decide ((n:Int)=n2)=false:=decide_eq_false (by omega)
  have e2:((n:Int) == n2)=false:=by simp;omega
  have e3:(n == n2)=false:=by simp;omega
  clear hnn
  go_enter Tryz.func32,Tryz.ntmps32
  go_wp2_with fail
  go_ret
  exact⟨rfl,0,rfl⟩
theorem zrt {w:World}{v u:Value}{l m:List Nat}(h:zby w v l)(hu:zby w u m) :
  Calls Tryz.prog 159 #[v,u] w fun e w'=>e= .returned (.bool (decide (l=m)))∧zfC w w':=by
 obtain⟨-,a,c,rfl,-,hat⟩:=h.open
 obtain⟨-,a2,c2,rfl,-,hbt⟩:=hu.open
 obtain⟨n,HN⟩:∃ n,Hid (n=l.length):=⟨_,rfl⟩
 obtain⟨n2,HN2⟩:∃ n,Hid (n=m.length):=⟨_,rfl⟩
 have hlen:n≤140737488355328:=by rw[HN.out];exact h.open.1
 have hlen2:n2≤140737488355328:=by rw[HN2.out];exact hu.open.1
 rw[←HN.out,←HN2.out]
 obtain⟨z,HZ⟩:∃ z,Hid (z=decide (l=m)):=⟨_,rfl⟩
 rw[←HZ.out]
 have HAT:=hid hat
 have HBT:=hid hbt
 clear hat hbt h hu
 by_cases hnn:n=n2
 ·
  subst hnn
  go_enter Tryz.func159,Tryz.ntmps159
  go_wp2_with fail
  go_loopw [13] (fun v8 wr=>∃ k:Nat,k≤n∧v8= .int .i64 k∧Hid (decide (l.drop k=m.drop k)=z)∧(∃ kw,wr=w.drewN kw)) (fun v8 _=>n - (intOf v8).toNat)
  case atStart=>exact⟨0,by omega,rfl,by rw[HZ.out];rfl,0,rfl⟩
  case round =>
   obtain⟨k,hk,rfl,HK,kw,rfl⟩:=hrel
   by_cases hlt:k<n
   ·
    have hat:=HAT.out
    have hbt:=HBT.out
    have hxi:l[k]?=some (l[k]'(by rw[←HN.out];exact hlt)):=List.getElem?_eq_getElem _
    generalize l[k]'(by rw[←HN.out];exact hlt)=x at hxi
    have hyi:m[k]?=some (m[k]'(by rw[←HN2.out];exact hlt)):=List.getElem?_eq_getElem _
    generalize m[k]'(by rw[←HN2.out];exact hlt)=y at hyi
    obtain⟨-,b,o,ha,g0⟩:=hat k x hxi
    obtain⟨-,b2,o2,ha2,g02⟩:=hbt k y hyi
    clear hat hbt
    unfold zkV at g0 g02
    have HST:=hid (zrr l m k x y hxi hyi)
    have hix:=zaj Tryz.underlying62 zhY ha k hlt (cap:=c)
    have hix2:=zaj Tryz.underlying62 zhY ha2 k hlt (cap:=c2)
    clear ha ha2 hxi hyi
    by_cases hp:x=y
    ·
     have HK2:Hid (decide (l.drop (k+1)=m.drop (k+1))=z):=by rw[Hid,←HK.out,HST.out,decide_eq_true hp];rfl
     have hb1:((x:Int) == (y:Int))=true:=by simpa using (by omega:((x:Int)=(y:Int)))
     have hb2:((x:Int) != (y:Int))=false:=by rw[bne,hb1];rfl
     clear hp HST HK
     go_wp2_with fail
     go_quiet (fail)
     go_wp2_with fail
     go_roundw
     case rel=>exact⟨k+1,by omega,by go_num,HK2,_,rfl⟩
     case measure=>simp[intOf];omega
    ·
     have hz:z=false:=by rw[←HK.out,HST.out,decide_eq_false hp];rfl
     subst hz
     have hb1:((x:Int) == (y:Int))=false:=by simpa using (by omega:¬((x:Int)=(y:Int)))
     have hb2:((x:Int) != (y:Int))=true:=by rw[bne,hb1];rfl
     clear hp HST HK
     go_wp2_with fail
     go_quiet (fail)
     go_wp2_with fail
     go_ret
     exact⟨rfl,_,World.drewN_drewN _ _ _⟩
   ·
    have hz:z=true:=by
     rw[←HK.out,List.drop_of_length_le (by rw[←HN.out];omega),List.drop_of_length_le (by rw[←HN2.out];omega)];rfl
    subst hz
    go_wp2_with fail
    go_ret
    exact⟨rfl,_,rfl⟩
 ·
  have hz:z=false:=by
   rw[HZ.out]
   refine decide_eq_false ?_
   rintro rfl
   exact hnn (HN.out.trans HN2.out.symm)
  subst hz
  have e1:decide ((n:Int)=n2)=false:=decide_eq_false (by omega)
  have e2:((n:Int) == n2)=false:=by simp;omega
  have e3:(n == n2)=false:=by simp;omega
  clear hnn
  go_enter Tryz.func159,Tryz.ntmps159
  go_wp2_with fail
  go_ret
  exact⟨rfl,0,rfl⟩
theorem zlv {d d2:Nat}{w:World}{v u:Value}{l:List (M d)}{m:List (M d2)}(h:ze4 (zat d) w v l)(hu:ze4 (zat d2) w u m)(F:Nat)(S:(M d)→(M d2)→Bool)(hcf:∀ (args:Array Value) (w:World),(callFunc F args).run Tryz.prog w= .ok (.enter F args) w)
  (hcl:∀ x∈l,∀ y∈m,∀ (xv yv:Value) (wr:World),zat d w xv x→zat d2 w yv y→Below w.heap.size w wr→Calls Tryz.prog F #[xv,yv] wr fun e w'=>e= .returned (.bool (S x y))∧Below wr.heap.size wr w') :
  Calls Tryz.prog 160 #[v,u,.func (.func F) #[] #[]] w fun e w'=>e= .returned (.bool (zej S l m))∧Below w.heap.size w w':=by
 obtain⟨-,a,c,rfl,-,hat⟩:=h.open
 obtain⟨-,a2,c2,rfl,-,hbt⟩:=hu.open
 obtain⟨n,HN⟩:∃ n,Hid (n=l.length):=⟨_,rfl⟩
 obtain⟨n2,HN2⟩:∃ n,Hid (n=m.length):=⟨_,rfl⟩
 have hlen:n≤140737488355328:=by rw[HN.out];exact h.open.1
 have hlen2:n2≤140737488355328:=by rw[HN2.out];exact hu.open.1
 rw[←HN.out,←HN2.out]
 obtain⟨z,HZ⟩:∃ z,Hid (z=zej S l m):=⟨_,rfl⟩
 rw[←HZ.out]
 have HAT:=hid hat
 have HBT:=hid hbt
 have HCL:=hid hcl
 clear hat hbt hcl h hu
 by_cases hnn:n=n2
 ·
  subst hnn
  go_enter Tryz.func160,Tryz.ntmps160
  go_wp2_with fail
  go_loopw [17] (fun v8 wr=>∃ k:Nat,k≤n∧v8= .int .i64 k∧Hid (zej S (l.drop k) (m.drop k)=z)∧Hid (Below w.heap.size w wr)) (fun v8 _=>n - (intOf v8).toNat)
  case atStart=>exact⟨0,by omega,rfl,by rw[HZ.out];rfl,Below.refl _ _⟩
  case round =>
   obtain⟨k,hk,rfl,HK,HB⟩:=hrel
   by_cases hlt:k<n
   ·
    have hat:=HAT.out
    have hbt:=HBT.out
    have hxi:l[k]?=some (l[k]'(by rw[←HN.out];exact hlt)):=List.getElem?_eq_getElem _
    generalize l[k]'(by rw[←HN.out];exact hlt)=x at hxi
    have hyi:m[k]?=some (m[k]'(by rw[←HN2.out];exact hlt)):=List.getElem?_eq_getElem _
    generalize m[k]'(by rw[←HN2.out];exact hlt)=y at hyi
    obtain⟨b,o,v1,v2,ha,g0,g1,hM⟩:=hat k x hxi
    obtain⟨b2,o2,u1,u2,ha2,f0,f1,hM2⟩:=hbt k y hyi
    clear hat hbt
    obtain⟨p1,i1,j1,p2,i2,j2,e1⟩:=formM hM
    cases e1
    obtain⟨q1,s1,t1,q2,s2,t2,e1⟩:=formM hM2
    cases e1
    have HXX:=hid hM
    have HYY:=hid hM2
    clear hM hM2
    replace g0:=zaa HB.out _ _ g0
    replace g1:=zaa HB.out _ _ g1
    replace f0:=zaa HB.out _ _ f0
    replace f1:=zaa HB.out _ _ f1
    have hst:=hid (zmA S l m k x y hxi hyi)
    have hix:=zau Tryz.underlying79 zep ha k hlt (cap:=c)
    have hix2:=zau Tryz.underlying79 zep ha2 k hlt (cap:=c2)
    have hbl:b<wr.heap.size:=World.block_lt_of_cell? wr _ g0
    have hbl2:b2<wr.heap.size:=World.block_lt_of_cell? wr _ f0
    have HMX:=hid (List.mem_of_getElem? hxi)
    have HMY:=hid (List.mem_of_getElem? hyi)
    clear ha ha2 hxi hyi
    go_wp2_with fail
    have hcl:=HCL.out
    refine (hcl x HMX.out y HMY.out _ _ _ HXX.out HYY.out (HB.out.trans (Below.mono (B:=wr.heap.size) (by (with_reducible repeat first|exact Below.refl _ _|refine pzA ?_ _|refine pzB ?_ _|refine zab ?_ _|refine Below.drew ?_)) HB.out.size))).mono ?_
    rintro e w5 ⟨rfl,hb5⟩
    clear hcl
    have HB5:Hid (Below w.heap.size w w5):=(HB.out.trans (Below.mono (B:=wr.heap.size) (by (with_reducible repeat first|exact Below.refl _ _|refine pzA ?_ _|refine pzB ?_ _|refine zab ?_ _|refine Below.drew ?_)) HB.out.size)).trans (hb5.mono (by simp;have:=HB.out.size;omega))
    clear hb5
    cases hp:S x y with
    | false =>
     have hz:z=false:=by rw[←HK.out,hst.out,hp];rfl
     subst hz
     clear hp
     go_wp2
     go_ret
     exact⟨rfl,HB5.out⟩
    | true =>
     have HK2:Hid (zej S (l.drop (k+1)) (m.drop (k+1))=z):=by rw[Hid,←HK.out,hst.out,hp];rfl
     clear hp
     go_wp2
     go_roundw
     case rel=>exact⟨k+1,by omega,by go_num,HK2,HB5⟩
     case measure=>simp[intOf];omega
   ·
    have hz:z=true:=by
     rw[←HK.out,List.drop_of_length_le (by rw[←HN.out];omega),List.drop_of_length_le (by rw[←HN2.out];omega)];rfl
    subst hz
    go_wp2
    go_ret
    exact⟨rfl,HB.out⟩
 ·
  have hz:z=false:=by
   rw[HZ.out]
   exact zls S l m (by rw[←HN.out,←HN2.out];exact hnn)
  subst hz
  go_enter Tryz.func160,Tryz.ntmps160
  go_wp2
  go_ret
  exact⟨rfl,Below.refl _ _⟩
theorem zlw {d d2:Nat}{w:World}{v u:Value}{l:List (Val (M d))}{m:List (Val (M d2))}(h:zdR (zat d) w v l)(hu:zdR (zat d2) w u m)(F:Nat)(S:(Val (M d))→(Val (M d2))→Bool)(hcf:∀ (args:Array Value) (w:World),(callFunc F args).run Tryz.prog w= .ok (.enter F args) w)
  (hcl:∀ x∈l,∀ y∈m,∀ (xv yv:Value) (wr:World),zb6 (zat d) w xv x→zb6 (zat d2) w yv y→Below w.heap.size w wr→Calls Tryz.prog F #[xv,yv] wr fun e w'=>e= .returned (.bool (S x y))∧Below wr.heap.size wr w') :
  Calls Tryz.prog 106 #[v,u,.func (.func F) #[] #[]] w fun e w'=>e= .returned (.bool (zej S l m))∧Below w.heap.size w w':=by
 obtain⟨-,a,c,rfl,-,hat⟩:=h.open
 obtain⟨-,a2,c2,rfl,-,hbt⟩:=hu.open
 obtain⟨n,HN⟩:∃ n,Hid (n=l.length):=⟨_,rfl⟩
 obtain⟨n2,HN2⟩:∃ n,Hid (n=m.length):=⟨_,rfl⟩
 have hlen:n≤140737488355328:=by rw[HN.out];exact h.open.1
 have hlen2:n2≤140737488355328:=by rw[HN2.out];exact hu.open.1
 rw[←HN.out,←HN2.out]
 obtain⟨z,HZ⟩:∃ z,Hid (z=zej S l m):=⟨_,rfl⟩
 rw[←HZ.out]
 have HAT:=hid hat
 have HBT:=hid hbt
 have HCL:=hid hcl
 clear hat hbt hcl h hu
 by_cases hnn:n=n2
 ·
  subst hnn
  go_enter Tryz.func106,Tryz.ntmps106
  go_wp2_with fail
  go_loopw [17] (fun v8 wr=>∃ k:Nat,k≤n∧v8= .int .i64 k∧Hid (zej S (l.drop k) (m.drop k)=z)∧Hid (Below w.heap.size w wr)) (fun v8 _=>n - (intOf v8).toNat)
  case atStart=>exact⟨0,by omega,rfl,by rw[HZ.out];rfl,Below.refl _ _⟩
  case round =>
   obtain⟨k,hk,rfl,HK,HB⟩:=hrel
   by_cases hlt:k<n
   ·
    have hat:=HAT.out
    have hbt:=HBT.out
    have hxi:l[k]?=some (l[k]'(by rw[←HN.out];exact hlt)):=List.getElem?_eq_getElem _
    generalize l[k]'(by rw[←HN.out];exact hlt)=x at hxi
    have hyi:m[k]?=some (m[k]'(by rw[←HN2.out];exact hlt)):=List.getElem?_eq_getElem _
    generalize m[k]'(by rw[←HN2.out];exact hlt)=y at hyi
    obtain⟨b,o,v1,v2,v3,ha,g0,g1,g2,g3,hM⟩:=hat k x hxi
    obtain⟨b2,o2,u1,u2,u3,ha2,f0,f1,f2,f3,hM2⟩:=hbt k y hyi
    clear hat hbt
    obtain⟨p1,i1,j1,p2,i2,j2,p3,i3,j3,rfl,rfl,rfl⟩:=formV hM
    obtain⟨q1,s1,t1,q2,s2,t2,q3,s3,t3,rfl,rfl,rfl⟩:=formV hM2
    have HXX:=hid hM
    have HYY:=hid hM2
    clear hM hM2
    replace g0:=zaa HB.out _ _ g0
    replace g1:=zaa HB.out _ _ g1
    replace g2:=zaa HB.out _ _ g2
    replace g3:=zaa HB.out _ _ g3
    replace f0:=zaa HB.out _ _ f0
    replace f1:=zaa HB.out _ _ f1
    replace f2:=zaa HB.out _ _ f2
    replace f3:=zaa HB.out _ _ f3
    have hst:=hid (zmA S l m k x y hxi hyi)
    have hix:=zau Tryz.underlying24 zfo ha k hlt (cap:=c)
    have hix2:=zau Tryz.underlying24 zfo ha2 k hlt (cap:=c2)
    have hbl:b<wr.heap.size:=World.block_lt_of_cell? wr _ g0
    have hbl2:b2<wr.heap.size:=World.block_lt_of_cell? wr _ f0
    have HMX:=hid (List.mem_of_getElem? hxi)
    have HMY:=hid (List.mem_of_getElem? hyi)
    clear ha ha2 hxi hyi
    generalize x.num=xn at *
    generalize y.num=yn at *
    go_wp2_with fail
    have hcl:=HCL.out
    refine (hcl x HMX.out y HMY.out _ _ _ HXX.out HYY.out (HB.out.trans (Below.mono (B:=wr.heap.size) (by (with_reducible repeat first|exact Below.refl _ _|refine pzA ?_ _|refine pzB ?_ _|refine zab ?_ _|refine Below.drew ?_)) HB.out.size))).mono ?_
    rintro e w5 ⟨rfl,hb5⟩
    clear hcl
    have HB5:Hid (Below w.heap.size w w5):=(HB.out.trans (Below.mono (B:=wr.heap.size) (by (with_reducible repeat first|exact Below.refl _ _|refine pzA ?_ _|refine pzB ?_ _|refine zab ?_ _|refine Below.drew ?_)) HB.out.size)).trans (hb5.mono (by simp;have:=HB.out.size;omega))
    clear hb5
    cases hp:S x y with
    | false =>
     have hz:z=false:=by rw[←HK.out,hst.out,hp];rfl
     subst hz
     clear hp
     go_wp2
     go_ret
     exact⟨rfl,HB5.out⟩
    | true =>
     have HK2:Hid (zej S (l.drop (k+1)) (m.drop (k+1))=z):=by rw[Hid,←HK.out,hst.out,hp];rfl
     clear hp
     go_wp2
     go_roundw
     case rel=>exact⟨k+1,by omega,by go_num,HK2,HB5⟩
     case measure=>simp[intOf];omega
   ·
    have hz:z=true:=by
     rw[←HK.out,List.drop_of_length_le (by rw[←HN.out];omega),List.drop_of_length_le (by rw[←HN2.out];omega)];rfl
    subst hz
    go_wp2
    go_ret
    exact⟨rfl,HB.out⟩
 ·
  have hz:z=false:=by
   rw[HZ.out]
   exact zls S l m (by rw[←HN.out,←HN2.out];exact hnn)
  subst hz
  go_enter Tryz.func106,Tryz.ntmps106
  go_wp2
  go_ret
  exact⟨rfl,Below.refl _ _⟩
end
section
open Go.RowKit
def ztc (a b:Nat):Prop:=∀ (w:World) (v u:Value) (x:M a) (y:M b),zat a w v x→zat b w u y →
 Calls Tryz.prog 68 #[v,u] w fun e w'=>e= .returned (.bool (zbE a b x y))∧Below w.heap.size w w'
theorem zmF {a b:Nat}(ih:ztc a b){w:World}{v u:Value}{x:Val (M a)}{y:Val (M b)}(h:zb6 (zat a) w v x)(hu:zb6 (zat b) w u y) :
  Calls Tryz.prog 107 #[v,u] w fun e w'=>e= .returned (.bool (zcm (zbE a b) x y))∧Below w.heap.size w w':=by
 obtain⟨wv,tv,sv,rfl,hnum,hW,hT,hS⟩:=h
 obtain⟨wv2,tv2,sv2,rfl,hnum2,hW2,hT2,hS2⟩:=hu
 obtain⟨-,wa,wc,e1,-,-⟩:=hW.open
 obtain⟨-,ta,tc,e2,-,-⟩:=hT.open
 obtain⟨-,sa,sc,e3,-,-⟩:=hS.open
 obtain⟨-,wa2,wc2,e4,-,-⟩:=hW2.open
 obtain⟨-,ta2,tc2,e5,-,-⟩:=hT2.open
 obtain⟨-,sa2,sc2,e6,-,-⟩:=hS2.open
 have HQ:=hid fun W (hB0:Below w.heap.size w W)=>zrt (hW.keep (zaa hB0)) (hW2.keep (zaa hB0))
 have HT:=hid fun W (hB0:Below w.heap.size w W)=>ziQ (hT.keep (zaa hB0)) (hT2.keep (zaa hB0))
 have HS:=hid fun W (hB0:Below w.heap.size w W)=>zlv (hS.keep (zaa hB0) fun _ _ h=>zat.below h hB0) (hS2.keep (zaa hB0) fun _ _ h=>zat.below h hB0) 68 (zbE a b) (fun args w=>by simp[go_sem])
  fun p _ q _ pv qv wr hp hq hb=>ih wr pv qv p q (hp.below hb) (hq.below hb)
 obtain⟨R,HR⟩:∃ R,Hid (R=zcm (zbE a b) x y):=⟨_,rfl⟩
 rw[←HR.out]
 obtain⟨q1,HQ1⟩:∃ q,Hid (q=decide (x.words=y.words)):=⟨_,rfl⟩
 obtain⟨q2,HQ2⟩:∃ q,Hid (q=decide (x.texts=y.texts)):=⟨_,rfl⟩
 obtain⟨q3,HQ3⟩:∃ q,Hid (q=zej (zbE a b) x.subs y.subs):=⟨_,rfl⟩
 rw[←HQ1.out] at HQ
 rw[←HQ2.out] at HT
 rw[←HQ3.out] at HS
 have hR:R=(decide (x.num=y.num)&&q1&&q2&&q3):=by
  rw[HR.out,zcm,HQ1.out,HQ2.out,HQ3.out,Bool.decide_and,Bool.decide_and]
  simp[Bool.and_assoc]
 subst e1
 subst e2
 subst e3
 subst e4
 subst e5
 subst e6
 generalize x.words.length=n1 at *
 generalize x.texts.length=n2 at *
 generalize x.subs.length=n3 at *
 generalize y.words.length=m1 at *
 generalize y.texts.length=m2 at *
 generalize y.subs.length=m3 at *
 generalize x.num=xn at *
 generalize y.num=yn at *
 clear hW hT hS hW2 hT2 hS2 ih HQ1 HQ2 HQ3 HR
 clear x y
 by_cases hn:xn=yn
 ·
  subst hn
  cases q1 with
  | false =>
   have hr:R=false:=by rw[hR];simp
   clear hR
   subst hr
   go_enter Tryz.func107,Tryz.ntmps107
   go_wp2_with fail
   refine (HQ.out _ (by (with_reducible repeat first|exact Below.refl _ _|refine pzA ?_ _|refine pzB ?_ _|refine zab ?_ _|refine Below.drew ?_))).mono ?_
   rintro e w1 ⟨rfl,kw,rfl⟩
   go_wp2_with fail
   go_ret
   exact⟨rfl,by (with_reducible repeat first|exact Below.refl _ _|refine pzA ?_ _|refine pzB ?_ _|refine zab ?_ _|refine Below.drew ?_)⟩
  | true =>
   cases q2 with
   | false =>
    have hr:R=false:=by rw[hR];simp
    clear hR
    subst hr
    go_enter Tryz.func107,Tryz.ntmps107
    go_wp2_with fail
    refine (HQ.out _ (by (with_reducible repeat first|exact Below.refl _ _|refine pzA ?_ _|refine pzB ?_ _|refine zab ?_ _|refine Below.drew ?_))).mono ?_
    rintro e w1 ⟨rfl,kw,rfl⟩
    go_wp2_with fail
    refine (HT.out _ (by (with_reducible repeat first|exact Below.refl _ _|refine pzA ?_ _|refine pzB ?_ _|refine zab ?_ _|refine Below.drew ?_))).mono ?_
    rintro e w1 ⟨rfl,kw,rfl⟩
    go_wp2_with fail
    go_ret
    exact⟨rfl,by (with_reducible repeat first|exact Below.refl _ _|refine pzA ?_ _|refine pzB ?_ _|refine zab ?_ _|refine Below.drew ?_)⟩
   | true =>
    have hr:R=q3:=by rw[hR];simp
    clear hR
    subst hr
    go_enter Tryz.func107,Tryz.ntmps107
    go_wp2_with fail
    refine (HQ.out _ (by (with_reducible repeat first|exact Below.refl _ _|refine pzA ?_ _|refine pzB ?_ _|refine zab ?_ _|refine Below.drew ?_))).mono ?_
    rintro e w1 ⟨rfl,kw,rfl⟩
    go_wp2_with fail
    refine (HT.out _ (by (with_reducible repeat first|exact Below.refl _ _|refine pzA ?_ _|refine pzB ?_ _|refine zab ?_ _|refine Below.drew ?_))).mono ?_
    rintro e w1 ⟨rfl,kw,rfl⟩
    go_wp2_with fail
    refine (HS.out _ (by (with_reducible repeat first|exact Below.refl _ _|refine pzA ?_ _|refine pzB ?_ _|refine zab ?_ _|refine Below.drew ?_))).mono ?_
    rintro e w1 ⟨rfl,hb⟩
    go_wp2_with fail
    go_ret
    exact⟨rfl,zag (w1:=_) (by (with_reducible repeat first|exact Below.refl _ _|refine pzA ?_ _|refine pzB ?_ _|refine zab ?_ _|refine Below.drew ?_)) hb (by simp;omega)⟩
 ·
  have hr:R=false:=by rw[hR,decide_eq_false hn];simp
  clear hR
  subst hr
  have e1:((xn:Int) == yn)=false:=by simpa using hn
  go_enter Tryz.func107,Tryz.ntmps107
  go_wp2_with fail
  go_ret
  exact⟨rfl,by (with_reducible repeat first|exact Below.refl _ _|refine pzA ?_ _|refine pzB ?_ _|refine zab ?_ _|refine Below.drew ?_)⟩
theorem zru:∀ (a b:Nat),ztc a b:=by
 intro a
 induction a with
 | zero=>exact fun _ _ _ _ _ _ h _=>h.elim
 | succ a ih =>
  intro b
  cases b with
  | zero=>exact fun _ _ _ _ _ _ h=>h.elim
  | succ b =>
  intro w v u x y h hu
  obtain⟨vv,uv,rfl,hV,hU⟩:=h
  obtain⟨vv2,uv2,rfl,hV2,hU2⟩:=hu
  obtain⟨-,va,vc,e1,-,-⟩:=hV.open
  obtain⟨-,ua,uc,e2,-,-⟩:=hU.open
  obtain⟨-,va2,vc2,e3,-,-⟩:=hV2.open
  obtain⟨-,ua2,uc2,e4,-,-⟩:=hU2.open
  have HT:=hid fun W (hB0:Below w.heap.size w W)=>ziQ (hU.keep (zaa hB0)) (hU2.keep (zaa hB0))
  have HS:=hid fun W (hB0:Below w.heap.size w W)=>zlw (hV.keep (zaa hB0) fun _ _ h=>zat.below h hB0) (hV2.keep (zaa hB0) fun _ _ h=>zat.below h hB0) 107 (zcm (zbE a b)) (fun args w=>by simp[go_sem])
   fun p _ q _ pv qv wr hp hq hb=>zmF (ih b) (VMsg.below hp hb) (VMsg.below hq hb)
  obtain⟨R,HR⟩:∃ R,Hid (R=zbE (a+1) (b+1) x y):=⟨_,rfl⟩
  rw[←HR.out]
  obtain⟨q1,HQ1⟩:∃ q,Hid (q=decide (M.unk x=M.unk y)):=⟨_,rfl⟩
  obtain⟨q2,HQ2⟩:∃ q,Hid (q=zej (zcm (zbE a b)) (M.vals x) (M.vals y)):=⟨_,rfl⟩
  rw[←HQ1.out] at HT
  rw[←HQ2.out] at HS
  have hR:R=(q1&&q2):=by rw[HR.out,HQ1.out,HQ2.out];rfl
  subst e1
  subst e2
  subst e3
  subst e4
  generalize (M.vals x).length=n1 at *
  generalize (M.unk x).length=n2 at *
  generalize (M.vals y).length=m1 at *
  generalize (M.unk y).length=m2 at *
  clear hV hU hV2 hU2 ih HQ1 HQ2 HR
  clear x y
  cases q1 with
  | false =>
   have hr:R=false:=by rw[hR];simp
   clear hR
   subst hr
   go_enter Tryz.func68,Tryz.ntmps68
   go_wp2_with fail
   refine (HT.out _ (by (with_reducible repeat first|exact Below.refl _ _|refine pzA ?_ _|refine pzB ?_ _|refine zab ?_ _|refine Below.drew ?_))).mono ?_
   rintro e w1 ⟨rfl,kw,rfl⟩
   go_wp2_with fail
   go_ret
   exact⟨rfl,by (with_reducible repeat first|exact Below.refl _ _|refine pzA ?_ _|refine pzB ?_ _|refine zab ?_ _|refine Below.drew ?_)⟩
  | true =>
   have hr:R=q2:=by rw[hR];simp
   clear hR
   subst hr
   go_enter Tryz.func68,Tryz.ntmps68
   go_wp2_with fail
   refine (HT.out _ (by (with_reducible repeat first|exact Below.refl _ _|refine pzA ?_ _|refine pzB ?_ _|refine zab ?_ _|refine Below.drew ?_))).mono ?_
   rintro e w1 ⟨rfl,kw,rfl⟩
   go_wp2_with fail
   refine (HS.out _ (by (with_reducible repeat first|exact Below.refl _ _|refine pzA ?_ _|refine pzB ?_ _|refine zab ?_ _|refine Below.drew ?_))).mono ?_
   rintro e w1 ⟨rfl,hb⟩
   go_wp2_with fail
   go_ret
   exact⟨rfl,zag (w1:=_) (by (with_reducible repeat first|exact Below.refl _ _|refine pzA ?_ _|refine pzB ?_ _|refine zab ?_ _|refine Below.drew ?_)) hb (by simp;omega)⟩
end
end Go.Proofs.YtpckoeicbjfnhaaGreatDoor
