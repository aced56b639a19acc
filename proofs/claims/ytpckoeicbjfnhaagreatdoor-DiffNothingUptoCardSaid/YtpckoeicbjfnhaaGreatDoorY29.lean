/- Parts of a proof: texts of the author, merged. No condition of their own. -/
import Derived.Test.YtpckoeicbjfnhaaGreatDoorY03
import Derived.Test.YtpckoeicbjfnhaaGreatDoorY07
import Derived.Test.YtpckoeicbjfnhaaGreatDoorY11
import Derived.OrdersHeld
import Derived.Deep.CutBlock
import Derived.Deep.RegionLaw
namespace Go.Proofs.YtpckoeicbjfnhaaGreatDoor
set_option maxRecDepth 100000
set_option maxHeartbeats 16000000
section
open Go.RowKit
variable {K:Type}
def zhR [DecidableEq K](k:K)(v:Value):List (K × Value)→List (K × Value)
 | []=>[]
 | (k',u)::r=>if k=k' then (k',v)::r else (k',u)::zhR k v r
def zmo [DecidableEq K](k:K)(v:Value)(es:List (K × Value)):List (K × Value):=if (zaC k es).isSome=true then zhR k v es else es++[(k,v)]
theorem zmp [DecidableEq K](k:K)(v:Value):∀ es:List (K × Value),(zhR k v es).length=es.length
 | []=>rfl
 | (k',u)::r=>by
  rw[zhR]
  split
  ·
   rfl
  ·
   rw[List.length_cons,List.length_cons,zmp k v r]
theorem zmq [DecidableEq K](k:K)(v:Value)(k':K):∀ es:List (K × Value),zaC k' (zhR k v es)=if k'=k then (if (zaC k es).isSome=true then some v else none) else zaC k' es
 | []=>by simp[zhR,zaC]
 | (q,u)::r=>by
  rw[zhR]
  by_cases h:k=q
  ·
   subst h
   rw[if_pos rfl,zaC,zaC,zaC,if_pos rfl]
   by_cases h2:k'=k
   ·
    rw[if_pos h2,if_pos h2];rfl
   ·
    rw[if_neg h2,if_neg h2,if_neg h2]
  ·
   rw[if_neg h,zaC,zaC,zaC,if_neg h,zmq k v k' r]
   by_cases h2:k'=q
   ·
    rw[if_pos h2,if_neg (by rintro rfl;exact h h2),if_pos h2]
   ·
    rw[if_neg h2,if_neg h2]
theorem zkb [DecidableEq K](k':K):∀ (a b:List (K × Value)),zaC k' (a++b)=match zaC k' a with|some v=>some v|none=>zaC k' b
 | [],b=>rfl
 | (q,u)::r,b=>by
  rw[List.cons_append,zaC,zaC]
  by_cases h:k'=q
  ·
   rw[if_pos h,if_pos h]
  ·
   rw[if_neg h,if_neg h];exact zkb k' r b
theorem zlo [DecidableEq K](k:K)(v:Value)(es:List (K × Value))(k':K):zaC k' (zmo k v es)=if k'=k then some v else zaC k' es:=by
 unfold zmo
 by_cases h:(zaC k es).isSome=true
 ·
  rw[if_pos h,zmq,if_pos h]
 ·
  rw[if_neg h,zkb]
  by_cases h2:k'=k
  ·
   subst h2
   rw[if_pos rfl]
   cases h3:zaC k' es with
   | some u=>rw[h3] at h;exact absurd rfl h
   | none=>simp[zaC]
  ·
   rw[if_neg h2]
   cases zaC k' es with
   | some u=>rfl
   | none=>simp only[zaC];rw[if_neg h2]
theorem zoI [DecidableEq K](k:K):∀ (es:List (K × Value)) (j p:Nat) (v:Value),zdo k es j=some (p,v)→j≤p
 | [],_,_,_,h=>by cases h
 | (k',u)::r,j,p,v,h=>by
  rw[zdo] at h
  split at h
  ·
   cases h;exact Nat.le_refl _
  ·
   exact Nat.le_of_succ_le (zoI k r (j+1) p v h)
theorem zoJ [DecidableEq K](kv:K→Value)(k:K)(v:Value):∀ (es:List (K × Value)) (i j p:Nat) (u:Value),zdo k es j=some (p,u) →
  ((zc2 kv es i)[p - j]?).map (·.key)=some (kv k)∧(zc2 kv es i).modify (p - j) (fun e=>{ e with key:=kv k,val:=v })=zc2 kv (zhR k v es) i
 | [],_,_,_,_,h=>by cases h
 | (k',w)::r,i,j,p,u,h=>by
  rw[zdo] at h
  by_cases e:k=k'
  ·
   rw[if_pos e] at h
   cases h
   subst e
   rw[zhR,if_pos rfl,Nat.sub_self]
   simp[zc2]
  ·
   rw[if_neg e] at h
   have hp:=zoI k r (j+1) p u h
   obtain⟨h1,h2⟩:=zoJ kv k v r (i+1) (j+1) p u h
   rw[zhR,if_neg e]
   obtain⟨q,hq⟩:∃ q,p - j=q+1:=⟨p - j - 1,by omega⟩
   have hq':p - (j+1)=q:=by omega
   rw[hq'] at h1 h2
   rw[hq]
   simp only[zc2,List.getElem?_cons_succ,List.modify_succ_cons]
   exact⟨h1,by rw[h2]⟩
theorem zrk [DecidableEq K]{P:Program}{t kt et:TypeId}{kv:K→Value}(KO:zkN P kt kv)(hsb:∀ k,Instr.sameBits 10000 (kv k) (kv k)=true)(ht:P.underlying t=some (.map kt et)){w:World}{r:Nat}{es:List (K × Value)}(h:zax w r kv es)(k:K)(v:Value) :
  (Instr.mapUpdate t (.map (some r)) (kv k) v).run P w= .ok () (zbk w r kv (zmo k v es)):=by
 cases hg:zaC k es with
 | none =>
  rw[zd6 KO ht h k v hg]
  unfold zmo
  rw[hg,if_neg (by decide)]
 | some u =>
  have hf:=KO.find w k es 0
  obtain⟨p,hp⟩:∃ p,zdo k es 0=some (p,u):=by
   have:=zdp k es 0
   rw[hg] at this
   cases hp:zdo k es 0 with
   | none=>rw[hp] at this;cases this
   | some x=>rw[hp] at this;obtain⟨p,y⟩:=x;cases this;exact⟨p,rfl⟩
  rw[hp] at hf
  obtain⟨h1,h2⟩:=zoJ kv k v es 0 0 p u hp
  rw[Nat.sub_zero] at h1 h2
  have hkey:(Instr.keyThatStays (kv k) (kv k)).run P w= .ok (kv k) w:=by
   unfold Instr.keyThatStays
   rw[if_pos (hsb k)]
   rfl
  have hk0:((((zc2 kv es 0).toArray)[p]?).map (·.key)).getD (kv k)=kv k:=by
   rw[List.getElem?_toArray,h1];rfl
  simp only[Instr.mapUpdate,Sem.run_bind,run_underlying ht,Result.andThen,MapKept.run_getObj_map h,KO.check,hf,hk0,hkey,MapKept.run_setObj_map _ h,zbk]
  congr 3
  unfold zmo
  rw[hg,if_pos (show (some u).isSome=true from rfl),zmp,List.modify_toArray,h2]
theorem zhA (k:Int):Instr.sameBits 10000 (.int .i64 k) (.int .i64 k)=true:=by
 simp[Instr.sameBits]
end
section
open Go.RowKit
def pt {α:Type}(l:List (Val α))(b o:Nat):Nat→Int→Option Addr
 | 0,_=>none
 | k+1,n=>if (l[k]?).map (·.num)=some n then some ⟨b,o+k*4,none⟩ else pt l b o k n
theorem zlp {α:Type}{l:List (Val α)}{b o:Nat}{n:Int}:∀ {k:Nat},k≤l.length→(pt l b o k n=none↔∀ v∈l.take k,v.num≠n)
 | 0,_=>by simp[pt]
 | k+1,hk=>by
  obtain⟨v,hv⟩:∃ v,l[k]?=some v:=⟨_,List.getElem?_eq_getElem (by omega)⟩
  have ih:=zlp (b:=b) (o:=o) (n:=n) (k:=k) (by omega:k≤l.length)
  rw[pt,List.take_add_one,hv]
  simp only[Option.map_some,Option.some.injEq,Option.toList_some,List.mem_append,List.mem_singleton]
  by_cases e:v.num=n
  ·
   rw[if_pos e]
   exact⟨fun h=>(nomatch h),fun h=>absurd e (h v (.inr rfl))⟩
  ·
   rw[if_neg e,ih]
   exact⟨fun h u hu=>hu.elim (h u) fun e2=>by rw[e2];exact e,fun h u hu=>h u (.inl hu)⟩
theorem zrl {α:Type}{l:List (Val α)}{b o:Nat}{n:Int}{p:Addr}:∀ {k:Nat},k≤l.length→pt l b o k n=some p→∃ i v,i<k∧l[i]?=some v∧v.num=n∧p=⟨b,o+i*4,none⟩
 | 0,_,h=>by cases h
 | k+1,hk,h=>by
  obtain⟨v,hv⟩:∃ v,l[k]?=some v:=⟨_,List.getElem?_eq_getElem (by omega)⟩
  rw[pt,hv] at h
  by_cases e:v.num=n
  ·
   rw[if_pos (by rw[←e];rfl)] at h
   cases h
   exact⟨k,v,by omega,hv,e,rfl⟩
  ·
   rw[if_neg (fun h2=>e (by simpa using h2))] at h
   obtain⟨i,u,h1,h2,h3,h4⟩:=zrl (by omega) h
   exact⟨i,u,by omega,h2,h3,h4⟩
structure ziI {α β:Type}(x:List (Val α))(y:List (Val β))(bx ox by' oy:Nat)(i j:Nat)(es:List (Int × Value)):Prop where
 at':∀ n,zaC n es=match pt x bx ox i n,pt y by' oy j n with|none,none=>none|p,q=>some (.agg #[.pointer p,.pointer q])
 nodup:(es.map Prod.fst).Nodup
theorem zkc {es:List (Int × Value)}{n:Int}:zaC n es=none↔n ∉ es.map Prod.fst:=by
 induction es with
 | nil=>simp[zaC]
 | cons e r ih =>
  obtain⟨k,v⟩:=e
  rw[zaC,List.map_cons,List.mem_cons,not_or]
  by_cases h:n=k
  ·
   rw[if_pos h];simp[h]
  ·
   rw[if_neg h,ih];exact⟨fun h2=>⟨h,h2⟩,fun h2=>h2.2⟩
theorem zkd {k:Int}{v:Value}:∀ es:List (Int × Value),(zhR k v es).map Prod.fst=es.map Prod.fst
 | []=>rfl
 | (q,u)::r=>by
  rw[zhR]
  split
  ·
   rfl
  ·
   rw[List.map_cons,List.map_cons,zkd r]
theorem zke {k:Int}{v:Value}{es:List (Int × Value)}(h:(es.map Prod.fst).Nodup):((zmo k v es).map Prod.fst).Nodup:=by
 unfold zmo
 split
 ·
  rw[zkd];exact h
 ·
  rename_i hk
  have hn:k ∉ es.map Prod.fst:=by
   rw[←zkc]
   cases hg:zaC k es with
   | none=>rfl
   | some u=>rw[hg] at hk;exact absurd rfl hk
  rw[List.map_append,List.nodup_append]
  refine⟨h,by simp,fun a ha b hb e=>?_⟩
  simp only[List.map_cons,List.map_nil,List.mem_singleton] at hb
  subst e
  subst hb
  exact hn ha
theorem ziI.nil {α β:Type}{x:List (Val α)}{y:List (Val β)}{bx ox by' oy:Nat}:ziI x y bx ox by' oy 0 0 []:=⟨fun _=>rfl,List.nodup_nil⟩
def zrm (es:List (Int × Value))(n:Int):Value:=(zaC n es).getD (.agg #[.pointer none,.pointer none])
theorem ziI.pair {α β:Type}{x:List (Val α)}{y:List (Val β)}{bx ox by' oy i j:Nat}{es:List (Int × Value)}(h:ziI x y bx ox by' oy i j es)(n:Int):zrm es n= .agg #[.pointer (pt x bx ox i n),.pointer (pt y by' oy j n)]:=by
 unfold zrm
 rw[h.at' n]
 cases pt x bx ox i n <;> cases pt y by' oy j n <;> rfl
theorem ziI.left {α β:Type}{x:List (Val α)}{y:List (Val β)}{bx ox by' oy i j:Nat}{es:List (Int × Value)}(h:ziI x y bx ox by' oy i j es){v:Val α}(hv:x[i]?=some v) :
  ziI x y bx ox by' oy (i+1) j (zmo v.num (.agg #[.pointer (some ⟨bx,ox+i*4,none⟩),.pointer (pt y by' oy j v.num)]) es):=by
 refine⟨fun n=>?_,zke h.nodup⟩
 rw[zlo,pt,hv]
 by_cases e:n=v.num
 ·
  subst e
  rw[if_pos rfl,if_pos (show Option.map (fun x:Val _=>x.num) (some v)=some v.num from rfl)]
 ·
  rw[if_neg e,if_neg (fun h2=>e (by simpa using h2.symm)),h.at' n]
theorem ziI.right {α β:Type}{x:List (Val α)}{y:List (Val β)}{bx ox by' oy i j:Nat}{es:List (Int × Value)}(h:ziI x y bx ox by' oy i j es){v:Val β}(hv:y[j]?=some v) :
  ziI x y bx ox by' oy i (j+1) (zmo v.num (.agg #[.pointer (pt x bx ox i v.num),.pointer (some ⟨by',oy+j*4,none⟩)]) es):=by
 refine⟨fun n=>?_,zke h.nodup⟩
 rw[zlo,pt,hv]
 by_cases e:n=v.num
 ·
  subst e
  rw[if_pos rfl,if_pos (show Option.map (fun x:Val _=>x.num) (some v)=some v.num from rfl)]
  cases pt x bx ox i v.num <;> rfl
 ·
  rw[if_neg e,if_neg (fun h2=>e (by simpa using h2.symm)),h.at' n]
theorem ziI.keys {α β:Type}{x:List (Val α)}{y:List (Val β)}{bx ox by' oy:Nat}{es:List (Int × Value)}(h:ziI x y bx ox by' oy x.length y.length es)(n:Int) :
  n∈es.map Prod.fst↔(∃ v∈x,v.num=n)∨∃ v∈y,v.num=n:=by
 have h1:=zlp (b:=bx) (o:=ox) (n:=n) (Nat.le_refl x.length)
 have h2:=zlp (b:=by') (o:=oy) (n:=n) (Nat.le_refl y.length)
 rw[List.take_length] at h1 h2
 have h3:zaC n es=none↔(pt x bx ox x.length n=none∧pt y by' oy y.length n=none):=by
  rw[h.at' n]
  cases pt x bx ox x.length n <;> cases pt y by' oy y.length n <;> simp
 rw[zkc,h1,h2] at h3
 constructor
 ·
  intro hn
  by_cases ha:∃ v∈x,v.num=n
  ·
   exact .inl ha
  ·
   by_cases hb:∃ v∈y,v.num=n
   ·
    exact .inr hb
   ·
    exact absurd hn (h3.2 ⟨fun v hv e=>ha ⟨v,hv,e⟩,fun v hv e=>hb ⟨v,hv,e⟩⟩)
 ·
  intro hn
  refine Classical.byContradiction fun hc=>?_
  obtain⟨a,b⟩:=h3.1 hc
  rcases hn with ⟨v,hv,e⟩|⟨v,hv,e⟩
  ·
   exact a v hv e
  ·
   exact b v hv e
theorem zoK:∀ {l:List Int} {lo hi:Int},l.Pairwise (· < ·)→(∀ n∈l,lo≤n∧n≤hi)→lo≤hi+1→(l.length:Int)≤hi+1 - lo
 | [],lo,hi,_,_,h=>by simp;omega
 | a::r,lo,hi,h,hb,hle=>by
  obtain⟨h1,h2⟩:=List.pairwise_cons.1 h
  have ha:=hb a (by simp)
  have:=zoK (lo:=a+1) (hi:=hi) h2 (fun n hn=>⟨by have:=h1 n hn;omega,(hb n (by simp[hn])).2⟩) (by omega)
  rw[List.length_cons]
  omega
end
section
open Go.RowKit
variable {P:Program} {ops:Array Oper} {md:Region.Mode} {w:World}
def zkf (md:Region.Mode)(ops:Array Oper):Nat→Nat→Nat→Bool
 | 0,_,_=>false
 | f+1,i,t=>match ops[t]? with
  | some o=>o.after.toList.any fun e=>Region.binds md e&&(e.on == i||zkf md ops f i e.on)
  | none=>false
def zb5 (md:Region.Mode)(ops:Array Oper)(listed:Array Bool):Prop:=∀ (j:Nat) (oj:Oper),ops[j]?=some oj→listed.getD j false=true→∀ e∈oj.after,Region.binds md e=true→listed.getD e.on false=true
theorem zfw {listed:Array Bool}(hc:zb5 md ops listed):∀ (f i t:Nat),zkf md ops f i t=true→listed.getD i false=false→t ∉ Region.ready md ops listed∧listed.getD t false=false
 | 0,_,_,h,_=>by cases h
 | f+1,i,t,h,hi=>by
  rw[zkf] at h
  cases ho:ops[t]? with
  | none=>rw[ho] at h;cases h
  | some o =>
   rw[ho] at h
   obtain⟨e,he0,hb⟩:=List.any_eq_true.1 h
   have he:e∈o.after:=Array.mem_toList_iff.1 he0
   simp only[Bool.and_eq_true,Bool.or_eq_true,beq_iff_eq] at hb
   obtain⟨hbi,hon⟩:=hb
   have hun:listed.getD e.on false=false:=by
    rcases hon with hon|hon
    ·
     rw[hon];exact hi
    ·
     exact (zfw hc f i e.on hon hi).2
   constructor
   ·
    intro hr
    obtain⟨-,o',ho',hall⟩:=mem_ready.1 hr
    rw[ho] at ho'
    cases ho'
    rw[hall e he hbi] at hun
    cases hun
   ·
    cases hl:listed.getD t false with
    | false=>rfl
    | true =>
     rw[hc t o ho hl e he hbi] at hun
     cases hun
theorem zb5.set {listed:Array Bool}(hc:zb5 md ops listed){i:Nat}(hi:i∈Region.ready md ops listed):zb5 md ops (listed.setIfInBounds i true):=by
 intro j oj hj hl e he hb
 obtain⟨-,oi,hoi,hall⟩:=mem_ready.1 hi
 by_cases hij:i=j
 ·
  subst hij
  rw[hj] at hoi
  cases hoi
  exact getD_set_true (hall e he hb)
 ·
  rw[getD_set_ne false hij] at hl
  exact getD_set_true (hc j oj hj hl e he hb)
theorem zcT {listed:Array Bool}{i:Nat}(h:i∈Region.ready md ops listed):listed.getD i false=false:=by
 have h0:=(mem_ready.1 h).1
 rcases Nat.lt_or_ge i listed.size with h'|h'
 ·
  simp[h'] at h0 ⊢;exact h0
 ·
  simp[Array.getElem?_eq_none h'] at h0
variable {V X:World→Prop} {g:Nat} {Q:Exit→Act→World→Prop}
def AtG (V X:World→Prop)(g:Nat)(listed:Array Bool)(w:World):Prop:=V w∧(listed.getD g false=false→X w)
def zbV (P:Program)(md:Region.Mode)(ops:Array Oper)(Q:Exit→Act→World→Prop)(V X:World→Prop)(g:Nat):Nat→Array Bool→Act→World→Prop
 | 0,listed,a,w=>Region.ready md ops listed=[]∧Q .normal a w
 | fuel+1,listed,a,w=>(Region.ready md ops listed=[]→Q .normal a w) ∧
  ∀ i∈Region.ready md ops listed,wpOp P ops Q i (fun a' w'=>AtG V X g (listed.setIfInBounds i true) w'∧zbV P md ops Q V X g fuel (listed.setIfInBounds i true) a' w') a w
theorem zfx:∀ (fuel:Nat) (listed:Array Bool) (a:Act) (w:World),zbV P md ops Q V X g fuel listed a w→wpAny P md ops Q fuel listed a w
 | 0,_,_,_,h=>h
 | fuel+1,_,_,_,h=>⟨h.1,fun i hi=>wpOp_mono (fun a' w' h'=>zfx fuel _ a' w' h'.2) (h.2 i hi)⟩
theorem AtG.back {i:Nat}{listed:Array Bool}{w:World}(hig:i≠g)(h:AtG V X g (listed.setIfInBounds i true) w):AtG V X g listed w:=
 ⟨h.1,fun hl=>h.2 (by rw[getD_set_ne false hig];exact hl)⟩
theorem zbW {i:Nat}{oi:Oper}{v:Value}(hi:ops[i]?=some oi)(hsel:∀ (j:Nat) (o:Oper) cs b,ops[j]?=some o→o.op≠ .select cs b)
  (hQ:∀ c a w,Q (.panic c) (a.put oi.dst v) w→Q (.panic c) a w) (hig:i≠g) (S:World→Prop) (hS:∀ (listed:Array Bool) w,zb5 md ops listed→listed.getD i false=false→AtG V X g listed w→S w) :
  ∀ (fuel:Nat) (listed:Array Bool) (a:Act) (w:World),zb5 md ops listed →
   (∀ j oj,ops[j]?=some oj→j≠i→listed.getD j true=false→(∀ e∈oj.after,Region.binds md e=true→e.on≠i)→oi.apart ops oj=true) →
   i∈Region.ready md ops listed→YieldsIf P ops S oi v a→AtG V X g listed w →
   zbV P md ops Q V X g fuel (listed.setIfInBounds i true) (a.put oi.dst v) w→zbV P md ops Q V X g (fuel+1) listed a w:=by
 have hput:∀ (listed:Array Bool) (w:World),AtG V X g listed w→AtG V X g (listed.setIfInBounds i true) w:=fun listed w h =>
  ⟨h.1,fun hl=>h.2 (by rw[getD_set_ne false hig] at hl;exact hl)⟩
 intro fuel
 induction fuel with
 | zero =>
  intro listed a w hc _ hr hy hA H
  refine⟨fun h=>(by rw[h] at hr;cases hr),fun j hj=>?_⟩
  by_cases hji:j=i
  ·
   subst hji;exact hy.wpOp hi (hS listed w hc (zcT hr) hA) ⟨hput _ _ hA,H⟩
  ·
   have:=ready_mono hj hji
   rw[H.1] at this
   cases this
 | succ fuel ih =>
  intro listed a w hc hfree hr hy hA H
  refine⟨fun h=>(by rw[h] at hr;cases hr),fun j hj=>?_⟩
  by_cases hji:j=i
  ·
   subst hji;exact hy.wpOp hi (hS listed w hc (zcT hr) hA) ⟨hput _ _ hA,H⟩
  ·
   have h1:=H.2 j (ready_mono hj hji)
   obtain⟨hjun,oj,hoj,hall⟩:=mem_ready.1 hj
   have hnot:∀ e∈oj.after,Region.binds md e=true→e.on≠i:=fun e he hb heq=>by
    have h2:=hall e he hb
    rw[heq,zcT hr] at h2
    cases h2
   have h2:=wpOp_putIf hoj (hfree j oj hoj hji hjun hnot) (fun cs b=>hsel i oi cs b hi) (fun cs b=>hsel j oj cs b hoj) hQ hy h1
   have hfree':∀ k ok,ops[k]?=some ok→k≠i→(listed.setIfInBounds j true).getD k true=false →
     (∀ e∈ok.after,Region.binds md e=true→e.on≠i)→oi.apart ops ok=true:=fun k ok hk hki hun hno=>by
    refine hfree k ok hk hki ?_ hno
    by_cases hjk:j=k
    ·
     subst hjk;exact hjun
    ·
     rw[getD_set_ne true hjk] at hun;exact hun
   refine wpOp_mono (fun a' w' h3=>?_) h2
   obtain⟨h4,h5,h6⟩:=h3
   rw[Array.setIfInBounds_comm _ _ (Ne.symm hji)] at h5 h6
   exact⟨h5.back hig,ih (listed.setIfInBounds j true) a' w' (hc.set hj) hfree' (ready_mono hr (Ne.symm hji)) h4 (h5.back hig) h6⟩
theorem zrn {o:Oper}{a:Act}{w:World}{K K':Act→World→Prop}{Q':Exit→Act→World→Prop}(hK:∀ a w,K a w→K' a w)(hP:∀ c a w,Q (.panic c) a w→Q' (.panic c) a w)(hL:LetsOut Q→LetsOut Q')(h:o.wp P a w K Q):o.wp P a w K' Q':=by
 unfold Oper.wp at *
 generalize (execOp a.eval o).run P w=r at *
 cases r with
 | ok n w' =>
  cases n <;> simp only[Oper.upon] at h ⊢
  case value u=>exact hK _ _ h
  case skip=>exact hK _ _ h
  case defer d=>exact hK _ _ h
  case enter f args =>
   refine Calls.mono h fun e w'' he=>?_
   cases e with
   | returned u=>exact hK _ _ he
   | panicked c=>exact hP _ _ _ he
   | outgrown=>exact hL he
  case row row args=>exact Go.Rows.mono h fun u w'' he=>hK _ _ he
 | halt x w' =>
  cases x <;> simp only[Oper.upon] at h ⊢
  case panic u=>exact hP _ _ _ h
theorem zhb {k:Nat}{o:Oper}{fuel:Nat}{listed:Array Bool}{a:Act}{w:World}(hr:Region.ready md ops listed=[k])(hk:ops[k]?=some o)
  (hg:(listed.setIfInBounds k true).getD g false=true)
  (h:∀ K:Exit→Act→World→Prop,Hid (∀ a' w',V w'→(V w'→zbV P md ops Q V X g fuel (listed.setIfInBounds k true) a' w')→K .normal a' w')→wpList P ops K [o] a w) :
  zbV P md ops Q V X g (fuel+1) listed a w:=by
 refine⟨fun h1=>(by rw[hr] at h1;cases h1),fun i hi=>?_⟩
 rw[hr] at hi
 have hik:i=k:=by simpa using hi
 subst hik
 have h2:=h (fun e a' w'=>match e with
  | .normal=>AtG V X g (listed.setIfInBounds i true) w'∧zbV P md ops Q V X g fuel (listed.setIfInBounds i true) a' w'
  | e=>Q e a' w') (hid fun a' w' hV hK=>⟨⟨hV,fun hl=>by rw[hg] at hl;cases hl⟩,hK hV⟩)
 unfold wpOp
 simp only[hk]
 rw[wpList] at h2
 split at h2
 ·
  rename_i hw
  simp only[hw,if_true]
  exact h2.imp (zrn (fun _ _ h=>h) (fun _ _ _ h=>h) (fun h=>h)) (fun h=>⟨h.1,h.2⟩)
 ·
  rename_i hw
  simp only[hw]
  exact h2
def znL (md:Region.Mode)(ops:Array Oper)(g:Nat):List Nat→Nat→Array Bool→Bool
 | [],_,listed=>(Region.ready md ops listed).isEmpty
 | t::ts,k,listed=>(match t with
   | 0=>Region.free md ops listed k&&(Region.ready md ops listed).contains k && !(k == g)&&((ops[k]?).map fun o=>o.guard.isNone).getD false
   | 1=>Region.free md ops listed k&&(Region.ready md ops listed).contains k && !(k == g)&&((ops[k]?).map fun o=>o.guard.isNone).getD false&&zkf md ops 60 k g
   | _=>decide (Region.ready md ops listed=[k])&&(listed.setIfInBounds k true).getD g false)&&znL md ops g ts (k+1) (listed.setIfInBounds k true)
def zoL (P:Program)(ops:Array Oper)(Q:Exit→Act→World→Prop)(V X:World→Prop):List Nat→List Oper→Act→World→Prop
 | 0::ts,o::os,a,w=>∃ v,(∀ w,V w→(execOp a.eval o).run P w= .ok (.value v) w)∧zoL P ops Q V X ts os (a.put o.dst v) w
 | 1::ts,o::os,a,w=>∃ v,(∀ w,X w→(execOp a.eval o).run P w= .ok (.value v) w)∧zoL P ops Q V X ts os (a.put o.dst v) w
 | _::ts,o::os,a,w=>∀ K:Exit→Act→World→Prop,Hid (∀ a' w',V w'→(V w'→zoL P ops Q V X ts os a' w')→K .normal a' w')→wpList P ops K [o] a w
 | _,_,a,w=>Q .normal a w
theorem zbX {o:Oper}{y:Nat→Option Bool}(h:o.guard.isNone=true):Region.wanted o y=true:=by
 have h':o.guard=none:=by simpa using h
 simp[Region.wanted,h']
theorem zpF (hsel:Region.noSelect ops=true)(hQ:∀ c (a:Act) dst v w,Q (.panic c) (a.put dst v) w→Q (.panic c) a w)(ts:List Nat):∀ (os:List Oper) (k:Nat) (listed:Array Bool) (a:Act) (w:World),
  ts.length=os.length→(∀ i o,os[i]?=some o→ops[k+i]?=some o)→zb5 md ops listed→znL md ops g ts k listed=true→V w→(listed.getD g false=false→X w)→zoL P ops Q V X ts os a w →
  zbV P md ops Q V X g ts.length listed a w:=by
 induction ts with
 | nil =>
  intro os k listed a w hl _ _ hB _ _ h
  cases os with
  | nil=>exact⟨by simpa [znL] using hB,h⟩
  | cons o os=>simp at hl
 | cons t ts ih =>
  intro os k listed a w hl ho hc hB hV hX h
  cases os with
  | nil=>simp at hl
  | cons o os =>
   have hi:ops[k]?=some o:=ho 0 o rfl
   have ho':∀ i o',os[i]?=some o'→ops[k+1+i]?=some o':=fun i o' h=>by
    have:=ho (i+1) o' h
    rw[show k+1+i=k+(i+1) by omega]
    exact this
   have hl':ts.length=os.length:=by simpa using hl
   rw[List.length_cons]
   rcases t with _|_|n
   ·
    obtain⟨v,hy,h⟩:=h
    unfold znL at hB
    obtain⟨hB1,hB2⟩:=(Bool.and_eq_true _ _).mp hB
    simp only[Bool.and_eq_true,Bool.not_eq_true',beq_eq_false_iff_ne] at hB1
    obtain⟨⟨⟨h3,h4⟩,h5⟩,h6⟩:=hB1
    have h4':k∈Region.ready md ops listed:=List.contains_iff_mem.1 h4
    rw[hi] at h6
    refine zbW hi (Region.noSelect_spec hsel) (fun c a w h=>hQ c _ _ _ w h) h5 V (fun _ _ _ _ hA=>hA.1) ts.length listed a w hc (Region.free_spec hi h3) h4' (Or.inl ⟨zbX h6,hy⟩) ⟨hV,hX⟩ ?_
    exact ih os (k+1) _ _ w hl' ho' (hc.set h4') hB2 hV (fun h0=>hX (by rw[getD_set_ne false h5] at h0;exact h0)) h
   ·
    obtain⟨v,hy,h⟩:=h
    unfold znL at hB
    obtain⟨hB1,hB2⟩:=(Bool.and_eq_true _ _).mp hB
    simp only[Bool.and_eq_true,Bool.not_eq_true',beq_eq_false_iff_ne] at hB1
    obtain⟨⟨⟨⟨h3,h4⟩,h5⟩,h6⟩,h8⟩:=hB1
    have h4':k∈Region.ready md ops listed:=List.contains_iff_mem.1 h4
    rw[hi] at h6
    refine zbW hi (Region.noSelect_spec hsel) (fun c a w h=>hQ c _ _ _ w h) h5 X (fun _ _ hc hl hA=>hA.2 (zfw hc 60 k g h8 hl).2) ts.length listed a w hc (Region.free_spec hi h3) h4' (Or.inl ⟨zbX h6,hy⟩) ⟨hV,hX⟩ ?_
    exact ih os (k+1) _ _ w hl' ho' (hc.set h4') hB2 hV (fun h0=>hX (by rw[getD_set_ne false h5] at h0;exact h0)) h
   ·
    unfold znL at hB
    obtain⟨hB1,hB2⟩:=(Bool.and_eq_true _ _).mp hB
    obtain⟨h3,h4⟩:=(Bool.and_eq_true _ _).mp hB1
    replace h3:=of_decide_eq_true h3
    have h4':k∈Region.ready md ops listed:=by rw[h3];exact List.mem_singleton.2 rfl
    refine zhb h3 hi h4 fun K HK=>h K (hid fun a' w' hV' hK=>HK.out a' w' hV' fun hV''=>?_)
    exact ih os (k+1) _ a' w' hl' ho' (hc.set h4') hB2 hV'' (fun h0=>by rw[h4] at h0;cases h0) (hK hV'')
theorem zeC {id:Nat}{l:List Oper}{a:Act}{w:World}(V X:World→Prop)(g:Nat)(ts:List Nat)(hm:P.follows .mixedOrders=true)(hlen:ts.length=l.length)
  (hB:(Region.noSelect l.toArray&&znL .any l.toArray g ts 0 (Array.replicate l.length false))=true) (hQ:∀ c (a:Act) dst v w,Q (.panic c) (a.put dst v) w→Q (.panic c) a w)
  (hV:V w.drew) (hX:X w.drew) (h0:∀ ops',Hid (ops'=l.toArray)→zoL P ops' Q V X ts l a w.drew):(Code.region id l.toArray true).wp P Q a w:=by
 have h:=h0 l.toArray (hid rfl)
 rw[Bool.and_eq_true] at hB
 refine wp_region_any hm (zfx (V:=V) (X:=X) (g:=g) _ _ _ _ ?_)
 have:=zpF (md:=.any) (Q:=Q) (V:=V) (X:=X) (P:=P) (g:=g) hB.1 hQ ts l 0 (Array.replicate l.length false) a w.drew hlen (fun i o h=>by rw[Nat.zero_add,List.getElem?_toArray];exact h) (fun j oj _ hl=>by
  rw[Array.getD_eq_getD_getElem?,Array.getElem?_replicate] at hl
  split at hl <;> cases hl) hB.2 hV (fun _=>hX) h
 rw[hlen] at this
 have e:l.toArray.size=l.length:=by simp
 rw[e]
 exact this
theorem pzC {α:Type} (l:List α) (i:Nat) (a:α):l.toArray.setIfInBounds i a=(l.set i a).toArray:=List.setIfInBounds_toArray l i a
theorem pzD {α:Type} (x:α) (l:List α) (a:α):(x::l).set 0 a=a::l:=List.set_cons_zero
theorem pzE {α:Type} (x:α) (l:List α) (n:Nat) (a:α):(x::l).set (n+1) a=x::l.set n a:=List.set_cons_succ
theorem zaV {ts:List Nat}{o:Oper}{os:List Oper}{a:Act}{w:World}{v:Value}(hy:∀ w,V w→(execOp a.eval o).run P w= .ok (.value v) w)(h:zoL P ops Q V X ts os (a.put o.dst v) w):zoL P ops Q V X (0::ts) (o::os) a w:=⟨v,hy,h⟩
theorem zpG {ts:List Nat}{o:Oper}{os:List Oper}{a:Act}{w:World}{v:Value}(hy:∀ w,X w→(execOp a.eval o).run P w= .ok (.value v) w)(h:zoL P ops Q V X ts os (a.put o.dst v) w):zoL P ops Q V X (1::ts) (o::os) a w:=⟨v,hy,h⟩
theorem ziJ {ts:List Nat}{o:Oper}{os:List Oper}{a:Act}{w:World}(h:∀ K:Exit→Act→World→Prop,Hid (∀ a' w',V w'→(V w'→zoL P ops Q V X ts os a' w')→K .normal a' w')→wpList P ops K [o] a w):zoL P ops Q V X (2::ts) (o::os) a w:=h
theorem zfy {a:Act}{w:World}(h:Q .normal a w):zoL P ops Q V X [] [] a w:=h
end
section
open Go.RowKit
theorem zdX {K:Type}{kv:K→Value}{w w':World}{r:Nat}{es:List (K × Value)}(h:zax w r kv es)(hb:Below w.heap.size w w'):zax w' r kv es:=by
 unfold zax at *
 have hr:r<w.heap.size:=(Array.getElem?_eq_some_iff.1 h).1
 rw[hb.block r hr];exact h
theorem zlq {K:Type}{kv:K→Value}{B:Nat}{w w':World}{r:Nat}{es:List (K × Value)}(h:Below B w w')(hr:B≤r):Below B w (zbk w' r kv es):=
 ⟨h.os,h.tape,h.output,by rw[zbp];exact h.size,fun b hb=>(zaF (by omega)).trans (h.block b hb)⟩
theorem zro:∀ w:World,(zeroValue 134).run Tryz.prog w= .ok (.agg #[.pointer none,.pointer none]) w:=fun w=>by kernel_rfl
theorem zf9 {w:World}{r:Nat}{es:List (Int × Value)}(h:zax w r zcK es)(q:Int):(Instr.lookup 126 (.map (some r)) (.int .i64 q) false).run Tryz.prog w= .ok (zrm es q) w:=by
 have:=zbG (P:=Tryz.prog) zd0 Tryz.underlying126 zro h q false
 simp only[Bool.false_eq_true,if_false] at this
 exact this
structure PrI (w wr:World)(r K:Nat)(m:List Value)(es:List (Int × Value)):Prop where
 map:zax wr r zcK es
 below:Below w.heap.size w wr
 base:w.heap.size≤r∧K≠r
 blk:Blk wr K m 27
theorem PrI.later {w wr W:World}{r K:Nat}{m:List Value}{es:List (Int × Value)}(h:PrI w wr r K m es)(hb:Below wr.heap.size wr W):PrI w W r K m es:=
 ⟨zdX h.map hb,h.below.trans (hb.mono h.below.size),h.base,h.blk.below hb⟩
theorem PrI.put {w wr:World}{r K:Nat}{m:List Value}{es:List (Int × Value)}(h:PrI w wr r K m es)(es':List (Int × Value)):PrI w (zbk wr r zcK es') r K m es':=
 ⟨zdr (Array.getElem?_eq_some_iff.1 h.map).1,zlq h.below h.base.1,h.base,(zaF h.base.2).trans h.blk⟩
theorem PrI.run {w wr:World}{r K:Nat}{m:List Value}{es:List (Int × Value)}(h:PrI w wr r K m es)(n:Int)(v:Value) :
  (Instr.mapUpdate 126 (.map (some r)) (.int .i64 n) v).run Tryz.prog wr= .ok () (zbk wr r zcK (zmo n v es)):=
 zrk (P:=Tryz.prog) zd0 zhA Tryz.underlying126 h.map n v
theorem zmr {α:Type}{P:World→Value→α→Prop}{w:World}{v:Value}{l:List (Val α)}(h:zdR P w v l) :
  ∃ b o a c,v= .slice a l.length c∧(l≠[]→a=some ⟨b,o,none⟩)∧∀ k x,l[k]?=some x→w.cell? ⟨b,o+k*4,none⟩=some (.int .i64 x.num):=by
 obtain⟨-,a,c,rfl,-,hat⟩:=h.open
 cases l with
 | nil=>exact⟨0,0,a,c,rfl,fun h=>absurd rfl h,fun k x hx=>by simp at hx⟩
 | cons x r =>
  obtain⟨b,o,-,-,-,ha,-⟩:=hat 0 x rfl
  refine⟨b,o,a,c,rfl,fun _=>ha,fun k y hy=>?_⟩
  obtain⟨b',o',-,-,-,ha',h0,-⟩:=hat k y hy
  rw[ha] at ha'
  cases ha'
  exact h0
theorem zms (w:World):(sizeOf 81).run Tryz.prog w= .ok 4 w:=by kernel_rfl
def zmt {α β:Type}(w:World)(xa ya:Option Addr)(x:List (Val α))(y:List (Val β))(e:Ending)(w':World):Prop:=
 ∃ r es bx ox by' oy,e= .returned (.map (some r))∧zax w' r zcK es∧ziI x y bx ox by' oy x.length y.length es∧(x≠[]→xa=some ⟨bx,ox,none⟩)∧(y≠[]→ya=some ⟨by',oy,none⟩)∧Below w.heap.size w w'
theorem zpH {α β:Type}{P:World→Value→α→Prop}{R:World→Value→β→Prop}{w:World}{xa ya xb yb:Option Addr}{xn yn xc yc xm ym xd yd:Nat}{x:List (Val α)}{y:List (Val β)}
  (hx:zdR P w (.slice xa xn xc) x) (hy:zdR R w (.slice ya yn yc) y) :
  Calls Tryz.prog 64 #[.agg #[.slice xa xn xc,.slice xb xm xd],.agg #[.slice ya yn yc,.slice yb ym yd]] w (zmt w xa ya x y):=by
 have hxl0:xn≤140737488355328:=by
  obtain⟨h1,a,c,e,-⟩:=hx.open
  injection e with e1 e2 e3
  omega
 have hyl0:yn≤140737488355328:=by
  obtain⟨h1,a,c,e,-⟩:=hy.open
  injection e with e1 e2 e3
  omega
 obtain⟨bx,ox,a,c,e,hxa,hxc⟩:=zmr hx
 obtain⟨rfl,hxn,rfl⟩:xa=a∧xn=x.length∧xc=c:=by injection e with e1 e2 e3;exact⟨e1,e2,e3⟩
 clear e
 obtain⟨by',oy,a,c,e,hya,hyc⟩:=zmr hy
 obtain⟨rfl,hyn,rfl⟩:ya=a∧yn=y.length∧yc=c:=by injection e with e1 e2 e3;exact⟨e1,e2,e3⟩
 clear e hx hy
 have HXN:=hid hxn
 have HYN:=hid hyn
 have HXA:=hid hxa
 have HYA:=hid hya
 have HXC:=hid hxc
 have HYC:=hid hyc
 have HXL:=hid hxl0
 have HYL:=hid hyl0
 clear hxn hyn hxa hya hxc hyc hxl0 hyl0
 obtain⟨Q,HQ⟩:∃ Q:Ending→World→Prop,Hid (Q=zmt w xa ya x y):=⟨_,rfl⟩
 rw[←HQ.out]
 obtain⟨X,HX⟩:∃ X,Hid (X=w.heap.size):=⟨_,rfl⟩
 obtain⟨W1,HW1⟩:∃ W,Hid (W=((w.alloc (.cells #[.slice xa xn xc,.slice xb xm xd] 27)).alloc (.cells #[.slice ya yn yc,.slice yb ym yd] 27))):=⟨_,rfl⟩
 obtain⟨W2,HW2⟩:∃ W,Hid (W=W1.alloc (.map #[] 0)):=⟨_,rfl⟩
 obtain⟨r,HR⟩:∃ r,Hid (r=W1.heap.size):=⟨_,rfl⟩
 have hkx:Blk W1 X [.slice xa xn xc,.slice xb xm xd] 27:=by rw[HW1.out,HX.out];exact (Blk.new w [.slice xa xn xc,.slice xb xm xd] _).alloc _
 have hky:Blk W1 (X+1) [.slice ya yn yc,.slice yb ym yd] 27:=by
  have e:(w.alloc (.cells #[.slice xa xn xc,.slice xb xm xd] 27)).heap.size=w.heap.size+1:=by simp
  rw[HW1.out,HX.out,←e]
  exact Blk.new (w.alloc (.cells #[.slice xa xn xc,.slice xb xm xd] 27)) [.slice ya yn yc,.slice yb ym yd] _
 have hb1:Below w.heap.size w W1:=by rw[HW1.out];exact ((Below.refl _ _).alloc (Nat.le_refl _) _).alloc (by simp) _
 have hb2:Below W1.heap.size W1 W2:=by rw[HW2.out];exact (Below.refl _ _).alloc (Nat.le_refl _) _
 have HM2:Hid (zax W2 r zcK []∧Below w.heap.size w W2∧w.heap.size≤r):=⟨by rw[HW2.out,HR.out];exact heap_alloc_new W1 _,hb1.trans (hb2.mono hb1.size),by rw[HR.out];exact hb1.size⟩
 have k0:=(hkx.below hb2).cell 0 _ rfl
 have k1:=(hkx.below hb2).cell 1 _ rfl
 have k2:=(hky.below hb2).cell 0 _ rfl
 have k3:=(hky.below hb2).cell 1 _ rfl
 have kl:=(hky.below hb2).lt
 have hi0:∀ W:World,(Instr.index 183 (.agg #[.slice xa xn xc,.slice xb xm xd,.slice ya yn yc,.slice yb ym yd]) (.int .i64 0)).run Tryz.prog W= .ok (.agg #[.slice xa xn xc,.slice xb xm xd]) W:=fun W=>by kernel_rfl
 have hi1:∀ W:World,(Instr.index 183 (.agg #[.slice xa xn xc,.slice xb xm xd,.slice ya yn yc,.slice yb ym yd]) (.int .i64 1)).run Tryz.prog W= .ok (.agg #[.slice ya yn yc,.slice yb ym yd]) W:=fun W=>by kernel_rfl
 have hmm:=@run_makeMap Tryz.prog
 clear hkx hky hb1 hb2
 go_enter Tryz.func64,Tryz.ntmps64
 go_upto_region 1 with fail
 rw[←HW1.out,←HX.out]
 go_upto_region 2 with fail
 rw[←HW2.out,←HR.out]
 clear hmm
 go_wp2_with fail
 go_loopw [14] (fun v14 wr=>∃ (k:Nat) (es:List (Int × Value)),v14= .int .i64 (k:Int)∧k≤2∧Hid (zax wr r zcK es∧Below w.heap.size w wr∧w.heap.size≤r)∧Hid (ziI x y bx ox by' oy (if k=0 then 0 else x.length) (if k=2 then y.length else 0) es)) (fun v14 _=>2 - (intOf v14).toNat)
 case atStart=>exact⟨0,[],rfl,by omega,HM2.out,ziI.nil⟩
 case round =>
  obtain⟨k,es0,rfl,hk,HI,HP⟩:=hrel
  have hk3:k=0∨k=1∨k=2:=by omega
  clear k0 k1 k2 k3 kl HM2
  rcases hk3 with rfl|rfl|rfl
  ·
   obtain⟨wo,HWO⟩:∃ wo:World,Hid (wo=wr):=⟨_,rfl⟩
   obtain⟨K,HK⟩:∃ K,Hid (K=wr.heap.size):=⟨_,rfl⟩
   obtain⟨W3,HW3⟩:∃ W,Hid (W=wr.alloc (.cells #[.slice xa xn xc,.slice xb xm xd] 27)):=⟨_,rfl⟩
   have hb3:Below wr.heap.size wr W3:=by rw[HW3.out];exact (Below.refl _ _).alloc (Nat.le_refl _) _
   have hk3:Blk W3 K [.slice xa xn xc,.slice xb xm xd] 27:=by rw[HW3.out,HK.out];exact Blk.new wr [.slice xa xn xc,.slice xb xm xd] _
   have HJ0:Hid (PrI w W3 r K [.slice xa xn xc,.slice xb xm xd] es0∧ziI x y bx ox by' oy 0 0 es0):=by
    have hr:r<wr.heap.size:=(Array.getElem?_eq_some_iff.1 HI.out.1).1
    exact⟨⟨zdX HI.out.1 hb3,HI.out.2.1.trans (hb3.mono HI.out.2.1.size),⟨HI.out.2.2,by rw[HK.out];omega⟩,hk3⟩,HP.out⟩
   have c0:=hk3.cell 0 _ rfl
   have c1:=hk3.cell 1 _ rfl
   have cl:=hk3.lt
   clear hb3 hk3 HI HP
   go_upto_region 5 with fail
   rw[←HW3.out,←HK.out]
   clear HW3 HK HWO
   go_wp2_with fail
   clear c0 c1 cl
   go_loopw [21] (fun v21 wr=>∃ (i:Nat) (es:List (Int × Value)),v21= .int .i64 (i:Int)∧i≤xn∧Hid (PrI w wr r K [.slice xa xn xc,.slice xb xm xd] es∧ziI x y bx ox by' oy i 0 es)) (fun v21 _=>xn - (intOf v21).toNat)
   case atStart=>exact⟨0,es0,rfl,by omega,HJ0.out⟩
   case round =>
    as_aux_lemma =>
    clear HJ0
    obtain⟨i,es,rfl,hi,HJ⟩:=hrel
    by_cases hlt:i<xn
    ·
     obtain⟨v,hv⟩:∃ v,x[i]?=some v:=⟨_,List.getElem?_eq_getElem (by rw[←HXN.out];exact hlt)⟩
     have hza:xa=some ⟨bx,ox,none⟩:=HXA.out (by rintro rfl;simp at hv)
     have hix:=zau Tryz.underlying24 zms hza i hlt (cap:=xc)
     have HNUM:Hid (∀ W,Below w.heap.size w W→W.cell? ⟨bx,ox+i*4,none⟩=some (.int .i64 v.num)):=fun W hb=>zaa hb _ _ (HXC.out i v hv)
     have HV:=hid hv
     have n1:=HNUM.out wr HJ.out.1.below
     have c0:=HJ.out.1.blk.cell 0 _ rfl
     have cl:=HJ.out.1.blk.lt
     have hlk:=zf9 HJ.out.1.map v.num
     rw[HJ.out.2.pair] at hlk
     obtain⟨n,HN⟩:∃ n,Hid (n=v.num):=⟨_,rfl⟩
     rw[←HN.out] at n1 hlk HNUM
     obtain⟨p,HPp⟩:∃ p,Hid (p=pt x bx ox i n):=⟨_,rfl⟩
     obtain⟨q,HPq⟩:∃ q,Hid (q=pt y by' oy 0 n):=⟨_,rfl⟩
     rw[←HPp.out,←HPq.out] at hlk
     obtain⟨G,HG⟩:∃ G,Hid (G=wr.heap.size):=⟨_,rfl⟩
     obtain⟨W8,HW8⟩:∃ W,Hid (W=wr.alloc (.cells #[.pointer p,.pointer q] 134)):=⟨_,rfl⟩
     have hb8:Below wr.heap.size wr W8:=by rw[HW8.out];exact (Below.refl _ _).alloc (Nat.le_refl _) _
     have hk8:Blk W8 G [.pointer p,.pointer q] 134:=by rw[HW8.out,HG.out];exact Blk.new wr [.pointer p,.pointer q] _
     have h8:=HJ.out.1.later hb8
     obtain⟨W9,HW9⟩:∃ W,Hid (W=W8.setCell ⟨G,0,none⟩ (.pointer (some ⟨bx,ox+i*4,none⟩))):=⟨_,rfl⟩
     have hb9:Below wr.heap.size wr W9:=by rw[HW9.out];exact hb8.setCell (by show wr.heap.size≤G;rw[HG.out];exact Nat.le_refl _) _
     have hk9:Blk W9 G [.pointer (some ⟨bx,ox+i*4,none⟩),.pointer q] 134:=by rw[HW9.out];exact hk8.set 0 _
     have h9:=(HJ.out.1.later hb9).later (Below.refl _ _).drew
     have hmu:=h9.run n (.agg #[.pointer (some ⟨bx,ox+i*4,none⟩),.pointer q])
     have HREL:Hid (PrI w (zbk W9.drew r zcK (zmo n (.agg #[.pointer (some ⟨bx,ox+i*4,none⟩),.pointer q]) es)) r K [.slice xa xn xc,.slice xb xm xd] (zmo n (.agg #[.pointer (some ⟨bx,ox+i*4,none⟩),.pointer q]) es)∧ziI x y bx ox by' oy (i+1) 0 (zmo n (.agg #[.pointer (some ⟨bx,ox+i*4,none⟩),.pointer q]) es)):=by
      have h:=HJ.out.2.left HV.out
      rw[←HN.out,←HPq.out] at h
      exact⟨h9.put _,h⟩
     have d0:=h8.blk.cell 0 _ rfl
     have d1:=hk8.cell 0 _ rfl
     have d2:=hk8.cell 1 _ rfl
     have d3:=hk8.free 0
     have d4:=hk8.lt
     have f0:W9.drew.cell? ⟨K,0,none⟩=some (.slice xa xn xc):=h9.blk.cell 0 _ rfl
     have f1:W9.drew.cell? ⟨G,0,none⟩=some (.pointer (some ⟨bx,ox+i*4,none⟩)):=(hk9.below (Below.refl _ _).drew).cell 0 _ rfl
     have f2:W9.drew.cell? ⟨G,1,none⟩=some (.pointer q):=(hk9.below (Below.refl _ _).drew).cell 1 _ rfl
     have f3:W9.drew.cell? ⟨bx,ox+i*4,none⟩=some (.int .i64 n):=HNUM.out _ h9.below
     have HMU:=hid hmu
     clear hb8 hk8 h8 hb9 hk9 h9 hmu hza hv HV HJ HNUM
     go_upto_region 9 with fail
     rw[←HW8.out,←HG.out]
     clear n1 c0 cl hlk
     go_upto_region 10 with fail
     rw[←HW9.out]
     clear d0 d1 d2 d3 d4
     have hmu:=HMU.out
     have q1:W9.drew.cell? ⟨K,0,none⟩=some (.slice xa xn xc)∧W9.drew.cell? ⟨bx,ox+i*4,none⟩=some (.int .i64 n)∧W9.drew.cell? ⟨G,0,none⟩=some (.pointer (some ⟨bx,ox+i*4,none⟩))∧W9.drew.cell? ⟨G,1,none⟩=some (.pointer q):=⟨f0,f3,f1,f2⟩
     refine zeC (fun _=>True) (fun w'=>w'.cell? ⟨K,0,none⟩=some (.slice xa xn xc)∧w'.cell? ⟨bx,ox+i*4,none⟩=some (.int .i64 n)∧w'.cell? ⟨G,0,none⟩=some (.pointer (some ⟨bx,ox+i*4,none⟩))∧w'.cell? ⟨G,1,none⟩=some (.pointer q)) 8 [0,0,1,0,0,0,1,1,2] (by kernel_rfl) rfl (by kernel_rfl) (fun _ _ dst _ _ h=>by cases dst <;> exact h) trivial q1 (fun OPS _=>?_)
     clear q1 f0 f1 f2 f3
     refine zaV (v:=?v0) ?hy0 ?hr0
     case hy0=>(intro w hw;go_simp;all_goals rfl)
     simp only[Act.put,pzC,pzD,pzE]
     refine zaV (v:=?v1) ?hy1 ?hr1
     case hy1=>(intro w hw;go_simp;all_goals rfl)
     simp only[Act.put,pzC,pzD,pzE]
     refine zpG (v:=?v2) ?hy2 ?hr2
     case hy2=>(intro w hw;go_simp;all_goals rfl)
     simp only[Act.put,pzC,pzD,pzE]
     refine zaV (v:=?v3) ?hy3 ?hr3
     case hy3=>(intro w hw;go_simp;all_goals rfl)
     simp only[Act.put,pzC,pzD,pzE]
     refine zaV (v:=?v4) ?hy4 ?hr4
     case hy4=>(intro w hw;go_simp;all_goals rfl)
     simp only[Act.put,pzC,pzD,pzE]
     refine zaV (v:=?v5) ?hy5 ?hr5
     case hy5=>(intro w hw;go_simp;all_goals rfl)
     simp only[Act.put,pzC,pzD,pzE]
     refine zpG (v:=?v6) ?hy6 ?hr6
     case hy6=>(intro w hw;go_simp;all_goals rfl)
     simp only[Act.put,pzC,pzD,pzE]
     refine zpG (v:=?v7) ?hy7 ?hr7
     case hy7=>(intro w hw;go_simp;all_goals rfl)
     simp only[Act.put,pzC,pzD,pzE]
     refine ziJ (fun K12 HK12=>?_)
     go_wp2_with fail
     refine HK12.out _ _ trivial ?_
     clear HK12 K12
     intro _
     refine zfy ?_
     have hxl:=HXL.out
     have hyl:=HYL.out
     go_wp2_with fail
     go_roundw
     case rel=>exact⟨i+1,_,by go_num,hlt,HREL.out⟩
     case measure=>simp[intOf];omega
    ·
     obtain rfl:i=xn:=by omega
     have HEND:Hid (zax wr r zcK es∧Below w.heap.size w wr∧w.heap.size≤r):=⟨HJ.out.1.map,HJ.out.1.below,HJ.out.1.base.1⟩
     have HPE:Hid (ziI x y bx ox by' oy x.length 0 es):=by
      have h:=HJ.out.2
      rw[HXN.out] at h
      exact h
     clear HJ
     go_wp2_with fail
     go_roundw
     case rel=>exact⟨1,es,by go_num,by omega,HEND.out,HPE.out⟩
     case measure=>simp[intOf]
  ·
   obtain⟨wo,HWO⟩:∃ wo:World,Hid (wo=wr):=⟨_,rfl⟩
   obtain⟨K,HK⟩:∃ K,Hid (K=wr.heap.size):=⟨_,rfl⟩
   obtain⟨W3,HW3⟩:∃ W,Hid (W=wr.alloc (.cells #[.slice ya yn yc,.slice yb ym yd] 27)):=⟨_,rfl⟩
   have hb3:Below wr.heap.size wr W3:=by rw[HW3.out];exact (Below.refl _ _).alloc (Nat.le_refl _) _
   have hk3:Blk W3 K [.slice ya yn yc,.slice yb ym yd] 27:=by rw[HW3.out,HK.out];exact Blk.new wr [.slice ya yn yc,.slice yb ym yd] _
   have HJ0:Hid (PrI w W3 r K [.slice ya yn yc,.slice yb ym yd] es0∧ziI x y bx ox by' oy x.length 0 es0):=by
    have hr:r<wr.heap.size:=(Array.getElem?_eq_some_iff.1 HI.out.1).1
    exact⟨⟨zdX HI.out.1 hb3,HI.out.2.1.trans (hb3.mono HI.out.2.1.size),⟨HI.out.2.2,by rw[HK.out];omega⟩,hk3⟩,HP.out⟩
   have c0:=hk3.cell 0 _ rfl
   have c1:=hk3.cell 1 _ rfl
   have cl:=hk3.lt
   clear hb3 hk3 HI HP
   go_upto_region 5 with fail
   rw[←HW3.out,←HK.out]
   clear HW3 HK HWO
   go_wp2_with fail
   clear c0 c1 cl
   go_loopw [21] (fun v21 wr=>∃ (i:Nat) (es:List (Int × Value)),v21= .int .i64 (i:Int)∧i≤yn∧Hid (PrI w wr r K [.slice ya yn yc,.slice yb ym yd] es∧ziI x y bx ox by' oy x.length i es)) (fun v21 _=>yn - (intOf v21).toNat)
   case atStart=>exact⟨0,es0,rfl,by omega,HJ0.out⟩
   case round =>
    as_aux_lemma =>
    clear HJ0
    obtain⟨i,es,rfl,hi,HJ⟩:=hrel
    by_cases hlt:i<yn
    ·
     obtain⟨v,hv⟩:∃ v,y[i]?=some v:=⟨_,List.getElem?_eq_getElem (by rw[←HYN.out];exact hlt)⟩
     have hza:ya=some ⟨by',oy,none⟩:=HYA.out (by rintro rfl;simp at hv)
     have hix:=zau Tryz.underlying24 zms hza i hlt (cap:=yc)
     have HNUM:Hid (∀ W,Below w.heap.size w W→W.cell? ⟨by',oy+i*4,none⟩=some (.int .i64 v.num)):=fun W hb=>zaa hb _ _ (HYC.out i v hv)
     have HV:=hid hv
     have n1:=HNUM.out wr HJ.out.1.below
     have c0:=HJ.out.1.blk.cell 0 _ rfl
     have cl:=HJ.out.1.blk.lt
     have hlk:=zf9 HJ.out.1.map v.num
     rw[HJ.out.2.pair] at hlk
     obtain⟨n,HN⟩:∃ n,Hid (n=v.num):=⟨_,rfl⟩
     rw[←HN.out] at n1 hlk HNUM
     obtain⟨p,HPp⟩:∃ p,Hid (p=pt x bx ox x.length n):=⟨_,rfl⟩
     obtain⟨q,HPq⟩:∃ q,Hid (q=pt y by' oy i n):=⟨_,rfl⟩
     rw[←HPp.out,←HPq.out] at hlk
     obtain⟨G,HG⟩:∃ G,Hid (G=wr.heap.size):=⟨_,rfl⟩
     obtain⟨W8,HW8⟩:∃ W,Hid (W=wr.alloc (.cells #[.pointer p,.pointer q] 134)):=⟨_,rfl⟩
     have hb8:Below wr.heap.size wr W8:=by rw[HW8.out];exact (Below.refl _ _).alloc (Nat.le_refl _) _
     have hk8:Blk W8 G [.pointer p,.pointer q] 134:=by rw[HW8.out,HG.out];exact Blk.new wr [.pointer p,.pointer q] _
     have h8:=HJ.out.1.later hb8
     obtain⟨W9,HW9⟩:∃ W,Hid (W=W8.setCell ⟨G,1,none⟩ (.pointer (some ⟨by',oy+i*4,none⟩))):=⟨_,rfl⟩
     have hb9:Below wr.heap.size wr W9:=by rw[HW9.out];exact hb8.setCell (by show wr.heap.size≤G;rw[HG.out];exact Nat.le_refl _) _
     have hk9:Blk W9 G [.pointer p,.pointer (some ⟨by',oy+i*4,none⟩)] 134:=by rw[HW9.out];exact hk8.set 1 _
     have h9:=(HJ.out.1.later hb9).later (Below.refl _ _).drew
     have hmu:=h9.run n (.agg #[.pointer p,.pointer (some ⟨by',oy+i*4,none⟩)])
     have HREL:Hid (PrI w (zbk W9.drew r zcK (zmo n (.agg #[.pointer p,.pointer (some ⟨by',oy+i*4,none⟩)]) es)) r K [.slice ya yn yc,.slice yb ym yd] (zmo n (.agg #[.pointer p,.pointer (some ⟨by',oy+i*4,none⟩)]) es)∧ziI x y bx ox by' oy x.length (i+1) (zmo n (.agg #[.pointer p,.pointer (some ⟨by',oy+i*4,none⟩)]) es)):=by
      have h:=HJ.out.2.right HV.out
      rw[←HN.out,←HPp.out] at h
      exact⟨h9.put _,h⟩
     have d0:=h8.blk.cell 0 _ rfl
     have d1:=hk8.cell 0 _ rfl
     have d2:=hk8.cell 1 _ rfl
     have d3:=hk8.free 1
     have d4:=hk8.lt
     have f0:W9.drew.cell? ⟨K,0,none⟩=some (.slice ya yn yc):=h9.blk.cell 0 _ rfl
     have f1:W9.drew.cell? ⟨G,0,none⟩=some (.pointer p):=(hk9.below (Below.refl _ _).drew).cell 0 _ rfl
     have f2:W9.drew.cell? ⟨G,1,none⟩=some (.pointer (some ⟨by',oy+i*4,none⟩)):=(hk9.below (Below.refl _ _).drew).cell 1 _ rfl
     have f3:W9.drew.cell? ⟨by',oy+i*4,none⟩=some (.int .i64 n):=HNUM.out _ h9.below
     have HMU:=hid hmu
     clear hb8 hk8 h8 hb9 hk9 h9 hmu hza hv HV HJ HNUM
     go_upto_region 9 with fail
     rw[←HW8.out,←HG.out]
     clear n1 c0 cl hlk
     go_upto_region 10 with fail
     rw[←HW9.out]
     clear d0 d1 d2 d3 d4
     have hmu:=HMU.out
     have q1:W9.drew.cell? ⟨K,0,none⟩=some (.slice ya yn yc)∧W9.drew.cell? ⟨by',oy+i*4,none⟩=some (.int .i64 n)∧W9.drew.cell? ⟨G,0,none⟩=some (.pointer p)∧W9.drew.cell? ⟨G,1,none⟩=some (.pointer (some ⟨by',oy+i*4,none⟩)):=⟨f0,f3,f1,f2⟩
     refine zeC (fun _=>True) (fun w'=>w'.cell? ⟨K,0,none⟩=some (.slice ya yn yc)∧w'.cell? ⟨by',oy+i*4,none⟩=some (.int .i64 n)∧w'.cell? ⟨G,0,none⟩=some (.pointer p)∧w'.cell? ⟨G,1,none⟩=some (.pointer (some ⟨by',oy+i*4,none⟩))) 8 [0,0,1,0,0,0,1,1,2] (by kernel_rfl) rfl (by kernel_rfl) (fun _ _ dst _ _ h=>by cases dst <;> exact h) trivial q1 (fun OPS _=>?_)
     clear q1 f0 f1 f2 f3
     refine zaV (v:=?v100) ?hy100 ?hr100
     case hy100=>(intro w hw;go_simp;all_goals rfl)
     simp only[Act.put,pzC,pzD,pzE]
     refine zaV (v:=?v101) ?hy101 ?hr101
     case hy101=>(intro w hw;go_simp;all_goals rfl)
     simp only[Act.put,pzC,pzD,pzE]
     refine zpG (v:=?v102) ?hy102 ?hr102
     case hy102=>(intro w hw;go_simp;all_goals rfl)
     simp only[Act.put,pzC,pzD,pzE]
     refine zaV (v:=?v103) ?hy103 ?hr103
     case hy103=>(intro w hw;go_simp;all_goals rfl)
     simp only[Act.put,pzC,pzD,pzE]
     refine zaV (v:=?v104) ?hy104 ?hr104
     case hy104=>(intro w hw;go_simp;all_goals rfl)
     simp only[Act.put,pzC,pzD,pzE]
     refine zaV (v:=?v105) ?hy105 ?hr105
     case hy105=>(intro w hw;go_simp;all_goals rfl)
     simp only[Act.put,pzC,pzD,pzE]
     refine zpG (v:=?v106) ?hy106 ?hr106
     case hy106=>(intro w hw;go_simp;all_goals rfl)
     simp only[Act.put,pzC,pzD,pzE]
     refine zpG (v:=?v107) ?hy107 ?hr107
     case hy107=>(intro w hw;go_simp;all_goals rfl)
     simp only[Act.put,pzC,pzD,pzE]
     refine ziJ (fun K12 HK12=>?_)
     go_wp2_with fail
     refine HK12.out _ _ trivial ?_
     clear HK12 K12
     intro _
     refine zfy ?_
     have hxl:=HXL.out
     have hyl:=HYL.out
     go_wp2_with fail
     go_roundw
     case rel=>exact⟨i+1,_,by go_num,hlt,HREL.out⟩
     case measure=>simp[intOf];omega
    ·
     obtain rfl:i=yn:=by omega
     have HEND:Hid (zax wr r zcK es∧Below w.heap.size w wr∧w.heap.size≤r):=⟨HJ.out.1.map,HJ.out.1.below,HJ.out.1.base.1⟩
     have HPE:Hid (ziI x y bx ox by' oy x.length y.length es):=by
      have h:=HJ.out.2
      rw[HYN.out] at h
      exact h
     clear HJ
     go_wp2_with fail
     go_roundw
     case rel=>exact⟨2,es,by go_num,by omega,HEND.out,HPE.out⟩
     case measure=>simp[intOf]
  ·
   have HFIN:Hid (Q (.returned (.map (some r))) wr):=by
    rw[HQ.out]
    exact⟨r,es0,bx,ox,by',oy,rfl,HI.out.1,HP.out,HXA.out,HYA.out,HI.out.2.1⟩
   clear HI HP
   go_wp2_with fail
   exact HFIN.out
end
end Go.Proofs.YtpckoeicbjfnhaaGreatDoor
