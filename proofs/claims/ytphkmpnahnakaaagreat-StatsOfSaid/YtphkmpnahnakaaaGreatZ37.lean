/- Parts of a proof: texts of the author, merged. No condition of their own. -/
import Derived.Test.YtphkmpnahnakaaaGreatZ11
import Derived.Test.YtphkmpnahnakaaaGreatZ27
import Derived.Test.YtphkmpnahnakaaaGreatZ36
namespace Go.Proofs.YtphkmpnahnakaaaGreat
open Go.RowKit
def sumE (f:SE → Nat) (t:List SE) (p:ByteArray):Nat:=((t.filter fun e => decide (e.path = p)).map f).sum
theorem sumE_cons (f:SE → Nat) (e:SE) (r:List SE) (p:ByteArray):sumE f (e :: r) p = (if e.path = p then f e else 0) + sumE f r p:=by
 unfold sumE
 by_cases h:e.path = p
 ·
  rw [if_pos h,List.filter_cons_of_pos (by simpa using h),List.map_cons,List.sum_cons]
 ·
  rw [if_neg h,List.filter_cons_of_neg (by simpa using h),Nat.zero_add]
theorem sum_one (a:ByteArray) (b:Nat):∀ {ks:List ByteArray},ks.Nodup → (a ∈ ks → (ks.map fun p => if a = p then b else 0).sum = b) ∧ (¬ a ∈ ks → (ks.map fun p => if a = p then b else 0).sum = 0)
 | [],_ => by simp
 | k :: r,h => by
  rw [List.nodup_cons] at h
  obtain ⟨i1,i2⟩:=sum_one a b h.2
  rw [List.map_cons,List.sum_cons]
  by_cases e:a = k
  ·
   subst e
   rw [if_pos rfl,i2 h.1]
   exact ⟨fun _ => by omega,fun hn => absurd (by simp) hn⟩
  ·
   rw [if_neg e]
   refine ⟨fun hm => ?_,fun hn => ?_⟩
   ·
    rw [i1 (by rcases List.mem_cons.1 hm with h2 | h2;exact absurd h2 e;exact h2)];omega
   ·
    rw [i2 fun hm => hn (List.mem_cons_of_mem _ hm)]
theorem map_add_sum (f g:ByteArray → Nat):∀ ks:List ByteArray,(ks.map fun p => f p + g p).sum = (ks.map f).sum + (ks.map g).sum
 | [] => rfl
 | k :: r => by
  rw [List.map_cons,List.map_cons,List.map_cons,List.sum_cons,List.sum_cons,List.sum_cons,map_add_sum f g r]
  omega
theorem sumE_keys (f:SE → Nat) (g:ByteArray → Bool) {ks:List ByteArray} (hd:ks.Nodup):∀ (t:List SE),(∀ e ∈ t,e.path ∈ ks) → ((ks.filter g).map (sumE f t)).sum = ((t.filter fun e => g e.path).map f).sum
 | [],_ => by
  have:∀ l:List ByteArray,(l.map (sumE f [])).sum = 0:=by
   intro l
   induction l with
   | nil => rfl
   | cons a r ih => rw [List.map_cons,List.sum_cons,ih];rfl
  rw [this];rfl
 | e :: r,h => by
  have hnd:(ks.filter g).Nodup:=hd.filter _
  have ih:=sumE_keys f g hd r fun x hx => h x (by simp [hx])
  have e1:(ks.filter g).map (sumE f (e :: r)) = (ks.filter g).map fun p => (if e.path = p then f e else 0) + sumE f r p:=List.map_congr_left fun p _ => sumE_cons f e r p
  rw [e1,map_add_sum (fun p => if e.path = p then f e else 0) (sumE f r),ih]
  obtain ⟨i1,i2⟩:=sum_one e.path (f e) hnd
  by_cases hg:g e.path = true
  ·
   rw [i1 (List.mem_filter.2 ⟨h e (by simp),hg⟩),List.filter_cons_of_pos (p:=fun e:SE => g e.path) hg,List.map_cons,List.sum_cons]
  ·
   rw [i2 fun hm => hg (List.mem_filter.1 hm).2,List.filter_cons_of_neg (p:=fun e:SE => g e.path) hg,Nat.zero_add]
theorem cnt_sumE (t:List SE) (p:ByteArray):cntE t p = sumE (fun _ => 1) t p:=by
 unfold cntE sumE
 generalize t.filter (fun e => decide (e.path = p)) = l
 induction l with
 | nil => rfl
 | cons a r ih => rw [List.length_cons,List.map_cons,List.sum_cons,ih];omega
theorem len_sum (t:List SE):(t.map fun _ => 1).sum = t.length:=by
 induction t with
 | nil => rfl
 | cons a r ih => rw [List.map_cons,List.sum_cons,ih,List.length_cons];omega
theorem cnt_all {t:List SE} {ks:List ByteArray} (h:KeysOf t ks):(ks.map (cntE t)).sum = t.length:=by
 have h1:=sumE_keys (fun _ => 1) (fun _ => true) h.nd t fun e he => (h.mem _).2 ⟨e,he,rfl⟩
 rw [List.filter_eq_self.2 fun _ _ => rfl,List.filter_eq_self.2 fun _ _ => rfl] at h1
 rw [← len_sum t,← h1]
 congr 1
 exact List.map_congr_left fun p _ => cnt_sumE t p
end Go.Proofs.YtphkmpnahnakaaaGreat
namespace Go.Proofs.YtphkmpnahnakaaaGreat
open Go.RowKit
def lessS (a b:ByteArray):Prop:=a.data.toList < b.data.toList
instance (a b:ByteArray):Decidable (lessS a b):=inferInstanceAs (Decidable (a.data.toList < b.data.toList))
theorem bytes_ext {a b:ByteArray} (h:a.data.toList = b.data.toList):a = b:=by
 cases a with | mk da => cases b with | mk db => exact congrArg ByteArray.mk (Array.toList_inj.1 h)
theorem lessS_irrefl (a:ByteArray):¬ lessS a a:=List.lt_irrefl _
theorem lessS_trans {a b c:ByteArray} (h1:lessS a b) (h2:lessS b c):lessS a c:=List.lt_trans h1 h2
theorem lessS_tri {a b:ByteArray} (h1:¬ lessS a b) (h2:a ≠ b):lessS b a:=by
 have h3:b.data.toList ≤ a.data.toList:=List.not_lt.1 h1
 by_cases h4:b.data.toList < a.data.toList
 ·
  exact h4
 ·
  exact absurd (bytes_ext (List.le_antisymm (List.not_lt.1 h4) h3)) h2
def addStep (x:SR) (st:List SR × Bool) (r:SR):List SR × Bool:=
 let o1:=if st.2 = false ∧ lessS x.path r.path then st.1 ++ [x] else st.1
 let d1:=if st.2 = false ∧ lessS x.path r.path then true else st.2
 if r.path = x.path then (o1 ++ [⟨r.path,r.recs + x.recs,r.bytes + x.bytes,r.vals + x.vals⟩],true) else (o1 ++ [r],d1)
def addR (l:List SR) (x:SR):List SR:=if (l.foldl (addStep x) ([],false)).2 = true then (l.foldl (addStep x) ([],false)).1 else (l.foldl (addStep x) ([],false)).1 ++ [x]
def oneR (e:SE):SR:=⟨e.path,1,e.bytes,e.vals⟩
def addAll (l:List SR) (t:List SE):List SR:=t.foldl (fun l e => addR l (oneR e)) l
def insR (x:SR):List SR → List SR
 | [] => [x]
 | r :: t => if lessS x.path r.path then x :: r :: t else if r.path = x.path then ⟨r.path,r.recs + x.recs,r.bytes + x.bytes,r.vals + x.vals⟩ :: t else r :: insR x t
def insK (p:ByteArray):List ByteArray → List ByteArray
 | [] => [p]
 | k :: t => if lessS p k then p :: k :: t else if k = p then k :: t else k :: insK p t
theorem addStep_len (x:SR):∀ (l:List SR) (st:List SR × Bool),(l.foldl (addStep x) st).1.length ≤ st.1.length + l.length + (if st.2 = true then 0 else 1) ∧ ((l.foldl (addStep x) st).2 = false → st.2 = false ∧ (l.foldl (addStep x) st).1.length = st.1.length + l.length)
 | [],st => ⟨by simp,fun h => ⟨h,rfl⟩⟩
 | r :: t,(o,b) => by
  rw [List.foldl_cons]
  cases b with
  | true =>
   have h1:addStep x (o,true) r = (o ++ [if r.path = x.path then ⟨r.path,r.recs + x.recs,r.bytes + x.bytes,r.vals + x.vals⟩ else r],true):=by
    unfold addStep
    by_cases hp:r.path = x.path <;> simp [hp]
   rw [h1]
   obtain ⟨i1,i2⟩:=addStep_len x t (o ++ [if r.path = x.path then ⟨r.path,r.recs + x.recs,r.bytes + x.bytes,r.vals + x.vals⟩ else r],true)
   simp only [List.length_append,List.length_cons,List.length_nil] at i1 i2 ⊢
   refine ⟨by simp only [if_true] at i1 ⊢;omega,fun h => ?_⟩
   exact absurd (i2 h).1 (by simp)
  | false =>
   obtain ⟨i1,i2⟩:=addStep_len x t (addStep x (o,false) r)
   have h0:((addStep x (o,false) r).2 = true ∧ (addStep x (o,false) r).1.length ≤ o.length + 2) ∨ ((addStep x (o,false) r).2 = false ∧ (addStep x (o,false) r).1.length = o.length + 1):=by
    unfold addStep
    by_cases hl:lessS x.path r.path <;> by_cases hp:r.path = x.path <;> simp [hl,hp,lessS_irrefl]
   rcases h0 with ⟨h0,h1⟩ | ⟨h0,h1⟩
   ·
    rw [h0] at i1 i2
    simp only [List.length_cons,if_true,Bool.false_eq_true,if_false] at i1 i2 ⊢
    exact ⟨by omega,fun h => absurd (i2 h).1 (by simp)⟩
   ·
    rw [h0] at i1 i2
    simp only [List.length_cons,Bool.false_eq_true,if_false] at i1 i2 ⊢
    exact ⟨by omega,fun h => ⟨trivial,by have:=(i2 h).2;omega⟩⟩
theorem addStep_done (x:SR):∀ (l:List SR) (o:List SR),(∀ r ∈ l,r.path ≠ x.path) → l.foldl (addStep x) (o,true) = (o ++ l,true)
 | [],o,_ => by simp
 | r :: t,o,h => by
  have h1:addStep x (o,true) r = (o ++ [r],true):=by
   unfold addStep
   simp [h r (by simp)]
  rw [List.foldl_cons,h1,addStep_done x t _ fun y hy => h y (by simp [hy])]
  simp
def SortR (l:List SR):Prop:=l.Pairwise fun a b => lessS a.path b.path
theorem addStep_ins (x:SR):∀ (l:List SR) (o:List SR),SortR l → (if (l.foldl (addStep x) (o,false)).2 = true then (l.foldl (addStep x) (o,false)).1 else (l.foldl (addStep x) (o,false)).1 ++ [x]) = o ++ insR x l
 | [],o,_ => by simp [insR]
 | r :: t,o,h => by
  obtain ⟨h1,h2⟩:=List.pairwise_cons.1 h
  rw [List.foldl_cons,insR]
  by_cases hl:lessS x.path r.path
  ·
   have hne:¬ r.path = x.path:=fun e => lessS_irrefl _ (e ▸ hl)
   have e1:addStep x (o,false) r = (o ++ [x] ++ [r],true):=by unfold addStep;simp [hl,hne]
   rw [e1,addStep_done x t _ fun y hy e => lessS_irrefl _ (by have:=lessS_trans hl (h1 y hy);rw [e] at this;exact this),if_pos hl]
   simp
  ·
   by_cases hp:r.path = x.path
   ·
    have e1:addStep x (o,false) r = (o ++ [⟨r.path,r.recs + x.recs,r.bytes + x.bytes,r.vals + x.vals⟩],true):=by
     have hn:¬ ((o,false).2 = false ∧ lessS x.path r.path):=fun h => hl h.2
     unfold addStep
     show (if r.path = x.path then _ else _) = _
     rw [if_pos hp]
     show ((if (o,false).2 = false ∧ lessS x.path r.path then o ++ [x] else o) ++ _,true) = _
     rw [if_neg hn]
    rw [e1,addStep_done x t _ fun y hy e => lessS_irrefl _ (by have:=h1 y hy;rw [e,hp] at this;exact this),if_neg hl,if_pos hp]
    simp
   ·
    have e1:addStep x (o,false) r = (o ++ [r],false):=by unfold addStep;simp [hl,hp]
    rw [e1,if_neg hl,if_neg hp,addStep_ins x t _ h2]
    simp
theorem addR_ins {x:SR} {l:List SR} (h:SortR l):addR l x = insR x l:=by
 have:=addStep_ins x l [] h
 rw [List.nil_append] at this
 exact this
def SortK (l:List ByteArray):Prop:=l.Pairwise lessS
theorem insK_mem (p:ByteArray):∀ (l:List ByteArray) (q:ByteArray),q ∈ insK p l ↔ q = p ∨ q ∈ l
 | [],q => by simp [insK]
 | k :: t,q => by
  rw [insK]
  by_cases h1:lessS p k
  ·
   rw [if_pos h1];simp
  ·
   rw [if_neg h1]
   by_cases h2:k = p
   ·
    rw [if_pos h2];subst h2;simp
   ·
    rw [if_neg h2,List.mem_cons,insK_mem p t q,List.mem_cons]
    constructor
    ·
     rintro (h | h | h)
     ·
      exact .inr (.inl h)
     ·
      exact .inl h
     ·
      exact .inr (.inr h)
    ·
     rintro (h | h | h)
     ·
      exact .inr (.inl h)
     ·
      exact .inl h
     ·
      exact .inr (.inr h)
theorem insK_sort {p:ByteArray}:∀ {l:List ByteArray},SortK l → SortK (insK p l)
 | [],_ => by simp [insK,SortK]
 | k :: t,h => by
  obtain ⟨h1,h2⟩:=List.pairwise_cons.1 h
  rw [insK]
  by_cases hl:lessS p k
  ·
   rw [if_pos hl]
   exact List.pairwise_cons.2 ⟨fun q hq => by
    rcases List.mem_cons.1 hq with rfl | hq
    ·
     exact hl
    ·
     exact lessS_trans hl (h1 q hq),h⟩
  ·
   rw [if_neg hl]
   by_cases hp:k = p
   ·
    rw [if_pos hp];exact h
   ·
    rw [if_neg hp]
    exact List.pairwise_cons.2 ⟨fun q hq => by
     rcases (insK_mem p t q).1 hq with rfl | hq
     ·
      exact lessS_tri hl (fun e => hp e.symm)
     ·
      exact h1 q hq,insK_sort h2⟩
theorem ins_rows (e:SE) (f g:ByteArray → SR) (hf:∀ p,(f p).path = p):∀ (K:List ByteArray),SortK K → (∀ k ∈ K,k ≠ e.path → g k = f k) → (¬ e.path ∈ K → g e.path = oneR e) →
  (e.path ∈ K → g e.path = ⟨e.path,(f e.path).recs + 1,(f e.path).bytes + e.bytes,(f e.path).vals + e.vals⟩) → insR (oneR e) (K.map f) = (insK e.path K).map g
 | [],_,_,h2,_ => by simp [insR,insK,h2 (by simp)]
 | k :: t,hs,h1,h2,h3 => by
  obtain ⟨s1,s2⟩:=List.pairwise_cons.1 hs
  have hp:(oneR e).path = e.path:=rfl
  rw [List.map_cons,insR,insK,hf,hp]
  by_cases hl:lessS e.path k
  ·
   have hn:¬ e.path ∈ k :: t:=fun hm => by
    rcases List.mem_cons.1 hm with hm | hm
    ·
     exact lessS_irrefl k (by rw [hm] at hl;exact hl)
    ·
     exact lessS_irrefl _ (lessS_trans hl (s1 _ hm))
   rw [if_pos hl,if_pos hl,List.map_cons,List.map_cons,h2 hn,h1 k (by simp) (fun e2 => hn (by simp [e2]))]
   congr 2
   refine List.map_congr_left fun q hq => ?_
   exact (h1 q (by simp [hq]) fun e2 => hn (by rw [← e2];simp [hq])).symm
  ·
   rw [if_neg hl,if_neg hl]
   by_cases hk:k = e.path
   ·
    rw [if_pos hk,if_pos hk,List.map_cons]
    have hn:¬ e.path ∈ t:=fun hm => lessS_irrefl _ (by have:=s1 _ hm;rw [hk] at this;exact this)
    congr 1
    ·
     rw [hk,h3 (by simp [hk])]
     rfl
    ·
     refine List.map_congr_left fun q hq => ?_
     exact (h1 q (by simp [hq]) fun e2 => hn (by rw [← e2];exact hq)).symm
   ·
    rw [if_neg hk,if_neg hk,List.map_cons,h1 k (by simp) hk]
    congr 1
    exact ins_rows e f g hf t s2 (fun q hq => h1 q (by simp [hq])) (fun hn => h2 fun hm => by
     rcases List.mem_cons.1 hm with hm | hm
     ·
      exact hk hm.symm
     ·
      exact hn hm) fun hm => h3 (by simp [hm])
theorem rows_sort {K:List ByteArray} (h:SortK K) (t:List SE):SortR (K.map (rowS t)):=List.pairwise_map.2 h
theorem addAll_rows (t:List SE):∃ K,SortK K ∧ (∀ p,p ∈ K ↔ ∃ e ∈ t,e.path = p) ∧ addAll [] t = K.map (rowS t):=by
 have key:∀ (u:List SE),∃ K,SortK K ∧ (∀ p,p ∈ K ↔ ∃ e ∈ u.reverse,e.path = p) ∧ addAll [] u.reverse = K.map (rowS u.reverse):=by
  intro u
  induction u with
  | nil => exact ⟨[],List.Pairwise.nil,fun p => by simp,rfl⟩
  | cons e u ih =>
   obtain ⟨K,k1,k2,k3⟩:=ih
   refine ⟨insK e.path K,insK_sort k1,fun p => ?_,?_⟩
   ·
    rw [insK_mem,k2,List.reverse_cons]
    constructor
    ·
     rintro (h | ⟨x,hx,h⟩)
     ·
      exact ⟨e,by simp,h.symm⟩
     ·
      exact ⟨x,List.mem_append_left _ hx,h⟩
    ·
     rintro ⟨x,hx,h⟩
     rcases List.mem_append.1 hx with hx | hx
     ·
      exact .inr ⟨x,hx,h⟩
     ·
      exact .inl (by rw [List.mem_singleton.1 hx] at h;exact h.symm)
   ·
    have e1:addAll [] (e :: u).reverse = addR (addAll [] u.reverse) (oneR e):=by
     unfold addAll
     rw [List.reverse_cons,List.foldl_append]
     rfl
    rw [e1,k3,addR_ins (rows_sort k1 _),List.reverse_cons]
    have hrow:∀ p,rowS (u.reverse ++ [e]) p = ⟨p,cntE u.reverse p + (if e.path = p then 1 else 0),bytE u.reverse p + (if e.path = p then e.bytes else 0),valE u.reverse p + (if e.path = p then e.vals else 0)⟩:=fun p => by
     unfold rowS
     obtain ⟨h1,h2,h3⟩:=one_E e p
     rw [cntE_app,bytE_app,valE_app,h1,h2,h3]
    refine ins_rows e _ _ (fun _ => rfl) K k1 (fun k _ hk => ?_) (fun hn => ?_) (fun _ => ?_)
    ·
     rw [hrow,if_neg (fun h => hk h.symm),if_neg (fun h => hk h.symm),if_neg (fun h => hk h.symm)]
     rfl
    ·
     obtain ⟨h1,h2,h3⟩:=none_E fun h => hn ((k2 e.path).2 h)
     rw [hrow,h1,h2,h3,if_pos rfl,if_pos rfl,if_pos rfl]
     simp [oneR]
    ·
     rw [hrow,if_pos rfl,if_pos rfl,if_pos rfl]
     rfl
 have:=key t.reverse
 rw [List.reverse_reverse] at this
 exact this
theorem sortK_unique:∀ {a b:List ByteArray},SortK a → SortK b → (∀ p,p ∈ a ↔ p ∈ b) → a = b
 | [],[],_,_,_ => rfl
 | [],y :: b,_,_,h => absurd ((h y).2 (by simp)) (by simp)
 | x :: a,[],_,_,h => absurd ((h x).1 (by simp)) (by simp)
 | x :: a,y :: b,ha,hb,h => by
  obtain ⟨a1,a2⟩:=List.pairwise_cons.1 ha
  obtain ⟨b1,b2⟩:=List.pairwise_cons.1 hb
  have hxy:x = y:=by
   by_cases e:x = y
   ·
    exact e
   ·
    have h1:x ∈ b:=by
     rcases List.mem_cons.1 ((h x).1 (by simp)) with h1 | h1
     ·
      exact absurd h1 e
     ·
      exact h1
    have h2:y ∈ a:=by
     rcases List.mem_cons.1 ((h y).2 (by simp)) with h2 | h2
     ·
      exact absurd h2.symm e
     ·
      exact h2
    exact absurd (lessS_trans (a1 _ h2) (b1 _ h1)) (lessS_irrefl _)
  subst hxy
  congr 1
  refine sortK_unique a2 b2 fun p => ?_
  constructor
  ·
   intro hp
   rcases List.mem_cons.1 ((h p).1 (by simp [hp])) with e | h1
   ·
    subst e;exact absurd (a1 _ hp) (lessS_irrefl _)
   ·
    exact h1
  ·
   intro hp
   rcases List.mem_cons.1 ((h p).2 (by simp [hp])) with e | h1
   ·
    subst e;exact absurd (b1 _ hp) (lessS_irrefl _)
   ·
    exact h1
theorem addAll_eq {t:List SE} {K:List ByteArray} (hK:KeysOf t K) (hs:SortK K):addAll [] t = K.map (rowS t):=by
 obtain ⟨K',h1,h2,h3⟩:=addAll_rows t
 rw [h3,sortK_unique h1 hs fun p => (h2 p).trans (hK.mem p).symm]
theorem addR_len (l:List SR) (x:SR):(addR l x).length ≤ l.length + 1:=by
 obtain ⟨h1,h2⟩:=addStep_len x l ([],false)
 unfold addR
 by_cases h:(l.foldl (addStep x) ([],false)).2 = true
 ·
  rw [if_pos h];simpa using h1
 ·
  rw [if_neg h,List.length_append,(h2 (by simpa using h)).2]
  simp
theorem addAll_len:∀ (t:List SE) (l:List SR),(addAll l t).length ≤ l.length + t.length
 | [],l => by simp [addAll]
 | e :: t,l => by
  have h:=addAll_len t (addR l (oneR e))
  have h2:=addR_len l (oneR e)
  rw [List.length_cons]
  show (addAll (addR l (oneR e)) t).length ≤ _
  omega
theorem addAll_app (l:List SR) (a b:List SE):addAll l (a ++ b) = addAll (addAll l a) b:=List.foldl_append ..
def BoundR (B:Nat) (l:List SR):Prop:=∀ r ∈ l,r.recs ≤ B ∧ r.bytes ≤ B ∧ r.vals ≤ B
theorem addStep_bound {x:SR} {B C:Nat} (hx:x.recs ≤ C ∧ x.bytes ≤ C ∧ x.vals ≤ C):∀ (l:List SR) (st:List SR × Bool),BoundR B l → BoundR (B + C) st.1 → BoundR (B + C) (l.foldl (addStep x) st).1
 | [],_,_,h => h
 | r :: t,(o,b),hl,ho => by
  rw [List.foldl_cons]
  refine addStep_bound hx t _ (fun y hy => hl y (by simp [hy])) ?_
  have hr:=hl r (by simp)
  have h1:BoundR (B + C) (if b = false ∧ lessS x.path r.path then o ++ [x] else o):=by
   split
   ·
    intro y hy
    rcases List.mem_append.1 hy with hy | hy
    ·
     exact ho y hy
    ·
     rw [List.mem_singleton.1 hy];omega
   ·
    exact ho
  unfold addStep
  simp only
  split
  ·
   intro y hy
   rcases List.mem_append.1 hy with hy | hy
   ·
    exact h1 y hy
   ·
    rw [List.mem_singleton.1 hy];simp only;omega
  ·
   intro y hy
   rcases List.mem_append.1 hy with hy | hy
   ·
    exact h1 y hy
   ·
    rw [List.mem_singleton.1 hy];omega
theorem addR_bound {x:SR} {B C:Nat} (hx:x.recs ≤ C ∧ x.bytes ≤ C ∧ x.vals ≤ C) {l:List SR} (h:BoundR B l):BoundR (B + C) (addR l x):=by
 have h1:=addStep_bound hx l ([],false) h (fun _ hy => by cases hy)
 unfold addR
 split
 ·
  exact h1
 ·
  intro y hy
  rcases List.mem_append.1 hy with hy | hy
  ·
   exact h1 y hy
  ·
   rw [List.mem_singleton.1 hy];omega
theorem addAll_bound {C:Nat} (hC:1 ≤ C):∀ (t:List SE),(∀ e ∈ t,e.bytes ≤ C ∧ e.vals ≤ C) → ∀ (B:Nat) (l:List SR),BoundR B l → BoundR (B + t.length * C) (addAll l t)
 | [],_,B,l,h => by simpa [addAll] using h
 | e :: t,ht,B,l,h => by
  have he:=ht e (by simp)
  have h1:=addAll_bound hC t (fun x hx => ht x (by simp [hx])) (B + C) (addR l (oneR e)) (addR_bound (x:=oneR e) ⟨hC,he.1,he.2⟩ h)
  rw [List.length_cons,Nat.add_mul,Nat.one_mul,Nat.add_comm (t.length * C) C,← Nat.add_assoc]
  exact h1
end Go.Proofs.YtphkmpnahnakaaaGreat
namespace Go.Proofs.YtphkmpnahnakaaaGreat
open Go.RowKit
def SegR (w:World) (v:Value) (l:List SR):Prop:=Seg w v 4 l.length (l.flatMap srC)
theorem flat_rows:∀ {rows:List (List Value)} {l:List SR},rows.length = l.length → (∀ (i:Nat) (r:List Value) (x:SR),rows[i]? = some r → l[i]? = some x → r = srC x) → rows.flatten = l.flatMap srC
 | [],[],_,_ => rfl
 | r :: rs,x :: xs,h,hr => by
  rw [List.flatten_cons,List.flatMap_cons,hr 0 r x rfl rfl,flat_rows (by simpa using h) fun i r x h1 h2 => hr (i + 1) r x (by simpa using h1) (by simpa using h2)]
theorem srC_one:∀ (l:List SR),∀ u ∈ l.flatMap srC,u.oneCell' = true:=fun l u hu => by
 obtain ⟨x,-,hx⟩:=List.mem_flatMap.1 hu
 simp [srC] at hx
 rcases hx with rfl | rfl | rfl | rfl <;> rfl
theorem srC_get:∀ (l:List SR) (i j:Nat) (x:SR),l[i]? = some x → j < 4 → (l.flatMap srC)[i * 4 + j]? = (srC x)[j]?
 | [],_,_,_,h,_ => by simp at h
 | y :: r,0,j,x,h,hj => by
  simp at h
  subst h
  rw [List.flatMap_cons,Nat.zero_mul,Nat.zero_add,List.getElem?_append_left (by simp [srC];omega)]
 | y :: r,i + 1,j,x,h,hj => by
  rw [List.flatMap_cons,List.getElem?_append_right (by simp [srC];omega)]
  have e:(i + 1) * 4 + j - (srC y).length = i * 4 + j:=by simp [srC];omega
  rw [e]
  exact srC_get r i j x (by simpa using h) hj
theorem SegR.open {w:World} {v:Value} {l:List SR} (h:SegR w v l):∃ a cap,v = .slice a l.length cap ∧ ∀ i x,l[i]? = some x → ∃ b o,a = some ⟨b,o,none⟩ ∧
  w.cell? ⟨b,o + i * 4,none⟩ = some (.string x.path) ∧ w.cell? ⟨b,o + i * 4 + 1,none⟩ = some (.int .i64 (x.recs:Int)) ∧ w.cell? ⟨b,o + i * 4 + 2,none⟩ = some (.int .i64 (x.bytes:Int)) ∧ w.cell? ⟨b,o + i * 4 + 3,none⟩ = some (.int .i64 (x.vals:Int)):=by
 obtain ⟨-,-,a,cap,hv,-,-,-,hc⟩:=h
 refine ⟨a,cap,hv,fun i x hx => ?_⟩
 obtain ⟨b,o,ha,c0⟩:=hc (i * 4 + 0) _ ((srC_get l i 0 x hx (by decide)).trans rfl)
 obtain ⟨b1,o1,ha1,c1⟩:=hc (i * 4 + 1) _ ((srC_get l i 1 x hx (by decide)).trans rfl)
 obtain ⟨b2,o2,ha2,c2⟩:=hc (i * 4 + 2) _ ((srC_get l i 2 x hx (by decide)).trans rfl)
 obtain ⟨b3,o3,ha3,c3⟩:=hc (i * 4 + 3) _ ((srC_get l i 3 x hx (by decide)).trans rfl)
 rw [ha] at ha1 ha2 ha3
 cases ha1
 cases ha2
 cases ha3
 exact ⟨b,o,ha,by simpa using c0,by rw [Nat.add_assoc];exact c1,by rw [Nat.add_assoc];exact c2,by rw [Nat.add_assoc];exact c3⟩
theorem SegR.below {w w':World} {v:Value} {l:List SR} (h:SegR w v l) (hb:Below w.heap.size w w'):SegR w' v l:=Seg.keep h (below_keeps hb)
end Go.Proofs.YtphkmpnahnakaaaGreat
