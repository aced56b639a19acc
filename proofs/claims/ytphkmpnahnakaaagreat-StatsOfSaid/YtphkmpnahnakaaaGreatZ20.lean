/- Parts of a proof: texts of the author, merged. No condition of their own. -/
import Derived.Test.YtphkmpnahnakaaaGreatZ03
import Derived.Test.YtphkmpnahnakaaaGreatZ11
import Derived.Test.YtphkmpnahnakaaaGreatZ16
import Derived.Test.YtphkmpnahnakaaaGreatZ19
namespace Go.Proofs.YtphkmpnahnakaaaGreat
open Go.RowKit
structure SE where
 path:ByteArray
 bytes:Nat
 vals:Nat
def underS (p n:ByteArray):ByteArray:=if p.size = 0 then n else p ++ ⟨#[46]⟩ ++ n
def nameOf (fs:List Fld) (k:Int):ByteArray:=if k < 0 then ⟨#[63]⟩ else (fs.getD k.toNat .zero).name
def evA (sub:Int → List UInt8 → ByteArray → List SE) (fs:List Fld) (p:ByteArray) (x:AR):List SE:=
 ⟨underS p (nameOf fs x.k),x.whole.length,x.val.length⟩ :: (if 0 ≤ x.k ∧ (fs.getD x.k.toNat .zero).kind = 17 then sub (fs.getD x.k.toNat .zero).of x.val (underS p (nameOf fs x.k)) else [])
def evsub (s:List Mes):Nat → Int → List UInt8 → ByteArray → List SE
 | 0,_,_,_ => []
 | d + 1,m,l,p => (arecs (s.getD m.toNat .zero).fields l).flatMap (evA (evsub s d) (s.getD m.toNat .zero).fields p)
def cntE (t:List SE) (p:ByteArray):Nat:=(t.filter fun e => decide (e.path = p)).length
def bytE (t:List SE) (p:ByteArray):Nat:=((t.filter fun e => decide (e.path = p)).map SE.bytes).sum
def valE (t:List SE) (p:ByteArray):Nat:=((t.filter fun e => decide (e.path = p)).map SE.vals).sum
def SmallE (t:List SE):Prop:=t.length ≤ 1073741824 ∧ ∀ e ∈ t,e.bytes ≤ 1073741824 ∧ e.vals ≤ 1073741824
theorem cntE_app (a b:List SE) (p:ByteArray):cntE (a ++ b) p = cntE a p + cntE b p:=by unfold cntE;rw [List.filter_append,List.length_append]
theorem bytE_app (a b:List SE) (p:ByteArray):bytE (a ++ b) p = bytE a p + bytE b p:=by unfold bytE;rw [List.filter_append,List.map_append,List.sum_append]
theorem valE_app (a b:List SE) (p:ByteArray):valE (a ++ b) p = valE a p + valE b p:=by unfold valE;rw [List.filter_append,List.map_append,List.sum_append]
theorem one_E (e:SE) (p:ByteArray):cntE [e] p = (if e.path = p then 1 else 0) ∧ bytE [e] p = (if e.path = p then e.bytes else 0) ∧ valE [e] p = (if e.path = p then e.vals else 0):=by
 unfold cntE bytE valE
 by_cases h:e.path = p
 ·
  simp [h]
 ·
  simp [h]
theorem none_E {t:List SE} {p:ByteArray} (h:¬ ∃ e ∈ t,e.path = p):cntE t p = 0 ∧ bytE t p = 0 ∧ valE t p = 0:=by
 have:t.filter (fun e => decide (e.path = p)) = []:=List.filter_eq_nil_iff.2 fun e he hp => h ⟨e,he,of_decide_eq_true hp⟩
 unfold cntE bytE valE
 rw [this]
 exact ⟨rfl,rfl,rfl⟩
theorem sum_le_mul:∀ (l:List Nat) (B:Nat),(∀ x ∈ l,x ≤ B) → l.sum ≤ l.length * B
 | [],_,_ => by simp
 | x :: r,B,h => by
  have h1:=h x (by simp)
  have h2:=sum_le_mul r B fun y hy => h y (by simp [hy])
  rw [List.sum_cons,List.length_cons,Nat.add_mul,Nat.one_mul]
  omega
theorem small_le {t:List SE} (h:SmallE t) (p:ByteArray):cntE t p ≤ 1073741824 ∧ bytE t p ≤ 1152921504606846976 ∧ valE t p ≤ 1152921504606846976:=by
 have hf:(t.filter fun e => decide (e.path = p)).length ≤ 1073741824:=Nat.le_trans (List.length_filter_le _ _) h.1
 refine ⟨hf,?_,?_⟩
 ·
  have:=sum_le_mul ((t.filter fun e => decide (e.path = p)).map SE.bytes) 1073741824 fun x hx => by
   obtain ⟨e,he,rfl⟩:=List.mem_map.1 hx
   exact (h.2 e (List.mem_filter.1 he).1).1
  rw [List.length_map] at this
  unfold bytE
  have h3:=Nat.mul_le_mul_right 1073741824 hf
  omega
 ·
  have:=sum_le_mul ((t.filter fun e => decide (e.path = p)).map SE.vals) 1073741824 fun x hx => by
   obtain ⟨e,he,rfl⟩:=List.mem_map.1 hx
   exact (h.2 e (List.mem_filter.1 he).1).2
  rw [List.length_map] at this
  unfold valE
  have h3:=Nat.mul_le_mul_right 1073741824 hf
  omega
theorem SmallE.left {a b:List SE} (h:SmallE (a ++ b)):SmallE a:=⟨by have:=h.1;rw [List.length_append] at this;omega,fun e he => h.2 e (List.mem_append_left _ he)⟩
theorem evsub_len (s:List Mes):∀ (d:Nat) (m:Int) (l:List UInt8) (p:ByteArray),(evsub s d m l p).length ≤ l.length ∧ ∀ e ∈ evsub s d m l p,e.bytes ≤ l.length ∧ e.vals ≤ l.length
 | 0,_,_,_ => by simp [evsub]
 | d + 1,m,l,p => by
  obtain ⟨fs,hfs⟩:∃ fs,fs = (s.getD m.toNat .zero).fields:=⟨_,rfl⟩
  obtain ⟨hs,ht⟩:=vall_sum fs l l.length 0 (Nat.zero_le _)
  have hp:∀ i j:Nat,(part l i j).length ≤ j - i ∧ (part l i j).length ≤ l.length:=fun i j => by
   unfold part
   rw [List.length_take,List.length_drop]
   omega
  have key:∀ xs:List VW,(∀ x ∈ xs,Thin x) → ((xs.map (arOf l)).flatMap (evA (evsub s d) fs p)).length ≤ vsum xs ∧ ∀ e ∈ (xs.map (arOf l)).flatMap (evA (evsub s d) fs p),e.bytes ≤ l.length ∧ e.vals ≤ l.length:=by
   intro xs
   induction xs with
   | nil => intro _;simp [vsum]
   | cons x r ih =>
    intro h
    obtain ⟨i1,i2⟩:=ih fun y hy => h y (by simp [hy])
    have hx:1 + (x.r.to - x.r.at') ≤ vsize x:=h x (by simp)
    have hv:(arOf l x).val.length ≤ x.r.to - x.r.at' ∧ (arOf l x).val.length ≤ l.length:=hp _ _
    have hw:(arOf l x).whole.length ≤ l.length:=(hp _ _).2
    have hone:(evA (evsub s d) fs p (arOf l x)).length ≤ vsize x ∧ ∀ e ∈ evA (evsub s d) fs p (arOf l x),e.bytes ≤ l.length ∧ e.vals ≤ l.length:=by
     unfold evA
     by_cases hc:0 ≤ (arOf l x).k ∧ (fs.getD (arOf l x).k.toNat .zero).kind = 17
     ·
      rw [if_pos hc]
      obtain ⟨j1,j2⟩:=evsub_len s d (fs.getD (arOf l x).k.toNat .zero).of (arOf l x).val (underS p (nameOf fs (arOf l x).k))
      refine ⟨by rw [List.length_cons];omega,fun e he => ?_⟩
      rcases List.mem_cons.1 he with rfl | he
      ·
       exact ⟨hw,hv.2⟩
      ·
       have:=j2 e he
       omega
     ·
      rw [if_neg hc]
      refine ⟨by rw [List.length_cons,List.length_nil];omega,fun e he => ?_⟩
      rcases List.mem_cons.1 he with rfl | he
      ·
       exact ⟨hw,hv.2⟩
      ·
       cases he
    have e1:vsum (x :: r) = vsize x + vsum r:=by unfold vsum;rw [List.map_cons,List.sum_cons]
    rw [List.map_cons,List.flatMap_cons,e1]
    refine ⟨by rw [List.length_append];omega,fun e he => ?_⟩
    rcases List.mem_append.1 he with he | he
    ·
     exact hone.2 e he
    ·
     exact i2 e he
  have hk:=key (vall fs l).1 ht
  rw [evsub,← hfs]
  unfold arecs
  have hs':vsum (vall fs l).1 ≤ l.length:=by unfold vall;omega
  exact ⟨Nat.le_trans hk.1 hs',hk.2⟩
theorem evsub_small (s:List Mes) (d:Nat) (m:Int) (l:List UInt8) (p:ByteArray) (h:l.length ≤ 1073741824):SmallE (evsub s d m l p):=
 ⟨Nat.le_trans (evsub_len s d m l p).1 h,fun e he => ⟨Nat.le_trans ((evsub_len s d m l p).2 e he).1 h,Nat.le_trans ((evsub_len s d m l p).2 e he).2 h⟩⟩
end Go.Proofs.YtphkmpnahnakaaaGreat
namespace Go.Proofs.YtphkmpnahnakaaaGreat
open Go.RowKit
variable {K:Type}
def setAt [DecidableEq K] (k:K) (v:Value):List (K × Value) → List (K × Value)
 | [] => []
 | (k',u) :: r => if k = k' then (k',v) :: r else (k',u) :: setAt k v r
def putK [DecidableEq K] (k:K) (v:Value) (es:List (K × Value)):List (K × Value):=if (getOf k es).isSome = true then setAt k v es else es ++ [(k,v)]
theorem setAt_len [DecidableEq K] (k:K) (v:Value):∀ es:List (K × Value),(setAt k v es).length = es.length
 | [] => rfl
 | (k',u) :: r => by
  rw [setAt]
  split
  ·
   rfl
  ·
   rw [List.length_cons,List.length_cons,setAt_len k v r]
theorem setAt_get [DecidableEq K] (k:K) (v:Value) (k':K):∀ es:List (K × Value),getOf k' (setAt k v es) = if k' = k then (if (getOf k es).isSome = true then some v else none) else getOf k' es
 | [] => by simp [setAt,getOf]
 | (q,u) :: r => by
  rw [setAt]
  by_cases h:k = q
  ·
   subst h
   rw [if_pos rfl,getOf,getOf,getOf,if_pos rfl]
   by_cases h2:k' = k
   ·
    rw [if_pos h2,if_pos h2];rfl
   ·
    rw [if_neg h2,if_neg h2,if_neg h2]
  ·
   rw [if_neg h,getOf,getOf,getOf,if_neg h,setAt_get k v k' r]
   by_cases h2:k' = q
   ·
    rw [if_pos h2,if_neg (by rintro rfl;exact h h2),if_pos h2]
   ·
    rw [if_neg h2,if_neg h2]
theorem getOf_app2 [DecidableEq K] (k':K):∀ (a b:List (K × Value)),getOf k' (a ++ b) = match getOf k' a with | some v => some v | none => getOf k' b
 | [],b => rfl
 | (q,u) :: r,b => by
  rw [List.cons_append,getOf,getOf]
  by_cases h:k' = q
  ·
   rw [if_pos h,if_pos h]
  ·
   rw [if_neg h,if_neg h];exact getOf_app2 k' r b
theorem putK_get [DecidableEq K] (k:K) (v:Value) (es:List (K × Value)) (k':K):getOf k' (putK k v es) = if k' = k then some v else getOf k' es:=by
 unfold putK
 by_cases h:(getOf k es).isSome = true
 ·
  rw [if_pos h,setAt_get,if_pos h]
 ·
  rw [if_neg h,getOf_app2]
  by_cases h2:k' = k
  ·
   subst h2
   rw [if_pos rfl]
   cases h3:getOf k' es with
   | some u => rw [h3] at h;exact absurd rfl h
   | none => simp [getOf]
  ·
   rw [if_neg h2]
   cases getOf k' es with
   | some u => rfl
   | none => simp only [getOf];rw [if_neg h2]
theorem posOf_ge [DecidableEq K] (k:K):∀ (es:List (K × Value)) (j p:Nat) (v:Value),posOf k es j = some (p,v) → j ≤ p
 | [],_,_,_,h => by cases h
 | (k',u) :: r,j,p,v,h => by
  rw [posOf] at h
  split at h
  ·
   cases h;exact Nat.le_refl _
  ·
   exact Nat.le_of_succ_le (posOf_ge k r (j + 1) p v h)
theorem entL_set [DecidableEq K] (kv:K → Value) (k:K) (v:Value):∀ (es:List (K × Value)) (i j p:Nat) (u:Value),posOf k es j = some (p,u) →
  ((entL kv es i)[p - j]?).map (·.key) = some (kv k) ∧ (entL kv es i).modify (p - j) (fun e => { e with key:=kv k,val:=v }) = entL kv (setAt k v es) i
 | [],_,_,_,_,h => by cases h
 | (k',w) :: r,i,j,p,u,h => by
  rw [posOf] at h
  by_cases e:k = k'
  ·
   rw [if_pos e] at h
   cases h
   subst e
   rw [setAt,if_pos rfl,Nat.sub_self]
   simp [entL]
  ·
   rw [if_neg e] at h
   have hp:=posOf_ge k r (j + 1) p u h
   obtain ⟨h1,h2⟩:=entL_set kv k v r (i + 1) (j + 1) p u h
   rw [setAt,if_neg e]
   obtain ⟨q,hq⟩:∃ q,p - j = q + 1:=⟨p - j - 1,by omega⟩
   have hq':p - (j + 1) = q:=by omega
   rw [hq'] at h1 h2
   rw [hq]
   simp only [entL,List.getElem?_cons_succ,List.modify_succ_cons]
   exact ⟨h1,by rw [h2]⟩
theorem map_put [DecidableEq K] {P:Program} {t kt et:TypeId} {kv:K → Value} (KO:KeyOk P kt kv) (hsb:∀ k,Instr.sameBits 10000 (kv k) (kv k) = true) (ht:P.underlying t = some (.map kt et)) {w:World} {r:Nat} {es:List (K × Value)} (h:MapIs w r kv es) (k:K) (v:Value) :
  (Instr.mapUpdate t (.map (some r)) (kv k) v).run P w = .ok () (putMap w r kv (putK k v es)):=by
 cases hg:getOf k es with
 | none =>
  rw [map_insert KO ht h k v hg]
  unfold putK
  rw [hg,if_neg (by decide)]
 | some u =>
  have hf:=KO.find w k es 0
  obtain ⟨p,hp⟩:∃ p,posOf k es 0 = some (p,u):=by
   have:=posOf_getOf k es 0
   rw [hg] at this
   cases hp:posOf k es 0 with
   | none => rw [hp] at this;cases this
   | some x => rw [hp] at this;obtain ⟨p,y⟩:=x;cases this;exact ⟨p,rfl⟩
  rw [hp] at hf
  obtain ⟨h1,h2⟩:=entL_set kv k v es 0 0 p u hp
  rw [Nat.sub_zero] at h1 h2
  have hkey:(Instr.keyThatStays (kv k) (kv k)).run P w = .ok (kv k) w:=by
   unfold Instr.keyThatStays
   rw [if_pos (hsb k)]
   rfl
  have hk0:((((entL kv es 0).toArray)[p]?).map (·.key)).getD (kv k) = kv k:=by
   rw [List.getElem?_toArray,h1];rfl
  simp only [Instr.mapUpdate,Sem.run_bind,run_underlying ht,Result.andThen,MapKept.run_getObj_map h,KO.check,hf,hk0,hkey,MapKept.run_setObj_map _ h,putMap]
  congr 3
  unfold putK
  rw [hg,if_pos (show (some u).isSome = true from rfl),setAt_len,List.modify_toArray,h2]
theorem int_sameBits (k:Int):Instr.sameBits 10000 (.int .i64 k) (.int .i64 k) = true:=by
 simp [Instr.sameBits]
end Go.Proofs.YtphkmpnahnakaaaGreat
namespace Go.Proofs.YtphkmpnahnakaaaGreat
end Go.Proofs.YtphkmpnahnakaaaGreat
namespace Go.Proofs.YtphkmpnahnakaaaGreat
open Go.RowKit
def intV (x:Int):Value:=.int .i64 x
def i64ok (x:Int):Prop:=-9223372036854775808 ≤ x ∧ x ≤ 9223372036854775807
def IntsAt (w:World) (v:Value) (l:List Int):Prop:=Seg w v 1 l.length (l.map intV) ∧ ∀ x ∈ l,i64ok x
theorem IntsAt.keep {w w':World} {v:Value} {l:List Int} (h:IntsAt w v l) (hk:∀ p u,w.cell? p = some u → w'.cell? p = some u):IntsAt w' v l:=⟨h.1.keep hk,h.2⟩
theorem IntsAt.below {w w':World} {v:Value} {l:List Int} (h:IntsAt w v l) (hb:Below w.heap.size w w'):IntsAt w' v l:=h.keep (below_keeps hb)
theorem IntsAt.open {w:World} {v:Value} {l:List Int} (h:IntsAt w v l) :
  l.length ≤ 140737488355328 ∧ ∃ a cap,v = .slice a l.length cap ∧ (a = none → cap = 0) ∧ ∀ k x,l[k]? = some x → i64ok x ∧ ∃ b o,a = some ⟨b,o,none⟩ ∧ w.cell? ⟨b,o + k,none⟩ = some (.int .i64 x):=by
 obtain ⟨⟨_,h2,a,cap,hv,h3,h4,h5,h6⟩,hl⟩:=h
 refine ⟨h2,a,cap,hv,h5,fun k t hk => ⟨hl _ (List.mem_of_getElem? hk),h6 k _ ?_⟩⟩
 simp [hk,intV]
theorem size_int (w:World):(sizeOf 3).run Tryz.prog w = .ok 1 w:=by kernel_rfl
theorem under_ints:Tryz.prog.underlying 33 = some (.slice 3):=Tryz.underlying33
theorem info_int:(Tryz.prog.info? 3).map (fun i => (i.zero,i.size,i.bytes)) = some (some (.int .i64 0),1,8):=by kernel_rfl
def IntsOwn (w:World) (base:Nat) (v:Value) (l:List Int):Prop:=w.ownsRow base 3 1 v l.length (l.map intV)
theorem IntsOwn.ints {w:World} {base:Nat} {v:Value} {l:List Int} (h:IntsOwn w base v l) (hn:l.length ≤ 140737488355328) (hl:∀ x ∈ l,i64ok x):IntsAt w v l:=⟨row_seg h hn,hl⟩
theorem IntsOwn.later {w w':World} {base:Nat} {v:Value} {l:List Int} (h:IntsOwn w base v l) (hb:Below w.heap.size w w'):IntsOwn w' base v l:=
 World.ownsRow.kept (row:=none) h (below_grown hb none) (by cases hv:v.ownBlock with | none => exact .inl rfl | some k => exact .inr (by simp))
theorem IntsOwn.form {w:World} {base:Nat} {v:Value} {l:List Int} (h:IntsOwn w base v l):∃ a c,v = .slice a l.length c:=by
 rcases h.2 with ⟨h1,h2⟩ | ⟨g,cap,cur,hv,-⟩
 ·
  exact ⟨none,0,by rw [h1,h2]⟩
 ·
  exact ⟨_,_,hv⟩
theorem ints_append {w:World} {base:Nat} {v x:Value} {l m:List Int} (h:IntsOwn w base v l) (hx:IntsAt w x m) (hlen:l.length + m.length ≤ 17592186044416) (hbase:base ≤ w.heap.size) :
  ∃ v' w',(Builtin.append_ #[33,33] 33 #[v,x]).run Tryz.prog w = .ok v' w' ∧ IntsOwn w' base v' (l ++ m) ∧ w.grownBy w' v.ownBlock ∧ (v'.ownBlock = v.ownBlock ∨ v'.ownBlock = some w.heap.size):=by
 obtain ⟨v',w',hr,hO,hg,hat⟩:=seg_append (P:=Tryz.prog) w base 33 33 3 (.int .i64 0) 1 8 under_ints info_int rfl (by decide) v x l.length m.length _ _ h hx.1
  (by intro u hu;obtain ⟨c,-,rfl⟩:=List.mem_map.1 hu;rfl) (by omega) (by omega) hbase
 refine ⟨v',w',hr,?_,hg,hat⟩
 unfold IntsOwn
 rw [List.length_append,List.map_append]
 exact hO
/-! Two lists,from a place on -/
theorem drop_at {α:Type} {l:List α} {i:Nat} {x:α} (h:l[i]? = some x):l.drop i = x :: l.drop (i + 1):=by
 obtain ⟨hl,e⟩:=List.getElem?_eq_some_iff.1 h
 rw [List.drop_eq_getElem_cons hl,e]
set_option maxRecDepth 100000 in
set_option maxHeartbeats 4000000 in
theorem cmp_Compare_int (x y:Int) (w:World) :
  Calls Tryz.prog 80 #[.int .i64 x,.int .i64 y] w fun e w' => e = .returned (.int .i64 (if x < y then -1 else if y < x then 1 else 0)) ∧ w = w':=by
 by_cases h1:x < y
 ·
  rw [if_pos h1]
  have e2:¬ y < x:=by omega
  go_enter Tryz.func80,Tryz.ntmps80
  go_wp2
  go_ret
  exact ⟨rfl,rfl⟩
 ·
  rw [if_neg h1]
  by_cases h2:y < x
  ·
   rw [if_pos h2]
   go_enter Tryz.func80,Tryz.ntmps80
   go_wp2
   go_ret
   exact ⟨rfl,rfl⟩
  ·
   rw [if_neg h2]
   go_enter Tryz.func80,Tryz.ntmps80
   go_wp2
   go_ret
   exact ⟨rfl,rfl⟩
theorem wpList_append_int {w W:World} {ops:Array Oper} {rest:List Oper} {o:Oper} {a:Act} {Q:Exit → Act → World → Prop} (hgd:o.guard = none) (s x:Operand)
  (ho:o.op = .call { callee:=.builtin .append,args:=#[s,x],argTypes:=#[33,33] }) (hty:o.type = 33) (v:Value) (y:Int) (q:Nat) (hs:a.eval s = v) (hx:a.eval x = .slice (some ⟨q,0,none⟩) 1 1) (hw:w = W.alloc (.cells #[.int .i64 y] 3)) (hq:q = W.heap.size)
  (base:Nat) (l:List Int) (hown:IntsOwn W base v l) (hy:i64ok y) (hl:l.length ≤ 1099511627776) (hb:base ≤ W.heap.size)
  (h:∀ a' c' w',IntsOwn w' base (.slice a' (l.length + 1) c') (l ++ [y]) → (∀ w0:World,Below base w0 W → Below base w0 w') → (∀ b,b < W.heap.size → v.ownBlock ≠ some b → w'.heap[b]? = W.heap[b]?) → wpList Tryz.prog ops Q rest (a.put o.dst (.slice a' (l.length + 1) c')) w'):wpList Tryz.prog ops Q (o :: rest) a w:=by
 subst hw
 subst hq
 have hA:Below W.heap.size W (W.alloc (.cells #[.int .i64 y] 3)):=(Below.refl _ _).alloc (Nat.le_refl _) _
 have hI:IntsAt (W.alloc (.cells #[.int .i64 y] 3)) (.slice (some ⟨W.heap.size,0,none⟩) 1 1) [y]:=by
  refine ⟨⟨rfl,by simp,_,_,rfl,Nat.le_refl _,by simp,by simp,fun j u hu => ⟨_,_,rfl,?_⟩⟩,by simpa using hy⟩
  rw [Nat.zero_add,cell_of_row _ _ _ #[.int .i64 y] _ (0,0) (heap_alloc_new W _)]
  simpa [intV] using hu
 obtain ⟨v',w',hr,hO,hg,-⟩:=ints_append (hown.later hA) hI (by simp;omega) (by simp;omega)
 obtain ⟨a',c',e⟩:=hO.form
 rw [List.length_append] at e
 have e':v' = .slice a' (l.length + 1) c':=e
 subst e'
 refine wpList_append_eq hgd s x 33 ho v _ hs hx (by rw [hty];exact hr) (h a' c' w' hO (fun w0 hb0 => ?_) fun b hb2 hne => (hg.block b (by simp;omega) (fun e => hne e.symm)).trans (Below.heap_alloc W _ b hb2))
 exact (hb0.alloc hb _).grown hg (by have:=hb0.size;simp;omega) (fun q e => (World.ownsRow.lt hown q e).1)
end Go.Proofs.YtphkmpnahnakaaaGreat
namespace Go.Proofs.YtphkmpnahnakaaaGreat
open Go.RowKit
theorem owned_keep {w w':World} {base size n:Nat} {e:TypeId} {v:Value} {xs:List Value} (h:w.ownsRow base e size v n xs) (hk:∀ b,v.ownBlock = some b → w'.heap[b]? = w.heap[b]?):w'.ownsRow base e size v n xs:=by
 refine ⟨h.1,?_⟩
 rcases h.2 with h | ⟨g,cap,cur,hv,hb,hg,hr⟩
 ·
  exact .inl h
 ·
  exact .inr ⟨g,cap,cur,hv,hb,(hk g (by rw [hv];rfl)).trans hg,hr⟩
end Go.Proofs.YtphkmpnahnakaaaGreat
