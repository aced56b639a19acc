/- Parts of a proof: texts of the author, merged. No condition of their own. -/
import Derived.Test.YtdpnmdkbdibkpaaGreatDoorRows
import Derived.Test.YtdpnmdkbdibkpaaGreatDoorZ01
import Derived.Test.YtdpnmdkbdibkpaaGreatDoorZ03
import Derived.Test.YtdpnmdkbdibkpaaGreatDoorZ07
import Derived.Deep.Slices
import Derived.SizedLaws
import Derived.ProofKit
import Derived.RangeFuncFrom
import Derived.WalkKit
import Derived.OwnWalkIn
import Derived.TacticsInMore
import Derived.RegionIn
import Derived.LoopNIn
import Derived.LoopIn
import Derived.Shelf.Abstract
namespace Go.Proofs.YtdpnmdkbdibkpaaGreatDoor
set_option maxRecDepth 100000
set_option maxHeartbeats 16000000
section
open Go.RowKit
structure Val (α:Type) where
 num:Int
 words:List Nat
 texts:List (List UInt8)
 subs:List α
structure zec (α:Type) where
 vals:List (Val α)
 unk:List (List UInt8)
def M:Nat→Type
 | 0=>Empty
 | d+1=>zec (M d)
def M.vals {d:Nat}(x:M (d+1)):List (Val (M d)):=zec.vals x
def M.unk {d:Nat}(x:M (d+1)):List (List UInt8):=zec.unk x
def Val.zero {α:Type}:Val α:=⟨0,[],[],[]⟩
def zbA (t:List UInt8):Value:=.string ⟨t.toArray⟩
def zgK (x:Nat):Value:=.int .u64 (x:Int)
def zaV (w:World)(v:Value)(l:List (List UInt8)):Prop:=Seg w v 1 l.length (l.map zbA)∧∀ t∈l,t.length≤140737488355328
def zbn (w:World)(v:Value)(l:List Nat):Prop:=Seg w v 1 l.length (l.map zgK)∧∀ x∈l,x<2 ^ 64
def zca {α:Type}(P:World→List Value→α→Prop)(k:Nat)(w:World)(v:Value)(l:List α):Prop:=
 ∃ rows:List (List Value),rows.length=l.length∧(∀ r∈rows,r.length=k)∧Seg w v k l.length rows.flatten∧∀ (i:Nat) (r:List Value) (x:α),rows[i]?=some r→l[i]?=some x→P w r x
def zc8 {α:Type}(P:World→Value→α→Prop)(w:World)(v:Value)(l:List α):Prop:=zca (fun w r x=>P w (.agg r.toArray) x) 2 w v l
def zat {α:Type}(P:World→Value→α→Prop)(w:World)(v:Value)(x:Val α):Prop:=
 ∃ wv tv sv,v= .agg #[.int .i64 x.num,wv,tv,sv]∧(-9223372036854775808≤x.num∧x.num≤9223372036854775807)∧zbn w wv x.words∧zaV w tv x.texts∧zc8 P w sv x.subs
def zeG {α:Type}(P:World→Value→α→Prop)(w:World)(v:Value)(l:List (Val α)):Prop:=zca (fun w r x=>zat P w (.agg r.toArray) x) 4 w v l
def zac:(d:Nat)→World→Value→M d→Prop
 | 0,_,_,_=>False
 | d+1,w,v,x=>∃ vv uv,v= .agg #[vv,uv]∧zeG (zac d) w vv (M.vals x)∧zaV w uv (M.unk x)
theorem zaV.keep {w w':World}{v:Value}{l:List (List UInt8)}(h:zaV w v l)(hk:∀ p u,w.cell? p=some u→w'.cell? p=some u):zaV w' v l:=⟨h.1.keep hk,h.2⟩
theorem zbn.keep {w w':World}{v:Value}{l:List Nat}(h:zbn w v l)(hk:∀ p u,w.cell? p=some u→w'.cell? p=some u):zbn w' v l:=⟨h.1.keep hk,h.2⟩
theorem zca.keep {α:Type}{P:World→List Value→α→Prop}{k:Nat}{w w':World}{v:Value}{l:List α}(h:zca P k w v l)(hk:∀ p u,w.cell? p=some u→w'.cell? p=some u)(hP:∀ r x,P w r x→P w' r x):zca P k w' v l:=
 let ⟨rows,h1,h0,h2,h3⟩:=h
 ⟨rows,h1,h0,h2.keep hk,fun i r x hr hx=>hP _ _ (h3 i r x hr hx)⟩
theorem zc8.keep {α:Type}{P:World→Value→α→Prop}{w w':World}{v:Value}{l:List α}(h:zc8 P w v l)(hk:∀ p u,w.cell? p=some u→w'.cell? p=some u)(hP:∀ v x,P w v x→P w' v x):zc8 P w' v l:=
 zca.keep h hk fun _ _ hx=>hP _ _ hx
theorem zat.keep {α:Type}{P:World→Value→α→Prop}{w w':World}{v:Value}{x:Val α}(h:zat P w v x)(hk:∀ p u,w.cell? p=some u→w'.cell? p=some u)(hP:∀ v x,P w v x→P w' v x):zat P w' v x:=
 let ⟨wv,tv,sv,h1,h2,h3,h4,h5⟩:=h
 ⟨wv,tv,sv,h1,h2,h3.keep hk,h4.keep hk,h5.keep hk hP⟩
theorem zeG.keep {α:Type}{P:World→Value→α→Prop}{w w':World}{v:Value}{l:List (Val α)}(h:zeG P w v l)(hk:∀ p u,w.cell? p=some u→w'.cell? p=some u)(hP:∀ v x,P w v x→P w' v x):zeG P w' v l:=
 zca.keep h hk fun _ _ hx=>hx.keep hk hP
theorem zac.keep:∀ {d:Nat} {w w':World} {v:Value} {x:M d},zac d w v x→(∀ p u,w.cell? p=some u→w'.cell? p=some u)→zac d w' v x
 | 0,_,_,_,_,h,_=>h.elim
 | d+1,_,_,_,_,h,hk=>by
  obtain⟨vv,uv,h1,h2,h3⟩:=h
  exact⟨vv,uv,h1,h2.keep hk fun v x hx=>zac.keep hx hk,h3.keep hk⟩
theorem zac.below {d:Nat}{w w':World}{v:Value}{x:M d}(h:zac d w v x)(hb:Below w.heap.size w w'):zac d w' v x:=h.keep (zaa hb)
theorem VMsg.keep {d:Nat}{w w':World}{v:Value}{x:Val (M d)}(h:zat (zac d) w v x)(hk:∀ p u,w.cell? p=some u→w'.cell? p=some u):zat (zac d) w' v x:=zat.keep h hk fun _ _ hx=>hx.keep hk
theorem VMsg.below {d:Nat}{w w':World}{v:Value}{x:Val (M d)}(h:zat (zac d) w v x)(hb:Below w.heap.size w w'):zat (zac d) w' v x:=VMsg.keep h (zaa hb)
theorem zaV.open {w:World}{v:Value}{l:List (List UInt8)}(h:zaV w v l) :
  l.length≤140737488355328∧∃ a cap,v= .slice a l.length cap∧(a=none→cap=0)∧∀ k t,l[k]?=some t→t.length≤140737488355328∧∃ b o,a=some ⟨b,o,none⟩∧w.cell? ⟨b,o+k,none⟩=some (zbA t):=by
 obtain⟨⟨_,h2,a,cap,hv,h3,h4,h5,h6⟩,hl⟩:=h
 refine⟨h2,a,cap,hv,h5,fun k t hk=>⟨hl _ (List.mem_of_getElem? hk),h6 k _ ?_⟩⟩
 simp[hk]
theorem zbn.open {w:World}{v:Value}{l:List Nat}(h:zbn w v l) :
  l.length≤140737488355328∧∃ a cap,v= .slice a l.length cap∧(a=none→cap=0)∧∀ k x,l[k]?=some x→x<2 ^ 64∧∃ b o,a=some ⟨b,o,none⟩∧w.cell? ⟨b,o+k,none⟩=some (zgK x):=by
 obtain⟨⟨_,h2,a,cap,hv,h3,h4,h5,h6⟩,hl⟩:=h
 refine⟨h2,a,cap,hv,h5,fun k t hk=>⟨hl _ (List.mem_of_getElem? hk),h6 k _ ?_⟩⟩
 simp[hk]
theorem zgL {k:Nat}:∀ (rows:List (List Value)) (i j:Nat) (r:List Value),(∀ r∈rows,r.length=k)→rows[i]?=some r→j<k→rows.flatten[i*k+j]?=r[j]?
 | [],_,_,_,_,h,_=>by simp at h
 | y::l,0,j,r,hk,h,hj=>by
  simp at h
  subst h
  rw[List.flatten_cons,Nat.zero_mul,Nat.zero_add,List.getElem?_append_left (by rw[hk y (by simp)];exact hj)]
 | y::l,i+1,j,r,hk,h,hj=>by
  have:=zgL l i j r (fun r hr=>hk r (by simp[hr])) (by simpa using h) hj
  rw[List.flatten_cons,List.getElem?_append_right (by rw[hk y (by simp),Nat.succ_mul];omega),hk y (by simp)]
  rw[show (i+1)*k+j - k=i*k+j by rw[Nat.succ_mul];omega]
  exact this
theorem zca.open {α:Type}{P:World→List Value→α→Prop}{k:Nat}(hk0:0<k){w:World}{v:Value}{l:List α}(h:zca P k w v l) :
  l.length≤140737488355328∧∃ a cap,v= .slice a l.length cap∧(a=none→cap=0)∧∀ i x,l[i]?=some x→∃ b o r,a=some ⟨b,o,none⟩∧r.length=k∧(∀ j u,r[j]?=some u→w.cell? ⟨b,o+i*k+j,none⟩=some u)∧P w r x:=by
 obtain⟨rows,hl,hk,⟨_,h2,a,cap,hv,h3,h4,h5,h6⟩,hP⟩:=h
 refine⟨h2,a,cap,hv,h5,fun i x hi=>?_⟩
 have hil:i<l.length:=(List.getElem?_eq_some_iff.1 hi).1
 have hr:rows[i]?=some (rows[i]'(by omega)):=List.getElem?_eq_getElem (by omega)
 have hrk:=hk _ (List.mem_of_getElem? hr)
 generalize rows[i]'(by omega)=r at hr hrk
 have hc:=fun j (hj:j<k)=>zgL rows i j r hk hr hj
 have h0:r[0]?=some (r[0]'(by omega)):=List.getElem?_eq_getElem (by omega)
 obtain⟨b,o,ha,g0⟩:=h6 _ _ ((hc 0 hk0).trans h0)
 refine⟨b,o,r,ha,hrk,fun j u hu=>?_,hP i r x hr hi⟩
 have hj:j<k:=by rw[←hrk];exact (List.getElem?_eq_some_iff.1 hu).1
 obtain⟨b',o',ha',hcell⟩:=h6 _ u ((hc j hj).trans hu)
 rw[ha] at ha'
 cases ha'
 rw[Nat.add_assoc];exact hcell
theorem zc8.open {α:Type}{P:World→Value→α→Prop}{w:World}{v:Value}{l:List α}(h:zc8 P w v l) :
  l.length≤140737488355328∧∃ a cap,v= .slice a l.length cap∧(a=none→cap=0)∧∀ k x,l[k]?=some x→∃ b o v1 v2,a=some ⟨b,o,none⟩∧w.cell? ⟨b,o+k*2,none⟩=some v1∧w.cell? ⟨b,o+k*2+1,none⟩=some v2∧P w (.agg #[v1,v2]) x:=by
 obtain⟨h1,a,cap,h2,h3,h4⟩:=zca.open (by decide) h
 refine⟨h1,a,cap,h2,h3,fun k x hx=>?_⟩
 obtain⟨b,o,r,ha,hr,hc,hP⟩:=h4 k x hx
 match r,hr with
 | [v1,v2],_=>exact⟨b,o,v1,v2,ha,hc 0 _ rfl,hc 1 _ rfl,hP⟩
theorem zeG.open {α:Type}{P:World→Value→α→Prop}{w:World}{v:Value}{l:List (Val α)}(h:zeG P w v l) :
  l.length≤140737488355328∧∃ a cap,v= .slice a l.length cap∧(a=none→cap=0)∧∀ k x,l[k]?=some x→∃ b o v1 v2 v3,a=some ⟨b,o,none⟩ ∧
   w.cell? ⟨b,o+k*4,none⟩=some (.int .i64 x.num)∧w.cell? ⟨b,o+k*4+1,none⟩=some v1∧w.cell? ⟨b,o+k*4+2,none⟩=some v2∧w.cell? ⟨b,o+k*4+3,none⟩=some v3 ∧
   zat P w (.agg #[.int .i64 x.num,v1,v2,v3]) x:=by
 obtain⟨h1,a,cap,h2,h3,h4⟩:=zca.open (by decide) h
 refine⟨h1,a,cap,h2,h3,fun k x hx=>?_⟩
 obtain⟨b,o,r,ha,hr,hc,hP⟩:=h4 k x hx
 match r,hr with
 | [v0,v1,v2,v3],_ =>
  have hP':=hP
  obtain⟨wv,tv,sv,e,-⟩:=hP'
  cases e
  exact⟨b,o,v1,v2,v3,ha,hc 0 _ rfl,hc 1 _ rfl,hc 2 _ rfl,hc 3 _ rfl,hP⟩
/-! The weight: how many things and bytes there are. -/
def twt (l:List (List UInt8)):Nat:=(l.map fun t=>1+t.length).sum
def vwt {α:Type}(f:α→Nat)(v:Val α):Nat:=1+v.words.length+twt v.texts+(v.subs.map f).sum
def mwt:(d:Nat)→M d→Nat
 | 0,_=>0
 | d+1,x=>1+twt (M.unk x)+((M.vals x).map (vwt (mwt d))).sum
theorem zlj {α:Type}(f:α→Nat)(l:List α)(k:Nat)(x:α)(h:l[k]?=some x):((l.take (k+1)).map f).sum=((l.take k).map f).sum+f x:=by
 rw[List.take_add_one,h]
 simp
theorem zeQ {α:Type}(f:α→Nat)(l:List α)(k:Nat):((l.take k).map f).sum≤(l.map f).sum:=by
 conv=>rhs;rw[←List.take_append_drop k l]
 rw[List.map_append,List.sum_append]
 omega
theorem zau {α:Type}(f:α→Nat)(l:List α)(x:α)(h:x∈l):f x≤(l.map f).sum:=by
 obtain⟨k,hk⟩:=List.mem_iff_getElem?.1 h
 have h1:=zlj f l k x hk
 have h2:=zeQ f l (k+1)
 omega
end
section
open Go.RowKit Go.Deep
def zcC {H:Type}(P:Program)(t:TypeId)(d:DataW H):Prop:=∀ n∈d.weights P t,n≤reachBytes
theorem zgM {H:Type}{P:Program}{t e:TypeId}(ht:P.underlying t=some (.slice e)){es sp:List (DataW H)}(h:zcC P t (.slice es sp)) :
  (es.length+sp.length)*P.bytesOf e≤reachBytes∧(∀ d∈es,zcC P e d)∧(∀ d∈sp,zcC P e d):=by
 have all:∀ (l:List (DataW H)) (d:DataW H),d∈l→∀ n∈d.weights P e,n∈DataW.weightsAll P e l:=by
  intro l
  induction l with
  | nil=>intro d hd;simp at hd
  | cons x r ih =>
   intro d hd n hn
   rw[DataW.weightsAll]
   rcases List.mem_cons.1 hd with rfl|hd
   ·
    exact List.mem_append_left _ hn
   ·
    exact List.mem_append_right _ (ih d hd n hn)
 refine⟨h _ (by simp[DataW.weights,ht]),fun d hd n hn=>h n ?_,fun d hd n hn=>h n ?_⟩
 ·
  simp only[DataW.weights,ht]
  exact List.mem_cons_of_mem _ (List.mem_append_left _ (all _ d hd n hn))
 ·
  simp only[DataW.weights,ht]
  exact List.mem_cons_of_mem _ (List.mem_append_right _ (all _ d hd n hn))
theorem zc9 {H:Type}{P:Program}{t:TypeId}{fs:Array Field}(ht:P.underlying t=some (.struct fs)){ds:List (DataW H)}(h:zcC P t (.agg ds)) :
  ∀ (i:Nat) (f:Field) (d:DataW H),fs[i]?=some f→ds[i]?=some d→zcC P f.type d:=by
 have each:∀ (ts:List TypeId) (l:List (DataW H)) (i:Nat) (u:TypeId) (d:DataW H),ts[i]?=some u→l[i]?=some d→∀ n∈d.weights P u,n∈DataW.weightsEach P ts l:=by
  intro ts
  induction ts with
  | nil=>intro l i u d hu;simp at hu
  | cons a r ih =>
   intro l i u d hu hd n hn
   cases l with
   | nil=>simp at hd
   | cons x l =>
    rw[DataW.weightsEach]
    cases i with
    | zero=>simp at hu hd;subst hu;subst hd;exact List.mem_append_left _ hn
    | succ i=>exact List.mem_append_right _ (ih l i u d (by simpa using hu) (by simpa using hd) n hn)
 intro i f d hf hd n hn
 refine h n ?_
 simp only[DataW.weights,ht]
 exact each _ _ i f.type d (by simp;exact⟨f,by simpa using hf,rfl⟩) hd n hn
theorem ze3 {H:Type}{P:Program}{ts:List TypeId}{ds:List (DataW H)}(h:(DataW.weightsEach P ts ds).all (· ≤ reachBytes)=true){j:Nat}{t:TypeId}{d:DataW H}(ht:ts[j]?=some t)(hd:ds[j]?=some d):zcC P t d:=by
 intro n hn
 have:=List.all_eq_true.1 h _ (DataW.weights_mem_each ht hd n hn)
 simpa using this
theorem ziz {α:Type}(n:Nat)(css:Nat→List α)(f:Nat→α)(h:∀ i,i<n→css i=[f i]):(List.range n).flatMap css=(List.range n).map f:=by
 induction n with
 | zero=>rfl
 | succ n ih =>
  rw[List.range_succ,List.flatMap_append,List.map_append,ih (fun i hi=>h i (by omega))]
  simp[h n (by omega)]
theorem zgN:Tryz.prog.cellsOf 9=1:=by kernel_rfl
theorem zda {H:Type}{enc:TypeId × Value→H}{P:Program}{w:World}{t e:TypeId}{size:Nat}(ht:P.underlying t=some (.slice e))(hce:P.cellsOf e=size)(hbytes:1≤P.bytesOf e)
  {v:Value} {d:DataW H} {p:List MemPlace} (hv:∃ a n c,v= .slice a n c) (h:DataW.Trod enc P w 0 (fun _=>true) true t v d p) (hL:zcC P t d) :
  ∃ (n fuel:Nat) (css:Nat→List Value) (D:Nat→DataW H) (Pl:Nat→List MemPlace),Seg w v size n ((List.range n).flatMap css)∧(∀ i,i<n→(css i).length=size∧DataW.trod enc P w 0 (fun _=>true) true fuel e (css i)=some (D i,Pl i)∧zcC P e (D i))∧(d= .nil∧n=0∨∃ sp,d= .slice ((List.range n).map D) sp):=by
 obtain⟨a0,n0,c0,rfl⟩:=hv
 obtain⟨fuel,h⟩:=h
 rcases open_slice ht h with ⟨hcs,hx⟩|⟨a,len,cap,m,n,D,Pl,hcs,-,hl,hm,hmm,hx,hel⟩
 ·
  simp[Value.cells] at hcs
  obtain⟨rfl,rfl,rfl⟩:=hcs
  exact⟨0,0,fun _=>[],fun _=> .nil,fun _=>[],⟨by simp,by simp,none,0,rfl,Nat.le_refl _,by omega,fun _=>rfl,fun j u hu=>by simp at hu⟩,fun i hi=>absurd hi (by omega),.inl ⟨by cases hx;rfl,rfl⟩⟩
 ·
  simp[Value.cells] at hcs
  obtain⟨rfl,rfl,rfl⟩:=hcs
  simp only[if_true] at hmm
  subst hmm
  simp only[Prod.mk.injEq] at hx
  obtain⟨rfl,-⟩:=hx
  obtain⟨hb,hle,-⟩:=zgM ht hL
  simp only[List.length_map,List.length_range] at hb
  have hn47:n0≤140737488355328:=by
   have h1:reachBytes<2 ^ 47:=reachBytes_lt
   have h2:n0*1≤(n0+(m - n0))*P.bytesOf e:=Nat.mul_le_mul (by omega) hbytes
   omega
  obtain⟨css,hcss⟩:=choose_lt (α:=List Value) (n:=n0) (p:=fun i cs=>w.cells? 0 (a.add (i*P.cellsOf e)) (P.cellsOf e)=some cs∧DataW.trod enc P w 0 (fun _=>true) true n e cs=some (D i,Pl i)) (fun i hi=>hel i (by omega))
  have hlen:∀ i,i<n0→(css i).length=size:=fun i hi=>by rw[←hce];exact (World.cells?_some (hcss i hi).1).2.1
  have flat:∀ (k:Nat),k≤n0→((List.range k).flatMap css).length=k*size:=by
   intro k
   induction k with
   | zero=>intro _;simp
   | succ k ih =>
    intro hk
    rw[List.range_succ,List.flatMap_append,List.length_append,ih (by omega)]
    simp[hlen k (by omega),Nat.succ_mul]
  refine⟨n0,n,css,D,Pl,⟨flat n0 (Nat.le_refl _),hn47,some a,m,rfl,hl,by unfold maxLen at hm;omega,by simp,?_⟩,fun i hi=>⟨hlen i hi,(hcss i hi).2,hle _ (List.mem_map.2 ⟨i,List.mem_range.2 hi,rfl⟩)⟩,.inr ⟨_,rfl⟩⟩
  intro j u hu
  -- the cell at place j lies in element j / size
  have get:∀ (k:Nat),k≤n0→∀ j u,((List.range k).flatMap css)[j]?=some u→∃ i q,i<k∧q<size∧j=i*size+q∧(css i)[q]?=some u:=by
   intro k
   induction k with
   | zero=>intro _ j u hu;simp at hu
   | succ k ih =>
    intro hk j u hu
    rw[List.range_succ,List.flatMap_append] at hu
    by_cases hj:j<k*size
    ·
     rw[List.getElem?_append_left (by rw[flat k (by omega)];exact hj)] at hu
     obtain⟨i,q,h1,h2,h3,h4⟩:=ih (by omega) j u hu
     exact⟨i,q,by omega,h2,h3,h4⟩
    ·
     rw[List.getElem?_append_right (by rw[flat k (by omega)];omega),flat k (by omega)] at hu
     simp at hu
     have hq:j - k*size<size:=by
      have:=(List.getElem?_eq_some_iff.1 hu).1
      rw[hlen k (by omega)] at this;exact this
     exact⟨k,j - k*size,by omega,hq,by omega,hu⟩
  obtain⟨i,q,h1,h2,rfl,h4⟩:=get n0 (Nat.le_refl _) j u hu
  obtain⟨-,-,hc⟩:=World.cells?_some (hcss i h1).1
  have hcell:=hc q (by rw[hce];exact h2)
  rw[h4,hce,add_add] at hcell
  have hspot:a.spot=none:=by
   have h0:=(World.cells?_some (hcss 0 (by omega)).1).2.2 0 (by rw[hce];omega)
   have h5:(css 0)[0]?=some ((css 0)[0]'(by rw[hlen 0 (by omega)];omega)):=List.getElem?_eq_getElem _
   rw[h5] at h0
   simpa [Addr.add] using World.cell?_spot h0
  obtain⟨b,o,sp⟩:=a
  have:sp=none:=hspot
  subst this
  rw[zdy] at hcell
  exact⟨b,o,rfl,hcell⟩
theorem zev {H:Type}(d:DataW H):1≤Rows.uptoBulk d:=by
 cases d with
 | lit l=>cases l <;> simp[Rows.uptoBulk]
 | nil=>simp[Rows.uptoBulk]
 | ptr d=>simp[Rows.uptoBulk]
 | slice elems spare=>simp[Rows.uptoBulk]
 | agg parts=>simp[Rows.uptoBulk]
 | iface t d=>simp[Rows.uptoBulk]
 | map entries=>simp[Rows.uptoBulk]
 | held h=>simp[Rows.uptoBulk]
theorem zeR {H:Type}:∀ l:List (DataW H),Rows.uptoBulkAll l=(l.map Rows.uptoBulk).sum
 | []=>by simp[Rows.uptoBulkAll]
 | x::r=>by simp[Rows.uptoBulkAll,zeR r]
theorem zng {H:Type}{d:DataW H}{l:List (DataW H)}(h:d∈l):Rows.uptoBulk d≤Rows.uptoBulkAll l:=by
 rw[zeR];exact zau _ l d h
theorem zfQ {f g:Nat→Nat}:∀ n,(∀ i,i<n→f i≤g i)→((List.range n).map f).sum≤((List.range n).map g).sum
 | 0,_=>by simp
 | n+1,h=>by
  have h1:=zfQ n fun i hi=>h i (by omega)
  have h2:=h n (by omega)
  rw[List.range_succ,List.map_append,List.map_append,List.sum_append,List.sum_append]
  simp
  omega
theorem zew {H:Type}{n:Nat}{D:Nat→DataW H}{d:DataW H}{f:Nat→Nat}(hd:d= .nil∧n=0∨∃ sp,d= .slice ((List.range n).map D) sp)(hf:∀ i,i<n→f i≤Rows.uptoBulk (D i)):((List.range n).map f).sum+1≤Rows.uptoBulk d:=by
 rcases hd with ⟨rfl,rfl⟩|⟨sp,rfl⟩
 ·
  simp[Rows.uptoBulk]
 ·
  have h:=zfQ n hf
  simp only[Rows.uptoBulk,zeR,List.map_map]
  have e:(List.range n).map (Rows.uptoBulk ∘ D)=(List.range n).map fun i=>Rows.uptoBulk (D i):=rfl
  rw[e]
  omega
theorem zju {H:Type}{n:Nat}{D:Nat→DataW H}{d:DataW H}(hd:d= .nil∧n=0∨∃ sp,d= .slice ((List.range n).map D) sp){i:Nat}(hi:i<n):Rows.uptoBulk (D i)+1≤Rows.uptoBulk d:=by
 rcases hd with ⟨rfl,rfl⟩|⟨sp,rfl⟩
 ·
  omega
 ·
  have h:=zng (List.mem_map.2 ⟨i,List.mem_range.2 hi,rfl⟩:D i∈(List.range n).map D)
  simp only[Rows.uptoBulk]
  omega
theorem znh:Tryz.prog.bytesOf 9=16:=by kernel_rfl
theorem zfR {H:Type}{enc:TypeId × Value→H}{w:World}{v:Value}{d:DataW H}{p:List MemPlace}(hv:∃ a n c,v= .slice a n c)(h:DataW.Trod enc Tryz.prog w 0 (fun _=>true) true 25 v d p)(hL:zcC Tryz.prog 25 d) :
  ∃ l,zaV w v l∧twt l+1≤Rows.uptoBulk d:=by
 obtain⟨n,fuel,css,D,Pl,hs,hel,hd⟩:=zda Tryz.underlying25 zgN (by rw[znh];omega) hv h hL
 obtain⟨c,hc⟩:=choose_lt (α:=List UInt8) (n:=n) (p:=fun i c=>css i=[zbA c]∧c.length≤140737488355328∧1+c.length≤Rows.uptoBulk (D i)) (fun i hi=>by
  obtain⟨h1,h2,h3⟩:=hel i hi
  obtain⟨s,hs,hx,-⟩:=DataW.trod_string Tryz.underlying9 h2
  simp only[Prod.mk.injEq] at hx
  have hlen:s.data.toList.length≤140737488355328:=by
   have h4:=h3
   rw[hx.1] at h4
   have h5:=h4 s.data.toList.length (by simp[DataW.weights])
   have h6:reachBytes<2 ^ 47:=reachBytes_lt
   omega
  refine⟨s.data.toList,?_,hlen,?_⟩
  ·
   rw[hs];simp[zbA]
  ·
   rw[hx.1];simp[Rows.uptoBulk];omega)
 refine⟨(List.range n).map c,⟨?_,?_⟩,?_⟩
 ·
  rw[List.length_map,List.length_range,List.map_map,←ziz n css (zbA ∘ c) (fun i hi=>(hc i hi).1)]
  exact hs
 ·
  intro t ht
  obtain⟨i,hi,rfl⟩:=List.mem_map.1 ht
  exact (hc i (List.mem_range.1 hi)).2.1
 ·
  have:=zew (f:=fun i=>1+(c i).length) hd fun i hi=>(hc i hi).2.2
  unfold twt
  rw[List.map_map]
  exact this
theorem zbt {H:Type}{enc:TypeId × Value→H}{P:Program}{w:World}{t e:TypeId}{fuel:Nat}{u:Value}{x:DataW H × List MemPlace}(ht:P.underlying t=some (.slice e))(h:DataW.trod enc P w 0 (fun _=>true) true fuel t [u]=some x):∃ a n c,u= .slice a n c:=by
 rcases open_slice ht h with ⟨hcs,-⟩|⟨a,len,cap,m,n,D,Pl,hcs,-⟩
 ·
  exact⟨_,_,_,by simpa using hcs⟩
 ·
  exact⟨_,_,_,by simpa using hcs⟩
theorem zfS {H α:Type}{enc:TypeId × Value→H}{w:World}{t e:TypeId}{k:Nat}(P:World→List Value→α→Prop)(wt:α→Nat)(ht:Tryz.prog.underlying t=some (.slice e))(hce:Tryz.prog.cellsOf e=k)(hby:1≤Tryz.prog.bytesOf e)
  {v:Value} {d:DataW H} {p:List MemPlace} (hv:∃ a n c,v= .slice a n c) (h:DataW.Trod enc Tryz.prog w 0 (fun _=>true) true t v d p) (hL:zcC Tryz.prog t d) (B:Nat) (hB:Rows.uptoBulk d≤B+1)
  (hel:∀ (fuel:Nat) (cs:List Value) (d:DataW H) (p:List MemPlace),DataW.trod enc Tryz.prog w 0 (fun _=>true) true fuel e cs=some (d,p)→zcC Tryz.prog e d→Rows.uptoBulk d≤B→∃ x:α,P w cs x∧wt x≤Rows.uptoBulk d) :
  ∃ l:List α,zca P k w v l∧(l.map wt).sum+1≤Rows.uptoBulk d:=by
 obtain⟨n,fuel,css,D,Pl,hs,hx,hd⟩:=zda ht hce hby hv h hL
 have h1':∀ i,i<n→∃ x:α,P w (css i) x∧wt x≤Rows.uptoBulk (D i):=fun i hi=>by
  obtain⟨h1,h2,h3⟩:=hx i hi
  exact hel fuel _ _ _ h2 h3 (by have:=zju hd hi;omega)
 by_cases h0:n=0
 ·
  subst h0
  refine⟨[],⟨[],rfl,by simp,by simpa using hs,by simp⟩,?_⟩
  simpa using zev d
 obtain⟨x0,-⟩:=h1' 0 (by omega)
 haveI:Inhabited α:=⟨x0⟩
 obtain⟨c,hc⟩:=choose_lt (α:=α) (n:=n) (p:=fun i c=>P w (css i) c∧wt c≤Rows.uptoBulk (D i)) (fun i hi=>by
  obtain⟨h1,h2,h3⟩:=hx i hi
  exact hel fuel _ _ _ h2 h3 (by have:=zju hd hi;omega))
 refine⟨(List.range n).map c,⟨(List.range n).map css,by simp,?_,?_,?_⟩,?_⟩
 ·
  intro r hr
  obtain⟨i,hi,rfl⟩:=List.mem_map.1 hr
  exact (hx i (List.mem_range.1 hi)).1
 ·
  rw[List.length_map,List.length_range,←List.flatMap_def]
  exact hs
 ·
  intro i r x hr hxx
  simp only[List.getElem?_map] at hr hxx
  rcases Nat.lt_or_ge i n with hi|hi
  ·
   simp[hi] at hr hxx
   subst hr
   subst hxx
   exact (hc i hi).1
  ·
   simp[hi] at hr
 ·
  have:=zew (f:=fun i=>wt (c i)) hd fun i hi=>(hc i hi).2
  rw[List.map_map]
  exact this
end
section
open Go.RowKit Go.Deep
theorem zgO {H:Type}{enc:TypeId × Value→H}{P:Program}{w:World}{t e:TypeId}{size:Nat}(ht:P.underlying t=some (.slice e))(hce:P.cellsOf e=size)(hbytes:1≤P.bytesOf e)
  {v:Value} {d:DataW H} {p:List MemPlace} (hv:∃ a n c,v= .slice a n c) (h:DataW.Trod enc P w 0 (fun _=>true) true t v d p) (hL:zcC P t d) :
  ∃ (n fuel:Nat) (css:Nat→List Value) (D:Nat→DataW H) (Pl:Nat→List MemPlace),Seg w v size n ((List.range n).flatMap css)∧(∀ i,i<n→(css i).length=size∧DataW.trod enc P w 0 (fun _=>true) true fuel e (css i)=some (D i,Pl i)∧zcC P e (D i)):=by
 obtain⟨a0,n0,c0,rfl⟩:=hv
 obtain⟨fuel,h⟩:=h
 rcases open_slice ht h with ⟨hcs,-⟩|⟨a,len,cap,m,n,D,Pl,hcs,-,hl,hm,hmm,hx,hel⟩
 ·
  simp[Value.cells] at hcs
  obtain⟨rfl,rfl,rfl⟩:=hcs
  exact⟨0,0,fun _=>[],fun _=> .nil,fun _=>[],⟨by simp,by simp,none,0,rfl,Nat.le_refl _,by omega,fun _=>rfl,fun j u hu=>by simp at hu⟩,fun i hi=>absurd hi (by omega)⟩
 ·
  simp[Value.cells] at hcs
  obtain⟨rfl,rfl,rfl⟩:=hcs
  simp only[if_true] at hmm
  subst hmm
  simp only[Prod.mk.injEq] at hx
  obtain⟨rfl,-⟩:=hx
  obtain⟨hb,hle,-⟩:=zgM ht hL
  simp only[List.length_map,List.length_range] at hb
  have hn47:n0≤140737488355328:=by
   have h1:reachBytes<2 ^ 47:=reachBytes_lt
   have h2:n0*1≤(n0+(m - n0))*P.bytesOf e:=Nat.mul_le_mul (by omega) hbytes
   omega
  obtain⟨css,hcss⟩:=choose_lt (α:=List Value) (n:=n0) (p:=fun i cs=>w.cells? 0 (a.add (i*P.cellsOf e)) (P.cellsOf e)=some cs∧DataW.trod enc P w 0 (fun _=>true) true n e cs=some (D i,Pl i)) (fun i hi=>hel i (by omega))
  have hlen:∀ i,i<n0→(css i).length=size:=fun i hi=>by rw[←hce];exact (World.cells?_some (hcss i hi).1).2.1
  have flat:∀ (k:Nat),k≤n0→((List.range k).flatMap css).length=k*size:=by
   intro k
   induction k with
   | zero=>intro _;simp
   | succ k ih =>
    intro hk
    rw[List.range_succ,List.flatMap_append,List.length_append,ih (by omega)]
    simp[hlen k (by omega),Nat.succ_mul]
  refine⟨n0,n,css,D,Pl,⟨flat n0 (Nat.le_refl _),hn47,some a,m,rfl,hl,by unfold maxLen at hm;omega,by simp,?_⟩,fun i hi=>⟨hlen i hi,(hcss i hi).2,hle _ (List.mem_map.2 ⟨i,List.mem_range.2 hi,rfl⟩)⟩⟩
  intro j u hu
  -- the cell at place j lies in element j / size
  have get:∀ (k:Nat),k≤n0→∀ j u,((List.range k).flatMap css)[j]?=some u→∃ i q,i<k∧q<size∧j=i*size+q∧(css i)[q]?=some u:=by
   intro k
   induction k with
   | zero=>intro _ j u hu;simp at hu
   | succ k ih =>
    intro hk j u hu
    rw[List.range_succ,List.flatMap_append] at hu
    by_cases hj:j<k*size
    ·
     rw[List.getElem?_append_left (by rw[flat k (by omega)];exact hj)] at hu
     obtain⟨i,q,h1,h2,h3,h4⟩:=ih (by omega) j u hu
     exact⟨i,q,by omega,h2,h3,h4⟩
    ·
     rw[List.getElem?_append_right (by rw[flat k (by omega)];omega),flat k (by omega)] at hu
     simp at hu
     have hq:j - k*size<size:=by
      have:=(List.getElem?_eq_some_iff.1 hu).1
      rw[hlen k (by omega)] at this;exact this
     exact⟨k,j - k*size,by omega,hq,by omega,hu⟩
  obtain⟨i,q,h1,h2,rfl,h4⟩:=get n0 (Nat.le_refl _) j u hu
  obtain⟨-,-,hc⟩:=World.cells?_some (hcss i h1).1
  have hcell:=hc q (by rw[hce];exact h2)
  rw[h4,hce,add_add] at hcell
  have hspot:a.spot=none:=by
   have h0:=(World.cells?_some (hcss 0 (by omega)).1).2.2 0 (by rw[hce];omega)
   have h5:(css 0)[0]?=some ((css 0)[0]'(by rw[hlen 0 (by omega)];omega)):=List.getElem?_eq_getElem _
   rw[h5] at h0
   simpa [Addr.add] using World.cell?_spot h0
  obtain⟨b,o,sp⟩:=a
  have:sp=none:=hspot
  subst this
  rw[zdy] at hcell
  exact⟨b,o,rfl,hcell⟩
theorem zhX {α:Type}(n:Nat)(f:Nat→α)(z:α)(j:Nat)(hj:j<n):((List.range n).map f).getD j z=f j:=by simp[List.getD,hj]
theorem zeH {α β:Type}{l:List α}{f g:α→List β}(h:∀ a∈l,f a=g a):l.flatMap f=l.flatMap g:=by
 induction l with
 | nil=>rfl
 | cons a r ih =>
  rw[List.flatMap_cons,List.flatMap_cons,h a (by simp),ih fun x hx=>h x (by simp[hx])]
theorem zni:Tryz.prog.bytesOf 51=48:=by kernel_rfl
theorem zjv:Tryz.prog.cellsOf 51=6:=by kernel_rfl
theorem znj:Tryz.prog.bytesOf 64=40:=by kernel_rfl
theorem znk:Tryz.prog.cellsOf 64=2:=by kernel_rfl
theorem ze4:Tryz.prog.cellsOf 3=1:=by kernel_rfl
theorem zhY:Tryz.prog.cellsOf 4=1:=by kernel_rfl
theorem zl4:Tryz.prog.cellsOf 62=1:=by kernel_rfl
theorem zlk {x:Int}(h:(Lit.int .i64 x).wf=true):-9223372036854775808≤x∧x≤9223372036854775807:=by
 simpa [Lit.wf,IntKind.min,IntKind.max,IntKind.signed,IntKind.bits] using h
theorem zku {H:Type}{enc:TypeId × Value→H}{w:World}{fuel:Nat}{cs:List Value}{d:DataW H}{p:List MemPlace}(h:DataW.trod enc Tryz.prog w 0 (fun _=>true) true fuel 51 cs=some (d,p))(hL:zcC Tryz.prog 51 d) :
  ∃ f:Fld,f.Ok∧cs=f.cells:=by
 obtain⟨xs,n,-,hx,hl,hlen,hf⟩:=DataW.trod_struct Tryz.underlying51 h
 simp only[Prod.mk.injEq] at hx
 obtain⟨rfl,-⟩:=hx
 have hsub:=zc9 Tryz.underlying51 hL
 rw[zjv] at hl
 match cs,hl,xs,hlen with
 | [c0,c1,c2,c3,c4,c5],_,[x0,x1,x2,x3,x4,x5],_ =>
  have g0:DataW.trod enc Tryz.prog w 0 (fun _=>true) true n 9 [c0]=some x0:=by have:=hf 0 _ rfl;simpa [zgN] using this
  have g1:DataW.trod enc Tryz.prog w 0 (fun _=>true) true n 3 [c1]=some x1:=by have:=hf 1 _ rfl;simpa [ze4] using this
  have g2:DataW.trod enc Tryz.prog w 0 (fun _=>true) true n 3 [c2]=some x2:=by have:=hf 2 _ rfl;simpa [ze4] using this
  have g3:DataW.trod enc Tryz.prog w 0 (fun _=>true) true n 4 [c3]=some x3:=by have:=hf 3 _ rfl;simpa [zhY] using this
  have g4:DataW.trod enc Tryz.prog w 0 (fun _=>true) true n 4 [c4]=some x4:=by have:=hf 4 _ rfl;simpa [zhY] using this
  have g5:DataW.trod enc Tryz.prog w 0 (fun _=>true) true n 3 [c5]=some x5:=by have:=hf 5 _ rfl;simpa [ze4] using this
  obtain⟨s,e0,r0,-⟩:=DataW.trod_string Tryz.underlying9 g0
  obtain⟨n1,e1,-,w1⟩:=DataW.trod_int Tryz.underlying3 g1
  obtain⟨n2,e2,-,w2⟩:=DataW.trod_int Tryz.underlying3 g2
  obtain⟨b3,e3,-⟩:=DataW.trod_bool Tryz.underlying4 g3
  obtain⟨b4,e4,-⟩:=DataW.trod_bool Tryz.underlying4 g4
  obtain⟨n5,e5,-,w5⟩:=DataW.trod_int Tryz.underlying3 g5
  have hs:s.size≤140737488355328:=by
   have h1:=hsub 0 _ _ rfl rfl
   rw[r0] at h1
   have h2:=h1 s.data.toList.length (by simp[DataW.weights])
   have h3:reachBytes<2 ^ 47:=reachBytes_lt
   simp at h2
   have h4:s.data.size=s.size:=rfl
   omega
  simp only[List.cons.injEq,and_true] at e0 e1 e2 e3 e4 e5
  refine⟨⟨s,n1,n2,b3,b4,n5⟩,⟨hs,zlk w1,zlk w2,zlk w5⟩,?_⟩
  simp[Fld.cells,e0,e1,e2,e3,e4,e5]
theorem zhD {H:Type}{enc:TypeId × Value→H}{w:World}{v:Value}{d:DataW H}{p:List MemPlace}(hv:∃ a n c,v= .slice a n c)(h:DataW.Trod enc Tryz.prog w 0 (fun _=>true) true 62 v d p)(hL:zcC Tryz.prog 62 d) :
  ∃ fs,za4 w v fs:=by
 obtain⟨n,fuel,css,D,Pl,hs,hel⟩:=zgO Tryz.underlying62 zjv (by rw[zni];omega) hv h hL
 haveI:Inhabited Fld:=⟨.zero⟩
 obtain⟨f,hf⟩:=choose_lt (α:=Fld) (n:=n) (p:=fun i f=>f.Ok∧css i=f.cells) (fun i hi=>by
  obtain⟨h1,h2,h3⟩:=hel i hi
  exact zku h2 h3)
 refine⟨(List.range n).map f,?_,fun g hg=>?_⟩
 ·
  rw[List.length_map,List.length_range]
  have:((List.range n).map f).flatMap Fld.cells=(List.range n).flatMap css:=by
   rw[List.flatMap_map]
   exact zeH (fun i hi=>((hf i (List.mem_range.1 hi)).2).symm)
  rw[this]
  exact hs
 ·
  obtain⟨i,hi,rfl⟩:=List.mem_map.1 hg
  exact (hf i (List.mem_range.1 hi)).1
theorem zhE {H:Type}{enc:TypeId × Value→H}{w:World}{v:Value}{d:DataW H}{p:List MemPlace}(hv:∃ a n c,v= .slice a n c)(h:DataW.Trod enc Tryz.prog w 0 (fun _=>true) true 23 v d p)(hL:zcC Tryz.prog 23 d) :
  ∃ s,zaj w v s:=by
 obtain⟨n,fuel,css,D,Pl,hs,hel⟩:=zgO Tryz.underlying23 znk (by rw[znj];omega) hv h hL
 haveI:Inhabited (Mes × Value):=⟨(.zero,undef)⟩
 obtain⟨m,hm⟩:=choose_lt (α:=Mes × Value) (n:=n) (p:=fun i m=>m.1.name.size≤140737488355328∧css i=ze0 m∧za4 w m.2 m.1.fields) (fun i hi=>by
  obtain⟨h1,h2,h3⟩:=hel i hi
  obtain⟨xs,k,-,hx,hl,hlen,hf⟩:=DataW.trod_struct Tryz.underlying64 h2
  simp only[Prod.mk.injEq] at hx
  obtain⟨hx,-⟩:=hx
  rw[hx] at h3
  have hsub:=zc9 Tryz.underlying64 h3
  match hcs:css i,h1,xs,hlen with
  | [c0,c1],_,[x0,x1],_ =>
   rw[hcs] at hf
   have g0:DataW.trod enc Tryz.prog w 0 (fun _=>true) true k 9 [c0]=some x0:=by have:=hf 0 _ rfl;simpa [zgN] using this
   have g1:DataW.trod enc Tryz.prog w 0 (fun _=>true) true k 62 [c1]=some x1:=by have:=hf 1 _ rfl;simpa [zl4] using this
   obtain⟨s,e0,r0,-⟩:=DataW.trod_string Tryz.underlying9 g0
   have hs:s.size≤140737488355328:=by
    have h1:=hsub 0 _ _ rfl rfl
    rw[r0] at h1
    have h2:=h1 s.data.toList.length (by simp[DataW.weights])
    have h3:reachBytes<2 ^ 47:=reachBytes_lt
    simp at h2
    have h4:s.data.size=s.size:=rfl
    omega
   obtain⟨a,q,c,rfl⟩:=zbt Tryz.underlying62 g1
   obtain⟨fs,hfs⟩:=zhD ⟨a,q,c,rfl⟩ ⟨k,by simpa [Value.cells] using g1⟩ (hsub 1 _ _ rfl rfl)
   simp only[List.cons.injEq,and_true] at e0
   exact⟨(⟨s,fs⟩,.slice a q c),hs,by simp[ze0,e0],hfs⟩)
 refine⟨(List.range n).map fun i=>(m i).1,(List.range n).map fun i=>(m i).2,by simp,?_,fun x hx=>?_,fun i hi=>?_⟩
 ·
  rw[List.length_map,List.length_range]
  have:(((List.range n).map fun i=>(m i).1).zip ((List.range n).map fun i=>(m i).2)).flatMap ze0=(List.range n).flatMap css:=by
   rw[List.zip_map',List.flatMap_map]
   exact zeH (fun i hi=>((hm i (List.mem_range.1 hi)).2.1).symm)
  rw[this]
  exact hs
 ·
  obtain⟨i,hi,rfl⟩:=List.mem_map.1 hx
  exact (hm i (List.mem_range.1 hi)).1
 ·
  rw[List.length_map,List.length_range] at hi
  rw[zhX n _ undef i hi,zhX n _ Mes.zero i hi]
  exact (hm i hi).2.2
end
section
open Go.RowKit Go.Shelf
attribute [local go_sem] Oper.semAt_some
end
section
open Go.RowKit Go.Shelf
attribute [local go_sem] Oper.semAt_some
end
section
open Go.RowKit
theorem zjw:∀ c:Fin 256,bits .and .u8 (c.val:Int) 192=((c.val / 64*64:Nat):Int):=by decide +kernel
theorem zjx:∀ c:Fin 256,bits .andNot .u8 (c.val:Int) 192=((c.val % 64:Nat):Int):=by decide +kernel
theorem ziA (c:Nat)(hc:c<256)(w:World) :
  Calls Tryz.prog 167 #[.int .u8 c] w fun e w'=>e= .returned (.tuple #[.int .i64 (zd4 c).1,.int .i32 (zd4 c).2])∧w=w':=by
 rcases zcj c with ⟨h,e⟩|⟨h,h',e⟩|⟨h,h',e⟩|⟨h,h',e⟩|⟨h,e⟩
 ·
  rw[e];clear e
  go_enter Tryz.func167,Tryz.ntmps167
  go_wp2
  go_ret2
  exact⟨rfl,rfl⟩
 ·
  rw[e];clear e
  have a1:=u8_and31 (x:=(c:Int)) (by omega) (by omega)
  go_enter Tryz.func167,Tryz.ntmps167
  go_wp2
  go_ret2
  exact⟨ret2 rfl (zbC (by omega)),rfl⟩
 ·
  rw[e];clear e
  have a1:=u8_and15 (x:=(c:Int)) (by omega) (by omega)
  go_enter Tryz.func167,Tryz.ntmps167
  go_wp2
  go_ret2
  exact⟨ret2 rfl (zbC (by omega)),rfl⟩
 ·
  rw[e];clear e
  have a1:=u8_and7 (x:=(c:Int)) (by omega) (by omega)
  go_enter Tryz.func167,Tryz.ntmps167
  go_wp2
  go_ret2
  exact⟨ret2 rfl (zbC (by omega)),rfl⟩
 ·
  rw[e];clear e
  rcases h with h|h
  all_goals
   go_enter Tryz.func167,Tryz.ntmps167
   go_wp2
   go_ret2
   exact⟨rfl,rfl⟩
theorem zed (n:Nat)(hn:n≤4)(w:World) :
  Calls Tryz.prog 168 #[.int .i64 n] w fun e w'=>e= .returned (.int .i32 (zfP n))∧w=w':=by
 have i0:∀ w,(Instr.index 266 (.agg #[.int .i32 0,.int .i32 0,.int .i32 128,.int .i32 2048,.int .i32 65536]) (.int .i64 0)).run Tryz.prog w= .ok (.int .i32 0) w:=fun _=>by kernel_rfl
 have i1:∀ w,(Instr.index 266 (.agg #[.int .i32 0,.int .i32 0,.int .i32 128,.int .i32 2048,.int .i32 65536]) (.int .i64 1)).run Tryz.prog w= .ok (.int .i32 0) w:=fun _=>by kernel_rfl
 have i2:∀ w,(Instr.index 266 (.agg #[.int .i32 0,.int .i32 0,.int .i32 128,.int .i32 2048,.int .i32 65536]) (.int .i64 2)).run Tryz.prog w= .ok (.int .i32 128) w:=fun _=>by kernel_rfl
 have i3:∀ w,(Instr.index 266 (.agg #[.int .i32 0,.int .i32 0,.int .i32 128,.int .i32 2048,.int .i32 65536]) (.int .i64 3)).run Tryz.prog w= .ok (.int .i32 2048) w:=fun _=>by kernel_rfl
 have i4:∀ w,(Instr.index 266 (.agg #[.int .i32 0,.int .i32 0,.int .i32 128,.int .i32 2048,.int .i32 65536]) (.int .i64 4)).run Tryz.prog w= .ok (.int .i32 65536) w:=fun _=>by kernel_rfl
 rcases (show n=0∨n=1∨n=2∨n=3∨n=4 by omega) with rfl|rfl|rfl|rfl|rfl
 all_goals
  go_enter Tryz.func168,Tryz.ntmps168
  go_wp2
  go_ret
  exact⟨rfl,rfl⟩
theorem zoP (c:Nat):(zd4 c).2<128:=by
 rcases zcj c with ⟨h,e⟩|⟨h,h',e⟩|⟨h,h',e⟩|⟨h,h',e⟩|⟨h,e⟩ <;> rw[e] <;> simp <;> omega
theorem zll {w:World}{v:Value}{l:List UInt8}(h:zay w v l) :
  Calls Tryz.prog 157 #[v] w fun e w'=>e= .returned (.int .i64 (za8 l))∧w=w':=by
 obtain⟨hlen,a,cap,rfl,-,-,-,hcell⟩:=h.open
 obtain⟨n,HN⟩:∃ n,Hid (n=l.length):=⟨_,rfl⟩
 rw[←HN.out] at hcell hlen h ⊢
 by_cases h0:n=0
 ·
  subst h0
  have hu:Hid (za8 l=0):=by
   obtain rfl:l=[]:=List.eq_nil_of_length_eq_zero HN.out.symm
   rfl
  go_enter Tryz.func157,Tryz.ntmps157
  go_wp2
  go_ret
  rw[hu.out]
  exact⟨rfl,rfl⟩
 ·
  have hz:((n:Int) == 0)=false:=by simp;omega
  have hpos:0<n:=by omega
  obtain⟨b,o,ha,hc0⟩:=hcell 0 hpos
  have hix:=zir zaH zcw ha hpos (cap:=cap)
  have HAA:=hid ha
  obtain⟨c,HC⟩:∃ c,Hid (c=(l.getD 0 0).toNat):=⟨_,rfl⟩
  have hcb:c<256:=by rw[HC.out];exact (l.getD 0 0).toNat_lt
  rw[←HC.out] at hc0
  obtain⟨m,r,HM,hm,hr⟩:∃ m r,Hid (zd4 c=(m,r))∧m≤4∧r<128:=⟨_,_,rfl,zlh c,zoP c⟩
  have H0:=hid h0
  clear ha hcell h0
  simp only[Nat.add_zero] at hc0
  by_cases hm0:m=0∨n<m
  ·
   have hu:Hid (za8 l=0):=by
    cases l with
    | nil=>rfl
    | cons c' t =>
     simp at HC
     have e:=HC.out
     simp only[Hid,za8,←e,HM.out]
     rw[if_pos (by rw[←HN.out];exact hm0)]
   have hm0':((m:Int) == 0)=decide (m=0):=by
    by_cases e:m=0
    ·
     subst e;rfl
    ·
     simp[e]
   rcases hm0 with e|e
   ·
    subst e
    clear hm0'
    go_enter Tryz.func157,Tryz.ntmps157
    go_wp2_with (go_at_call 167;refine (ziA _ (by omega) _).mono ?_;rintro e w' ⟨rfl,rfl⟩;rw[HM.out])
    go_ret
    rw[hu.out]
    exact⟨rfl,rfl⟩
   ·
    clear hm0'
    have hm1:((m:Int) == 0)=false:=by simp;omega
    go_enter Tryz.func157,Tryz.ntmps157
    go_wp2_with (go_at_call 167;refine (ziA _ (by omega) _).mono ?_;rintro e w' ⟨rfl,rfl⟩;rw[HM.out])
    go_ret
    rw[hu.out]
    exact⟨rfl,rfl⟩
  ·
   have hm1:((m:Int) == 0)=false:=by simp;omega
   have hmpos:1≤m:=by omega
   have hmn:m≤n:=by omega
   have hu:Hid (za8 l=match zfr (m - 1) r (l.drop 1) with|none=>0|some r=>if zoF m r then 0 else m):=by
    cases l with
    | nil=>simp at HN;have:=HN.out;omega
    | cons c' t =>
     simp at HC
     have e:=HC.out
     simp only[Hid,za8,←e,HM.out]
     rw[if_neg (by rw[←HN.out];exact hm0)]
     rfl
   have HM0:=hid hm0
   clear hm0
   obtain⟨a',cap',hsl,hcs,-⟩:=h.cut HN.out 1 m hmpos hmn
   simp only[Int.natCast_one] at hsl
   have HCS:=hid hcs
   clear hcs
   obtain⟨q,HQ⟩:∃ q,Hid (q=m - 1):=⟨_,rfl⟩
   rw[←HQ.out] at hsl
   have hq3:q≤3:=by rw[HQ.out];omega
   go_enter Tryz.func157,Tryz.ntmps157
   go_wp2_with (go_at_call 167;refine (ziA _ (by omega) _).mono ?_;rintro e w' ⟨rfl,rfl⟩;rw[HM.out])
   go_loop [4,29] (fun v4 v29=>∃ k x:Nat,k≤q∧x<128*64 ^ k∧v4= .int .i32 x∧v29= .int .i64 k∧Hid (zfr (q - k) x (l.drop (1+k))=zfr q r (l.drop 1))) (fun _ v29=>q - (intOf v29).toNat)
   case atStart=>exact⟨0,r,by omega,by omega,rfl,rfl,rfl⟩
   case round =>
    obtain⟨k,x,hk,hx,rfl,rfl,HX⟩:=hrel
    have hx2:x<128*64 ^ 3:=Nat.lt_of_lt_of_le hx (Nat.mul_le_mul_left _ (Nat.pow_le_pow_right (by omega) (by omega)))
    simp only[Nat.reducePow,Nat.reduceMul] at hx2
    by_cases hlt:k<q
    ·
     have hcs:=HCS.out
     obtain⟨b2,o2,ha2,hc2⟩:=hcs k (by have:=HQ.out;omega)
     clear hcs
     have hix2:=zag zaH zcw ha2 k hlt (cap:=cap')
     obtain⟨d,HD⟩:∃ d,Hid (d=(l.getD (1+k) 0).toNat):=⟨_,rfl⟩
     have hdb:d<256:=by rw[HD.out];exact (l.getD (1+k) 0).toNat_lt
     rw[←HD.out] at hc2
     have HA2:=hid ha2
     have hstep:Hid (zfr (q - k) x (l.drop (1+k))=if 128≤d∧d<192 then zfr (q - (k+1)) (x*64+d % 64) (l.drop (1+(k+1))) else none):=by
      have e:q - k=(q - (k+1))+1:=by omega
      have hkl:1+k<l.length:=by rw[←HN.out];have:=HQ.out;omega
      rw[e,List.drop_eq_getElem_cons hkl,HD.out]
      simp only[Hid,zfr,List.getD,List.getElem?_eq_getElem hkl,Option.getD_some]
      rfl
     clear ha2
     have hx3:x<128*64 ^ 2:=Nat.lt_of_lt_of_le hx (Nat.mul_le_mul_left _ (Nat.pow_le_pow_right (by omega) (by omega)))
     simp only[Nat.reducePow,Nat.reduceMul] at hx3
     have HX0:=hid hx
     clear hx
     by_cases hct:128≤d∧d<192
     ·
      have hb1:bits .and .u8 (d:Int) 192=128:=by rw[zjw ⟨d,hdb⟩];simp;omega
      have hb2:bits .andNot .u8 (d:Int) 192=((d % 64:Nat):Int):=zjx ⟨d,hdb⟩
      have hb3:=i32_or6 (x:=(x:Int)*64) (y:=((d % 64:Nat):Int)) (by omega) (by omega) (by omega) (by omega) (by omega)
      have hb4:IntKind.i32.wrap ((d % 64:Nat):Int)=((d % 64:Nat):Int):=by rw[IntKind.wrap_i32];omega
      have HCT:=hid hct
      clear hct
      go_wp2
      go_round
      case rel =>
       refine⟨k+1,x*64+d % 64,by omega,?_,by first|go_num|exact zbC (by omega),by go_num,?_⟩
       ·
        rw[Nat.pow_succ,←Nat.mul_assoc]
        have:=HX0.out
        omega
       ·
        rw[←HX.out,hstep.out,if_pos HCT.out];exact hid rfl
      case measure=>simp[intOf];omega
     ·
      obtain⟨y,hb1,hy⟩:∃ y:Nat,bits .and .u8 (d:Int) 192=(y:Int)∧((y:Int) == 128)=false:=⟨d / 64*64,zjw ⟨d,hdb⟩,by simp;omega⟩
      have HCT:=hid hct
      clear hct
      go_wp2
      go_ret
      refine⟨zcG (zbC ?_),rfl⟩
      have e:za8 l=0:=by
       rw[hu.out,←HQ.out,←HX.out,hstep.out,if_neg HCT.out]
      rw[e];rfl
    ·
     obtain rfl:k=q:=by omega
     have hu2:Hid (za8 l=if zoF m x then 0 else m):=by
      have:=HX.out
      rw[Nat.sub_self] at this
      simp only[zfr] at this
      rw[Hid,hu.out,←HQ.out,←this]
     obtain⟨lv,HLV⟩:∃ lv,Hid (lv=zfP m):=⟨_,rfl⟩
     have hlv:lv≤65536:=by
      rw[HLV.out];unfold zfP;repeat' split
      all_goals omega
     have HUB:Hid (zoF m x=decide (x<lv∨1114111<x∨55296≤x∧x≤57343)):=by rw[HLV.out];rfl
     clear hx
     by_cases c1:x<lv
     ·
      have hv:Hid (za8 l=0):=by rw[Hid,hu2.out,HUB.out,if_pos (by simp[c1])]
      go_wp2_with (go_at_call 168;refine (zed _ (by omega) _).mono ?_;rintro e w' ⟨rfl,rfl⟩;rw[←HLV.out])
      go_ret
      rw[hv.out]
      exact⟨rfl,rfl⟩
     ·
      by_cases c2:1114111<x
      ·
       have hv:Hid (za8 l=0):=by rw[Hid,hu2.out,HUB.out,if_pos (by simp[c2])]
       go_wp2_with (go_at_call 168;refine (zed _ (by omega) _).mono ?_;rintro e w' ⟨rfl,rfl⟩;rw[←HLV.out])
       go_ret
       rw[hv.out]
       exact⟨rfl,rfl⟩
      ·
       by_cases c3:55296≤x
       ·
        by_cases c4:x≤57343
        ·
         have hv:Hid (za8 l=0):=by rw[Hid,hu2.out,HUB.out,if_pos (by simp[c3,c4])]
         go_wp2_with (go_at_call 168;refine (zed _ (by omega) _).mono ?_;rintro e w' ⟨rfl,rfl⟩;rw[←HLV.out])
         go_ret
         rw[hv.out]
         exact⟨rfl,rfl⟩
        ·
         have hv:Hid (za8 l=m):=by rw[Hid,hu2.out,HUB.out,if_neg (by simp;omega)]
         go_wp2_with (go_at_call 168;refine (zed _ (by omega) _).mono ?_;rintro e w' ⟨rfl,rfl⟩;rw[←HLV.out])
         go_ret
         rw[hv.out]
         exact⟨rfl,rfl⟩
       ·
        have hv:Hid (za8 l=m):=by rw[Hid,hu2.out,HUB.out,if_neg (by simp;omega)]
        go_wp2_with (go_at_call 168;refine (zed _ (by omega) _).mono ?_;rintro e w' ⟨rfl,rfl⟩;rw[←HLV.out])
        go_ret
        rw[hv.out]
        exact⟨rfl,rfl⟩
theorem zoQ {w:World}{v:Value}{l:List UInt8}(h:zay w v l) :
  Calls Tryz.prog 130 #[v,.int .i64 l.length] w fun e w'=>(∃ k:Nat,e= .returned (.tuple #[.int .i64 (zbf l),.int .i64 k]))∧w=w':=by
 obtain⟨hlen,a,cap,rfl,-,-,-,-⟩:=h.open
 obtain⟨n,HN⟩:∃ n,Hid (n=l.length):=⟨_,rfl⟩
 rw[←HN.out] at hlen h ⊢
 go_enter Tryz.func130,Tryz.ntmps130
 go_wp2
 go_loop [6,7] (fun v6 v7=>∃ k x:Nat,k≤n∧x≤k∧v6= .int .i64 k∧v7= .int .i64 x∧Hid (k+zbf (l.drop k)=zbf l)) (fun v6 _=>n - (intOf v6).toNat)
 case atStart=>exact⟨0,0,by omega,by omega,rfl,rfl,by simp[Hid]⟩
 case round =>
  obtain⟨k,x,hk,hx,rfl,rfl,HK⟩:=hrel
  obtain⟨v',hsl,hv'⟩:=h.l HN.out k hk
  obtain⟨m,HM⟩:∃ m,Hid (m=za8 (l.drop k)):=⟨_,rfl⟩
  have hm:k+m≤n:=by
   have:=(zgm (l.drop k)).1
   rw[List.length_drop,←HN.out,←HM.out] at this
   omega
  have hs:=zgJ (l.drop k)
  rw[←HM.out] at hs
  have HS:=hid hs
  clear hs
  by_cases hm0:m=0
  ·
   subst hm0
   go_wp2_with (go_at_call 157;refine (zll hv').mono ?_;rintro e w' ⟨rfl,rfl⟩;rw[←HM.out])
   refine bodyPost_ret (v:=.tuple #[.int .i64 k,.int .i64 x]) (by simp[results,Tryz.results130,go_sem]) rfl ⟨⟨x,?_⟩,rfl⟩
   have e:zbf l=k:=by rw[←HK.out,HS.out];simp
   rw[e]
  ·
   have hm1:((m:Int) == 0)=false:=by simp;omega
   have HM0:=hid hm0
   have hmp:0<m:=by omega
   clear hm0
   go_wp2_with (go_at_call 157;refine (zll hv').mono ?_;rintro e w' ⟨rfl,rfl⟩;rw[←HM.out])
   go_round
   case rel =>
    refine⟨k+m,x+1,by omega,by omega,by go_num,by go_num,?_⟩
    rw[←HK.out,HS.out,if_neg HM0.out,List.drop_drop,Nat.add_assoc]
    exact hid rfl
   case measure=>simp[intOf];omega
theorem znl {w:World}{v:Value}{l:List UInt8}(h:zay w v l) :
  Calls Tryz.prog 97 #[v] w fun e w'=>e= .returned (.int .i64 (zbf l))∧w=w':=by
 obtain⟨hlen,a,cap,rfl,-,-,-,-⟩:=h.open
 go_enter Tryz.func97,Tryz.ntmps97
 go_wp2_with (go_at_call 130;refine (zoQ h).mono ?_;rintro e w' ⟨⟨k,rfl⟩,rfl⟩)
 go_ret
 exact⟨rfl,rfl⟩
theorem znm {w:World}{v:Value}{l:List UInt8}(h:zay w v l) :
  Calls Tryz.prog 61 #[v] w fun e w'=>e= .returned (.bool (decide (zbf l=l.length)))∧w=w':=by
 obtain⟨hlen,a,cap,rfl,-,-,-,-⟩:=h.open
 go_enter Tryz.func61,Tryz.ntmps61
 go_wp2_with (go_at_call 97;refine (znl h).mono ?_;rintro e w' ⟨rfl,rfl⟩)
 go_ret
 refine⟨zcG ?_,rfl⟩
 show Value.bool ((zbf l:Int) == (l.length:Int))=_
 congr 1
 rw[Bool.eq_iff_iff]
 simp
 omega
end
end Go.Proofs.YtdpnmdkbdibkpaaGreatDoor
