/- Reading a list of strings from an argument's data; its weight is at most the reading's bulk. Reading a schema from an argument's data. Reading bytes and slices of bytes from an argument's data. -/
import Derived.Test.YtpckoeicbjfnhaaGreatDoorRows
import Derived.Test.YtpckoeicbjfnhaaGreatDoorY03
import Derived.Test.YtpckoeicbjfnhaaGreatDoorY11
import Derived.Test.YtpckoeicbjfnhaaGreatDoorY12
import Derived.Deep.Slices
import Derived.SizedLaws
import Derived.ProofKit
namespace Go.Proofs.YtpckoeicbjfnhaaGreatDoor
set_option maxRecDepth 100000
set_option maxHeartbeats 16000000
section
open Go.RowKit Go.Deep
def zgi {H:Type}(P:Program)(t:TypeId)(d:DataW H):Prop:=∀ n∈d.weights P t,n≤reachBytes
theorem zoe {H:Type}{P:Program}{t e:TypeId}(ht:P.underlying t=some (.slice e)){es sp:List (DataW H)}(h:zgi P t (.slice es sp)) :
  (es.length+sp.length)*P.bytesOf e≤reachBytes∧(∀ d∈es,zgi P e d)∧(∀ d∈sp,zgi P e d):=by
 have all:∀ (l:List (DataW H)) (d:DataW H),d∈l→∀ n∈d.weights P e,n∈DataW.weightsAll P e l:=by
  intro l
  induction l with
  | nil=>intro d hd;simp at hd
  | cons x r ih =>
   intro d hd n hn
   rw[DataW.weightsAll]
   rcases List.mem_cons.1 hd with rfl|hd
   ·
    exact List.mem_append_left _ hn
   ·
    exact List.mem_append_right _ (ih d hd n hn)
 refine⟨h _ (by simp[DataW.weights,ht]),fun d hd n hn=>h n ?_,fun d hd n hn=>h n ?_⟩
 ·
  simp only[DataW.weights,ht]
  exact List.mem_cons_of_mem _ (List.mem_append_left _ (all _ d hd n hn))
 ·
  simp only[DataW.weights,ht]
  exact List.mem_cons_of_mem _ (List.mem_append_right _ (all _ d hd n hn))
theorem zhK {H:Type}{P:Program}{t:TypeId}{fs:Array Field}(ht:P.underlying t=some (.struct fs)){ds:List (DataW H)}(h:zgi P t (.agg ds)) :
  ∀ (i:Nat) (f:Field) (d:DataW H),fs[i]?=some f→ds[i]?=some d→zgi P f.type d:=by
 have each:∀ (ts:List TypeId) (l:List (DataW H)) (i:Nat) (u:TypeId) (d:DataW H),ts[i]?=some u→l[i]?=some d→∀ n∈d.weights P u,n∈DataW.weightsEach P ts l:=by
  intro ts
  induction ts with
  | nil=>intro l i u d hu;simp at hu
  | cons a r ih =>
   intro l i u d hu hd n hn
   cases l with
   | nil=>simp at hd
   | cons x l =>
    rw[DataW.weightsEach]
    cases i with
    | zero=>simp at hu hd;subst hu;subst hd;exact List.mem_append_left _ hn
    | succ i=>exact List.mem_append_right _ (ih l i u d (by simpa using hu) (by simpa using hd) n hn)
 intro i f d hf hd n hn
 refine h n ?_
 simp only[DataW.weights,ht]
 exact each _ _ i f.type d (by simp;exact⟨f,by simpa using hf,rfl⟩) hd n hn
theorem zjp {H:Type}{P:Program}{ts:List TypeId}{ds:List (DataW H)}(h:(DataW.weightsEach P ts ds).all (· ≤ reachBytes)=true){j:Nat}{t:TypeId}{d:DataW H}(ht:ts[j]?=some t)(hd:ds[j]?=some d):zgi P t d:=by
 intro n hn
 have:=List.all_eq_true.1 h _ (DataW.weights_mem_each ht hd n hn)
 simpa using this
theorem zsY {α:Type}(n:Nat)(css:Nat→List α)(f:Nat→α)(h:∀ i,i<n→css i=[f i]):(List.range n).flatMap css=(List.range n).map f:=by
 induction n with
 | zero=>rfl
 | succ n ih =>
  rw[List.range_succ,List.flatMap_append,List.map_append,ih (fun i hi=>h i (by omega))]
  simp[h n (by omega)]
theorem zm9:Tryz.prog.cellsOf 9=1:=by kernel_rfl
theorem zjq {H:Type}{enc:TypeId × Value→H}{P:Program}{w:World}{t e:TypeId}{fuel:Nat}{u:Value}{x:DataW H × List MemPlace}(ht:P.underlying t=some (.slice e))(h:DataW.trod enc P w 0 (fun _=>true) true fuel t [u]=some x):∃ a n c,u= .slice a n c:=by
 rcases open_slice ht h with ⟨hcs,-⟩|⟨a,len,cap,m,n,D,Pl,hcs,-⟩
 ·
  exact⟨_,_,_,by simpa using hcs⟩
 ·
  exact⟨_,_,_,by simpa using hcs⟩
end
section
open Go.RowKit Go.Deep
theorem zgj {H:Type}{enc:TypeId × Value→H}{P:Program}{w:World}{t e:TypeId}{size:Nat}(ht:P.underlying t=some (.slice e))(hce:P.cellsOf e=size)(hbytes:1≤P.bytesOf e)
  {v:Value} {d:DataW H} {p:List MemPlace} (hv:∃ a n c,v= .slice a n c) (h:DataW.Trod enc P w 0 (fun _=>true) true t v d p) (hL:zgi P t d) :
  ∃ (n fuel:Nat) (css:Nat→List Value) (D:Nat→DataW H) (Pl:Nat→List MemPlace),Seg w v size n ((List.range n).flatMap css)∧(∀ i,i<n→(css i).length=size∧DataW.trod enc P w 0 (fun _=>true) true fuel e (css i)=some (D i,Pl i)∧zgi P e (D i)):=by
 obtain⟨a0,n0,c0,rfl⟩:=hv
 obtain⟨fuel,h⟩:=h
 rcases open_slice ht h with ⟨hcs,-⟩|⟨a,len,cap,m,n,D,Pl,hcs,-,hl,hm,hmm,hx,hel⟩
 ·
  simp[Value.cells] at hcs
  obtain⟨rfl,rfl,rfl⟩:=hcs
  exact⟨0,0,fun _=>[],fun _=> .nil,fun _=>[],⟨by simp,by simp,none,0,rfl,Nat.le_refl _,by omega,fun _=>rfl,fun j u hu=>by simp at hu⟩,fun i hi=>absurd hi (by omega)⟩
 ·
  simp[Value.cells] at hcs
  obtain⟨rfl,rfl,rfl⟩:=hcs
  simp only[if_true] at hmm
  subst hmm
  simp only[Prod.mk.injEq] at hx
  obtain⟨rfl,-⟩:=hx
  obtain⟨hb,hle,-⟩:=zoe ht hL
  simp only[List.length_map,List.length_range] at hb
  have hn47:n0≤140737488355328:=by
   have h1:reachBytes<2 ^ 47:=reachBytes_lt
   have h2:n0*1≤(n0+(m - n0))*P.bytesOf e:=Nat.mul_le_mul (by omega) hbytes
   omega
  obtain⟨css,hcss⟩:=choose_lt (α:=List Value) (n:=n0) (p:=fun i cs=>w.cells? 0 (a.add (i*P.cellsOf e)) (P.cellsOf e)=some cs∧DataW.trod enc P w 0 (fun _=>true) true n e cs=some (D i,Pl i)) (fun i hi=>hel i (by omega))
  have hlen:∀ i,i<n0→(css i).length=size:=fun i hi=>by rw[←hce];exact (World.cells?_some (hcss i hi).1).2.1
  have flat:∀ (k:Nat),k≤n0→((List.range k).flatMap css).length=k*size:=by
   intro k
   induction k with
   | zero=>intro _;simp
   | succ k ih =>
    intro hk
    rw[List.range_succ,List.flatMap_append,List.length_append,ih (by omega)]
    simp[hlen k (by omega),Nat.succ_mul]
  refine⟨n0,n,css,D,Pl,⟨flat n0 (Nat.le_refl _),hn47,some a,m,rfl,hl,by unfold maxLen at hm;omega,by simp,?_⟩,fun i hi=>⟨hlen i hi,(hcss i hi).2,hle _ (List.mem_map.2 ⟨i,List.mem_range.2 hi,rfl⟩)⟩⟩
  intro j u hu
  -- the cell at place j lies in element j / size
  have get:∀ (k:Nat),k≤n0→∀ j u,((List.range k).flatMap css)[j]?=some u→∃ i q,i<k∧q<size∧j=i*size+q∧(css i)[q]?=some u:=by
   intro k
   induction k with
   | zero=>intro _ j u hu;simp at hu
   | succ k ih =>
    intro hk j u hu
    rw[List.range_succ,List.flatMap_append] at hu
    by_cases hj:j<k*size
    ·
     rw[List.getElem?_append_left (by rw[flat k (by omega)];exact hj)] at hu
     obtain⟨i,q,h1,h2,h3,h4⟩:=ih (by omega) j u hu
     exact⟨i,q,by omega,h2,h3,h4⟩
    ·
     rw[List.getElem?_append_right (by rw[flat k (by omega)];omega),flat k (by omega)] at hu
     simp at hu
     have hq:j - k*size<size:=by
      have:=(List.getElem?_eq_some_iff.1 hu).1
      rw[hlen k (by omega)] at this;exact this
     exact⟨k,j - k*size,by omega,hq,by omega,hu⟩
  obtain⟨i,q,h1,h2,rfl,h4⟩:=get n0 (Nat.le_refl _) j u hu
  obtain⟨-,-,hc⟩:=World.cells?_some (hcss i h1).1
  have hcell:=hc q (by rw[hce];exact h2)
  rw[h4,hce,add_add] at hcell
  have hspot:a.spot=none:=by
   have h0:=(World.cells?_some (hcss 0 (by omega)).1).2.2 0 (by rw[hce];omega)
   have h5:(css 0)[0]?=some ((css 0)[0]'(by rw[hlen 0 (by omega)];omega)):=List.getElem?_eq_getElem _
   rw[h5] at h0
   simpa [Addr.add] using World.cell?_spot h0
  obtain⟨b,o,sp⟩:=a
  have:sp=none:=hspot
  subst this
  rw[zfj] at hcell
  exact⟨b,o,rfl,hcell⟩
theorem zkK {α:Type}(n:Nat)(f:Nat→α)(z:α)(j:Nat)(hj:j<n):((List.range n).map f).getD j z=f j:=by simp[List.getD,hj]
theorem zfR {α β:Type}{l:List α}{f g:α→List β}(h:∀ a∈l,f a=g a):l.flatMap f=l.flatMap g:=by
 induction l with
 | nil=>rfl
 | cons a r ih =>
  rw[List.flatMap_cons,List.flatMap_cons,h a (by simp),ih fun x hx=>h x (by simp[hx])]
theorem zr3:Tryz.prog.bytesOf 73=48:=by kernel_rfl
theorem zna:Tryz.prog.cellsOf 73=6:=by kernel_rfl
theorem zr4:Tryz.prog.bytesOf 76=40:=by kernel_rfl
theorem zr5:Tryz.prog.cellsOf 76=2:=by kernel_rfl
theorem zjr:Tryz.prog.cellsOf 3=1:=by kernel_rfl
theorem zkL:Tryz.prog.cellsOf 4=1:=by kernel_rfl
theorem zqr:Tryz.prog.cellsOf 74=1:=by kernel_rfl
theorem zr6 {x:Int}(h:(Lit.int .i64 x).wf=true):-9223372036854775808≤x∧x≤9223372036854775807:=by
 simpa [Lit.wf,IntKind.min,IntKind.max,IntKind.signed,IntKind.bits] using h
theorem zof {H:Type}{enc:TypeId × Value→H}{w:World}{fuel:Nat}{cs:List Value}{d:DataW H}{p:List MemPlace}(h:DataW.trod enc Tryz.prog w 0 (fun _=>true) true fuel 73 cs=some (d,p))(hL:zgi Tryz.prog 73 d) :
  ∃ f:Fld,f.Ok∧cs=f.cells:=by
 obtain⟨xs,n,-,hx,hl,hlen,hf⟩:=DataW.trod_struct Tryz.underlying73 h
 simp only[Prod.mk.injEq] at hx
 obtain⟨rfl,-⟩:=hx
 have hsub:=zhK Tryz.underlying73 hL
 rw[zna] at hl
 match cs,hl,xs,hlen with
 | [c0,c1,c2,c3,c4,c5],_,[x0,x1,x2,x3,x4,x5],_ =>
  have g0:DataW.trod enc Tryz.prog w 0 (fun _=>true) true n 9 [c0]=some x0:=by have:=hf 0 _ rfl;simpa [zm9] using this
  have g1:DataW.trod enc Tryz.prog w 0 (fun _=>true) true n 3 [c1]=some x1:=by have:=hf 1 _ rfl;simpa [zjr] using this
  have g2:DataW.trod enc Tryz.prog w 0 (fun _=>true) true n 3 [c2]=some x2:=by have:=hf 2 _ rfl;simpa [zjr] using this
  have g3:DataW.trod enc Tryz.prog w 0 (fun _=>true) true n 4 [c3]=some x3:=by have:=hf 3 _ rfl;simpa [zkL] using this
  have g4:DataW.trod enc Tryz.prog w 0 (fun _=>true) true n 4 [c4]=some x4:=by have:=hf 4 _ rfl;simpa [zkL] using this
  have g5:DataW.trod enc Tryz.prog w 0 (fun _=>true) true n 3 [c5]=some x5:=by have:=hf 5 _ rfl;simpa [zjr] using this
  obtain⟨s,e0,r0,-⟩:=DataW.trod_string Tryz.underlying9 g0
  obtain⟨n1,e1,-,w1⟩:=DataW.trod_int Tryz.underlying3 g1
  obtain⟨n2,e2,-,w2⟩:=DataW.trod_int Tryz.underlying3 g2
  obtain⟨b3,e3,-⟩:=DataW.trod_bool Tryz.underlying4 g3
  obtain⟨b4,e4,-⟩:=DataW.trod_bool Tryz.underlying4 g4
  obtain⟨n5,e5,-,w5⟩:=DataW.trod_int Tryz.underlying3 g5
  have hs:s.size≤140737488355328:=by
   have h1:=hsub 0 _ _ rfl rfl
   rw[r0] at h1
   have h2:=h1 s.data.toList.length (by simp[DataW.weights])
   have h3:reachBytes<2 ^ 47:=reachBytes_lt
   simp at h2
   have h4:s.data.size=s.size:=rfl
   omega
  simp only[List.cons.injEq,and_true] at e0 e1 e2 e3 e4 e5
  refine⟨⟨s,n1,n2,b3,b4,n5⟩,⟨hs,zr6 w1,zr6 w2,zr6 w5⟩,?_⟩
  simp[Fld.cells,e0,e1,e2,e3,e4,e5]
theorem zjL {H:Type}{enc:TypeId × Value→H}{w:World}{v:Value}{d:DataW H}{p:List MemPlace}(hv:∃ a n c,v= .slice a n c)(h:DataW.Trod enc Tryz.prog w 0 (fun _=>true) true 74 v d p)(hL:zgi Tryz.prog 74 d) :
  ∃ fs,zaK w v fs:=by
 obtain⟨n,fuel,css,D,Pl,hs,hel⟩:=zgj Tryz.underlying74 zna (by rw[zr3];omega) hv h hL
 haveI:Inhabited Fld:=⟨.zero⟩
 obtain⟨f,hf⟩:=choose_lt (α:=Fld) (n:=n) (p:=fun i f=>f.Ok∧css i=f.cells) (fun i hi=>by
  obtain⟨h1,h2,h3⟩:=hel i hi
  exact zof h2 h3)
 refine⟨(List.range n).map f,?_,fun g hg=>?_⟩
 ·
  rw[List.length_map,List.length_range]
  have:((List.range n).map f).flatMap Fld.cells=(List.range n).flatMap css:=by
   rw[List.flatMap_map]
   exact zfR (fun i hi=>((hf i (List.mem_range.1 hi)).2).symm)
  rw[this]
  exact hs
 ·
  obtain⟨i,hi,rfl⟩:=List.mem_map.1 hg
  exact (hf i (List.mem_range.1 hi)).1
theorem zjM {H:Type}{enc:TypeId × Value→H}{w:World}{v:Value}{d:DataW H}{p:List MemPlace}(hv:∃ a n c,v= .slice a n c)(h:DataW.Trod enc Tryz.prog w 0 (fun _=>true) true 23 v d p)(hL:zgi Tryz.prog 23 d) :
  ∃ s,zap w v s:=by
 obtain⟨n,fuel,css,D,Pl,hs,hel⟩:=zgj Tryz.underlying23 zr5 (by rw[zr4];omega) hv h hL
 haveI:Inhabited (Mes × Value):=⟨(.zero,undef)⟩
 obtain⟨m,hm⟩:=choose_lt (α:=Mes × Value) (n:=n) (p:=fun i m=>m.1.name.size≤140737488355328∧css i=zgm m∧zaK w m.2 m.1.fields) (fun i hi=>by
  obtain⟨h1,h2,h3⟩:=hel i hi
  obtain⟨xs,k,-,hx,hl,hlen,hf⟩:=DataW.trod_struct Tryz.underlying76 h2
  simp only[Prod.mk.injEq] at hx
  obtain⟨hx,-⟩:=hx
  rw[hx] at h3
  have hsub:=zhK Tryz.underlying76 h3
  match hcs:css i,h1,xs,hlen with
  | [c0,c1],_,[x0,x1],_ =>
   rw[hcs] at hf
   have g0:DataW.trod enc Tryz.prog w 0 (fun _=>true) true k 9 [c0]=some x0:=by have:=hf 0 _ rfl;simpa [zm9] using this
   have g1:DataW.trod enc Tryz.prog w 0 (fun _=>true) true k 74 [c1]=some x1:=by have:=hf 1 _ rfl;simpa [zqr] using this
   obtain⟨s,e0,r0,-⟩:=DataW.trod_string Tryz.underlying9 g0
   have hs:s.size≤140737488355328:=by
    have h1:=hsub 0 _ _ rfl rfl
    rw[r0] at h1
    have h2:=h1 s.data.toList.length (by simp[DataW.weights])
    have h3:reachBytes<2 ^ 47:=reachBytes_lt
    simp at h2
    have h4:s.data.size=s.size:=rfl
    omega
   obtain⟨a,q,c,rfl⟩:=zjq Tryz.underlying74 g1
   obtain⟨fs,hfs⟩:=zjL ⟨a,q,c,rfl⟩ ⟨k,by simpa [Value.cells] using g1⟩ (hsub 1 _ _ rfl rfl)
   simp only[List.cons.injEq,and_true] at e0
   exact⟨(⟨s,fs⟩,.slice a q c),hs,by simp[zgm,e0],hfs⟩)
 refine⟨(List.range n).map fun i=>(m i).1,(List.range n).map fun i=>(m i).2,by simp,?_,fun x hx=>?_,fun i hi=>?_⟩
 ·
  rw[List.length_map,List.length_range]
  have:(((List.range n).map fun i=>(m i).1).zip ((List.range n).map fun i=>(m i).2)).flatMap zgm=(List.range n).flatMap css:=by
   rw[List.zip_map',List.flatMap_map]
   exact zfR (fun i hi=>((hm i (List.mem_range.1 hi)).2.1).symm)
  rw[this]
  exact hs
 ·
  obtain⟨i,hi,rfl⟩:=List.mem_map.1 hx
  exact (hm i (List.mem_range.1 hi)).1
 ·
  rw[List.length_map,List.length_range] at hi
  rw[zkK n _ undef i hi,zkK n _ Mes.zero i hi]
  exact (hm i hi).2.2
end
section
open Go.RowKit Go.Deep
theorem zsZ:Tryz.prog.bytesOf 5=1:=by kernel_rfl
theorem zs0:Tryz.prog.cellsOf 5=1:=by kernel_rfl
theorem zgR {H:Type}{enc:TypeId × Value→H}{w:World}{v:Value}{d:DataW H}{p:List MemPlace}(hv:∃ a n c,v= .slice a n c)(h:DataW.Trod enc Tryz.prog w 0 (fun _=>true) true 47 v d p)(hL:zgi Tryz.prog 47 d) :
  ∃ l,zal w v l:=by
 obtain⟨n,fuel,css,D,Pl,hs,hel⟩:=zgj zaG zs0 (by rw[zsZ];exact Nat.le_refl _) hv h hL
 obtain⟨c,hc⟩:=choose_lt (α:=UInt8) (n:=n) (p:=fun i c=>css i=[zfB c]) (fun i hi=>by
  obtain⟨h1,h2,-⟩:=hel i hi
  obtain⟨z,hz,-,wz⟩:=DataW.trod_int Tryz.underlying5 h2
  have hb:0≤z∧z≤255:=by simpa [Lit.wf,IntKind.min,IntKind.max,IntKind.signed,IntKind.bits] using wz
  refine⟨UInt8.ofNat z.toNat,?_⟩
  rw[hz]
  simp[zfB]
  omega)
 refine⟨(List.range n).map c,?_⟩
 unfold zal
 rw[List.length_map,List.length_range,List.map_map,←zsY n css (zfB ∘ c) (fun i hi=>hc i hi)]
 exact hs
end
end Go.Proofs.YtpckoeicbjfnhaaGreatDoor
