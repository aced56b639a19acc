/- Parts of a proof: texts of the author, merged. No condition of their own. -/
import Derived.Test.YtpckoeicbjfnhaaGreatDoorY01
import Derived.Test.YtpckoeicbjfnhaaGreatDoorY16
import Derived.Test.YtpckoeicbjfnhaaGreatDoorY23
import Derived.Test.YtpckoeicbjfnhaaGreatDoorY29
import Derived.Test.YtpckoeicbjfnhaaGreatDoorY40
import Derived.Test.YtpckoeicbjfnhaaGreatDoorY44
import Derived.Deep.RegionHeld3
import Derived.StillTail
import Derived.BigRegion
import Derived.Deep.CutBlock
namespace Go.Proofs.YtpckoeicbjfnhaaGreatDoor
set_option maxRecDepth 100000
set_option maxHeartbeats 16000000
section
open Go.RowKit
def zdf (all:List VW)(n:Int):List VW:=all.filter fun x=>decide (0≤x.k∧(x.r.number:Int)=n)
def zgh (l:List UInt8)(all:List VW):List UInt8:=(all.filter fun x=>decide (x.k<0)).flatMap fun x=>zbx l x.r.start x.r.to
def atK (es:List (Int × Value))(n:Int):Value:=(zaC n es).getD zaA
theorem zjn (taken:List VW)(x:VW)(n:Int):zdf (taken++[x]) n=if 0≤x.k∧(x.r.number:Int)=n then zdf taken n++[x] else zdf taken n:=by
 unfold zdf
 rw[List.filter_append]
 by_cases h:0≤x.k∧(x.r.number:Int)=n
 ·
  rw[if_pos h,List.filter_cons,decide_eq_true h,if_pos rfl];rfl
 ·
  rw[if_neg h,List.filter_cons,decide_eq_false h,if_neg (by decide)];simp
theorem zkH (l:List UInt8)(taken:List VW)(x:VW):zgh l (taken++[x])=if x.k<0 then zgh l taken++zbx l x.r.start x.r.to else zgh l taken:=by
 unfold zgh
 rw[List.filter_append]
 by_cases h:x.k<0
 ·
  rw[if_pos h,List.filter_cons,decide_eq_true h,if_pos rfl,List.flatMap_append];simp
 ·
  rw[if_neg h,List.filter_cons,decide_eq_false h,if_neg (by decide)];simp
structure GSt (B r:Nat)(taken:List VW)(es:List (Int × Value))(w:World):Prop where
 map:zax w r zcK es
 own:∀ n:Int,zlL w B (atK es n) (zdf taken n)
 apart:∀ (n m:Int) (b:Nat),(atK es n).ownBlock=some b→(atK es m).ownBlock=some b→n=m
structure GI (W5:World)(r P:Nat)(l:List UInt8)(taken:List VW)(es:List (Int × Value))(u:Value)(w:World):Prop where
 fr:Fr W5 r P w
 box:Blk w P [.map (some r),u] 168
 st:GSt W5.heap.size r taken es w
 un:Own w W5.heap.size u (zgh l taken)
 ua:∀ (n:Int) (b:Nat),(atK es n).ownBlock=some b→u.ownBlock≠some b
theorem zgP {w w':World}{base:Nat}{v:Value}{l:List VW}(h:zlL w base v l)(hk:∀ b,v.ownBlock=some b→w'.heap[b]?=w.heap[b]?):zlL w' base v l:=by
 unfold zlL at h ⊢
 exact zdl h hk
theorem zlL.own {w:World}{base:Nat}{v:Value}{l:List VW}(h:zlL w base v l)(b:Nat)(e:v.ownBlock=some b):base≤b∧b<w.heap.size:=World.ownsRow.lt h b e
theorem Own.own {w:World}{base:Nat}{v:Value}{l:List UInt8}(h:Own w base v l)(b:Nat)(e:v.ownBlock=some b):base≤b∧b<w.heap.size:=World.ownsRow.lt h b e
theorem zjo {w w':World}{base:Nat}{v:Value}{l:List UInt8}(h:Own w base v l)(hk:∀ b,v.ownBlock=some b→w'.heap[b]?=w.heap[b]?):Own w' base v l:=by
 unfold Own at h ⊢
 exact zdl h hk
theorem GI.start {W5:World}{r P:Nat}{l:List UInt8}(hm:zax W5 r zcK [])(hb:Blk W5 P [.map (some r),zaA] 168):GI W5 r P l [] [] zaA W5:=
 ⟨Fr.refl _ _ _,hb,⟨hm,fun n=>World.ownsRow_nil _ _ _ _,fun n m b h=>by simp[atK,zaC,Value.ownBlock] at h⟩,zfZ _ _,fun n b h=>by simp[atK,zaC,Value.ownBlock] at h⟩
theorem GI.below {W5:World}{r P:Nat}{l:List UInt8}{taken:List VW}{es:List (Int × Value)}{u:Value}{w w':World}(h:GI W5 r P l taken es u w)(hr:r<W5.heap.size)(hb:Below w.heap.size w w'):GI W5 r P l taken es u w':=by
 have hs:=h.fr.size
 exact⟨h.fr.below hb,h.box.below hb,⟨(hb.block r (by omega)).trans h.st.map,fun n=>(h.st.own n).below_of hb,h.st.apart⟩,h.un.below_of hb,h.ua⟩
theorem GI.unkPush {W5:World}{r P:Nat}{l:List UInt8}{taken:List VW}{es:List (Int × Value)}{u:Value}{w:World}(h:GI W5 r P l taken es u w)(hr:r<W5.heap.size)(hP:P<W5.heap.size)(hne:P≠r){x:VW}(hx:x.k<0){t:List UInt8}{v:Value}(hv:zal w v t)(ht:t=zbx l x.r.start x.r.to)(hl:(zgh l taken).length+t.length≤4398046511104) :
  ∃ a5 n5 c5 w7,(Builtin.append_ #[47,47] 47 #[u,v]).run Tryz.prog w= .ok (.slice a5 n5 c5) w7∧Blk w7 P [.map (some r),u] 168∧GI W5 r P l (taken++[x]) es (.slice a5 n5 c5) (w7.setCell ⟨P,1,none⟩ (.slice a5 n5 c5)):=by
 have hs:=h.fr.size
 obtain⟨v',w7,hrun,hO,hg,hat⟩:=zbh h.un hv (by omega) hs
 obtain⟨a5,n5,c5,rfl⟩:=zaS hO
 have hub:∀ b,u.ownBlock=some b→W5.heap.size≤b:=fun b e=>(h.un.own b e).1
 have hb7:Blk w7 P [.map (some r),u] 168:=(hg.block P h.box.lt (fun e=>by have:=hub P e.symm;omega)).trans h.box
 have hk:∀ b,b<w.heap.size→b≠P→u.ownBlock≠some b→(w7.setCell ⟨P,1,none⟩ (.slice a5 n5 c5)).heap[b]?=w.heap[b]?:=fun b hlt h1 h2=>by
  rw[Below.heap_setCell _ _ _ b (by show b≠P;exact h1)]
  exact hg.block b hlt fun e=>h2 e.symm
 have hnk:∀ n,zdf (taken++[x]) n=zdf taken n:=fun n=>by rw[zjn,if_neg (by omega)]
 refine⟨a5,n5,c5,w7,hrun,hb7,?_,by simpa using hb7.set 1 (.slice a5 n5 c5),⟨?_,fun n=>?_,h.st.apart⟩,?_,fun n b e e2=>?_⟩
 ·
  have hf7:=h.fr.grown hg fun b e=> .inl (hub b e)
  have hc:w7.grownBy (w7.setCell ⟨P,1,none⟩ (.slice a5 n5 c5)) (some P):=zbb _ _ _
  exact hf7.grown hc fun b e=> .inr (.inr (Option.some.inj e).symm)
 ·
  exact (hk r (by omega) (by omega) (fun e=>by have:=hub r e;omega)).trans h.st.map
 ·
  rw[hnk]
  exact zgP (h.st.own n) fun b e=>hk b ((h.st.own n).own b e).2 (by have:=((h.st.own n).own b e).1;omega) (h.ua n b e)
 ·
  rw[zkH,if_pos hx,←ht]
  exact zjo hO fun b e=>Below.heap_setCell _ _ _ b (by show b≠P;have:=(hO.own b e).1;omega)
 ·
  rcases hat with e3|e3
  ·
   rw[e3] at e2;exact h.ua n b e e2
  ·
   rw[e3] at e2;injection e2 with e2;have:=((h.st.own n).own b e).2;omega
theorem zqo:∀ w:World,(zeroValue 170).run Tryz.prog w= .ok zaA w:=fun w=>by kernel_rfl
theorem zfi {w:World}{r:Nat}{es:List (Int × Value)}(h:zax w r zcK es)(q:Int):(Instr.lookup 166 (.map (some r)) (.int .i64 q) false).run Tryz.prog w= .ok (atK es q) w:=by
 have:=zbG (P:=Tryz.prog) zd0 Tryz.underlying166 zqo h q false
 simp only[Bool.false_eq_true,if_false] at this
 exact this
theorem zn8 (es:List (Int × Value))(k:Int)(v:Value)(n:Int):atK (zmo k v es) n=if n=k then v else atK es n:=by
 unfold atK
 rw[zlo]
 split <;> rfl
theorem GI.viewPush {W5:World}{r P:Nat}{l:List UInt8}{taken:List VW}{es:List (Int × Value)}{u:Value}{w:World}(h:GI W5 r P l taken es u w)(hr:r<W5.heap.size)(hP:P<W5.heap.size)(hne:P≠r){x:VW}(hx:0≤x.k){n:Int}(hn:(x.r.number:Int)=n)(hl:taken.length≤1099511627776) :
  ∃ a5 n5 c5 w7,(Builtin.append_ #[170,170] 170 #[atK es n,.slice (some ⟨w.heap.size,0,none⟩) 1 1]).run Tryz.prog (w.alloc (.cells x.cells.toArray 212))= .ok (.slice a5 n5 c5) w7∧(∀ b,b<w.heap.size→(atK es n).ownBlock≠some b→w7.heap[b]?=w.heap[b]?) ∧
   (∃ w8,(Instr.mapUpdate 166 (.map (some r)) (.int .i64 n) (.slice a5 n5 c5)).run Tryz.prog w7= .ok () w8∧∃ es',GI W5 r P l (taken++[x]) es' u w8):=by
 have hs:=h.fr.size
 have hnl:(zdf taken n).length≤1099511627776:=by have:=List.length_filter_le (fun x:VW=>decide (0≤x.k∧(x.r.number:Int)=n)) taken;unfold zdf;omega
 have hcells:∀ u∈x.cells.toArray.toList,u.oneCell'=true:=by
  intro u hu
  have hu':u∈x.cells:=by simpa using hu
  unfold VW.cells zdh at hu'
  simp only[List.mem_cons,List.not_mem_nil,or_false] at hu'
  rcases hu' with rfl|rfl|rfl|rfl|rfl|rfl|rfl <;> rfl
 obtain⟨v',w7,hrun,hO,hg,hat⟩:=(zjm (h.st.own n)).append' (by decide) (G:=Tryz.prog) 170 _ 56 Tryz.underlying170 zml rfl x.cells.toArray rfl hcells x (fun _ _=>rfl) hnl (by decide) hs
 have hO7:=zrZ hO
 obtain⟨a5,c5,rfl⟩:=hO7.form
 have hA:Below w.heap.size w (w.alloc (.cells x.cells.toArray 212)):=(Below.refl _ _).alloc (Nat.le_refl _) _
 have hgw:w.grownBy w7 (atK es n).ownBlock:=⟨hg.os,hg.tape,hg.output,Nat.le_trans (by simp) hg.size,fun k hk h2=>(hg.block k (by simp;omega) h2).trans (Below.heap_alloc w _ k hk)⟩
 have hvb:∀ (m:Int) (b:Nat),(atK es m).ownBlock=some b→W5.heap.size≤b∧b<w.heap.size:=fun m b e=>(h.st.own m).own b e
 have hk7:∀ b,b<w.heap.size→(atK es n).ownBlock≠some b→w7.heap[b]?=w.heap[b]?:=fun b hb e=>hgw.block b hb fun e2=>e e2.symm
 have hm7:zax w7 r zcK es:=(hk7 r (by omega) (fun e=>by have:=(hvb n r e).1;omega)).trans h.st.map
 have hnew:∀ b,(Value.slice a5 (zdf taken n++[x]).length c5).ownBlock=some b→(atK es n).ownBlock=some b∨w.heap.size≤b:=fun b e=>by
  rcases hat with e2|e2
  ·
   rw[e2] at e;exact .inl e
  ·
   rw[e2] at e;injection e with e;simp at e;exact .inr (by omega)
 refine⟨a5,_,c5,w7,hrun,hk7,_,zrk (P:=Tryz.prog) zd0 zhA Tryz.underlying166 hm7 n _,_,?_,?_,⟨zdr (by have:=hgw.size;omega),fun m=>?_,fun m m' b e e'=>?_⟩,?_,fun m b e=>?_⟩
 ·
  have hf7:=h.fr.grown hgw fun b e=> .inl (hvb n b e).1
  exact⟨hf7.os,hf7.tape,hf7.output,by rw[zbp];exact hf7.size,fun b h1 h2 h3=>(zaF h2).trans (hf7.block b h1 h2 h3)⟩
 ·
  exact (zaF hne).trans ((hk7 P (by omega) (fun e=>by have:=(hvb n P e).1;omega)).trans h.box)
 ·
  rw[zn8,zjn]
  by_cases hm:m=n
  ·
   subst hm
   rw[if_pos rfl,if_pos ⟨hx,hn⟩]
   exact zgP hO7 fun b e=>zaF (by have:=(hO7.own b e).1;omega)
  ·
   rw[if_neg hm,if_neg (fun e=>hm (e.2.symm.trans hn))]
   exact zgP (h.st.own m) fun b e=>(zaF (by have:=(hvb m b e).1;omega)).trans (hk7 b (hvb m b e).2 fun e2=>hm (h.st.apart m n b e e2))
 ·
  rw[zn8] at e e'
  by_cases hm:m=n
  ·
   by_cases hm':m'=n
   ·
    omega
   ·
    rw[if_pos hm] at e
    rw[if_neg hm'] at e'
    rcases hnew b e with e2|e2
    ·
     exact absurd (h.st.apart m' n b e' e2) hm'
    ·
     have:=(hvb m' b e').2;omega
  ·
   rw[if_neg hm] at e
   by_cases hm':m'=n
   ·
    rw[if_pos hm'] at e'
    rcases hnew b e' with e2|e2
    ·
     exact absurd (h.st.apart m n b e e2) hm
    ·
     have:=(hvb m b e).2;omega
   ·
    rw[if_neg hm'] at e'
    exact h.st.apart m m' b e e'
 ·
  rw[zkH,if_neg (by omega)]
  refine zjo h.un fun b e=>(zaF (by have:=(h.un.own b e).1;omega)).trans (hk7 b (h.un.own b e).2 fun e2=>h.ua n b e2 e)
 ·
  rw[zn8] at e
  by_cases hm:m=n
  ·
   rw[if_pos hm] at e
   rcases hnew b e with e2|e2
   ·
    exact h.ua n b e2
   ·
    intro e3;have:=(h.un.own b e3).2;omega
  ·
   rw[if_neg hm] at e
   exact h.ua m b e
theorem zqp {s:List Mes}{d m:Nat}{l:List UInt8}{all:List VW}(hN:zq0 (s.getD m .zero).fields)(hall:∀ x∈all,zea s d m l x)(hnum:∀ x∈all,∀ k:Nat,x.k=k→((s.getD m .zero).fields.getD k .zero).number=(x.r.number:Int)){q:Nat}(hq:q<(s.getD m .zero).fields.length) :
  zdf all ((s.getD m .zero).fields.getD q .zero).number=zak all (q:Int):=by
 unfold zdf zak
 refine List.filter_congr fun x hx=>?_
 obtain⟨-,-,-,h4⟩:=(hall x hx).facts
 by_cases hk:x.k<0
 ·
  rw[decide_eq_false (by omega),decide_eq_false (by omega)]
 ·
  rcases h4 with ⟨h4,-⟩|⟨k,h4,hk2,-⟩
  ·
   omega
  ·
   have hn:=hnum x hx k h4
   by_cases hkq:k=q
   ·
    subst hkq
    rw[decide_eq_true ⟨by omega,hn.symm⟩,decide_eq_true h4]
   ·
    rw[decide_eq_false (p:=x.k=(q:Int)) (by omega),decide_eq_false]
    rintro⟨-,e⟩
    rw[←hn] at e
    rcases Nat.lt_or_gt_of_ne hkq with hlt|hlt
    ·
     exact hN.ne hlt hq e
    ·
     exact hN.ne hlt hk2 e.symm
end
section
open Go.RowKit
section
variable {P:Program} {ops:Array Oper} {Q:Exit→Act→World→Prop} {S:World→Prop} {L:Nat}
def zfP (P:Program)(ops:Array Oper)(Q:Exit→Act→World→Prop)(S:World→Prop)(L:Nat):Nat→Array Bool→Act→World→Prop
 | 0,listed,a,w=>Region.ready .any ops listed=[]∧Q .normal a w
 | fuel+1,listed,a,w =>
  (Region.ready .any ops listed=[]→Q .normal a w) ∧
  ∀ i∈Region.ready .any ops listed,wpOp P ops Q i (fun a' w'=>(i≠L→S w')∧zfP P ops Q S L fuel (listed.setIfInBounds i true) a' w') a w
theorem zkI:∀ (fuel:Nat) (listed:Array Bool) (a:Act) (w:World),zfP P ops Q S L fuel listed a w→wpAny P .any ops Q fuel listed a w
 | 0,_,_,_,h=>h
 | fuel+1,_,_,_,h=>⟨h.1,fun i hi=>wpOp_mono (fun a' w' h'=>zkI fuel _ a' w' h'.2) (h.2 i hi)⟩
theorem zm7 {i:Nat}{oi:Oper}{v:Value}(hi:ops[i]?=some oi)(hsel:∀ (j:Nat) (o:Oper) cs b,ops[j]?=some o→o.op≠ .select cs b)
  (hQ:∀ c a w,Q (.panic c) (a.put oi.dst v) w→Q (.panic c) a w) (hL:Region.waitsFor .any ops L i=true) :
  ∀ (fuel:Nat) (listed:Array Bool) (a:Act) (w:World),
   (∀ j oj,ops[j]?=some oj→j≠i→listed.getD j true=false→(∀ e∈oj.after,Region.binds .any e=true→e.on≠i)→oi.apart ops oj=true) →
   i∈Region.ready .any ops listed→YieldsIf P ops S oi v a→S w →
   zfP P ops Q S L fuel (listed.setIfInBounds i true) (a.put oi.dst v) w→zfP P ops Q S L (fuel+1) listed a w:=by
 obtain⟨oL,hoL,eL,heL,hbL,honL⟩:=Region.waitsFor_spec hL
 have hnL:∀ (listed:Array Bool) (j:Nat),i∈Region.ready .any ops listed→j∈Region.ready .any ops listed→j≠L:=by
  rintro listed j hr hj rfl
  obtain⟨-,o,ho,hall⟩:=mem_ready.1 hj
  rw[hoL] at ho
  cases ho
  have h1:=hall eL heL hbL
  rw[honL] at h1
  have h0:=(mem_ready.1 hr).1
  rw[getD_both h0] at h1
  cases h1
 intro fuel
 induction fuel with
 | zero =>
  intro listed a w _ hr hy hS H
  refine⟨fun h=>(by rw[h] at hr;cases hr),fun j hj=>?_⟩
  by_cases hji:j=i
  ·
   subst hji;exact hy.wpOp hi hS ⟨fun _=>hS,H⟩
  ·
   have:=ready_mono hj hji
   rw[H.1] at this
   cases this
 | succ fuel ih =>
  intro listed a w hfree hr hy hS H
  refine⟨fun h=>(by rw[h] at hr;cases hr),fun j hj=>?_⟩
  by_cases hji:j=i
  ·
   subst hji;exact hy.wpOp hi hS ⟨fun _=>hS,H⟩
  ·
   have hjL:=hnL listed j hr hj
   have h1:=H.2 j (ready_mono hj hji)
   obtain⟨hjun,oj,hoj,hall⟩:=mem_ready.1 hj
   have hnot:∀ e∈oj.after,Region.binds .any e=true→e.on≠i:=fun e he hb heq=>by
    have h1:=hall e he hb
    have h0:=(mem_ready.1 hr).1
    rw[heq,getD_both h0] at h1
    cases h1
   have h2:=wpOp_putIf hoj (hfree j oj hoj hji hjun hnot) (fun cs b=>hsel i oi cs b hi) (fun cs b=>hsel j oj cs b hoj) hQ hy h1
   have hfree':∀ k ok,ops[k]?=some ok→k≠i→(listed.setIfInBounds j true).getD k true=false →
     (∀ e∈ok.after,Region.binds .any e=true→e.on≠i)→oi.apart ops ok=true:=fun k ok hk hki hun hno=>by
    refine hfree k ok hk hki ?_ hno
    by_cases hjk:j=k
    ·
     subst hjk;exact hjun
    ·
     rw[getD_set_ne true hjk] at hun;exact hun
   refine wpOp_mono (fun a' w' h3=>⟨h3.2.1,ih (listed.setIfInBounds j true) a' w' hfree' (ready_mono hr (Ne.symm hji)) h3.1 (h3.2.1 hjL) ?_⟩) h2
   rw[Array.setIfInBounds_comm _ _ hji]
   exact h3.2.2
theorem zn9 {id:Nat}{a:Act}{w:World}(L:Nat)(S:World→Prop)(hm:P.follows .mixedOrders=true)
  (h:zfP P ops Q S L ops.size (Array.replicate ops.size false) a w.drew):(Code.region id ops true).wp P Q a w:=
 wp_region_any hm (zkI _ _ _ _ h)
theorem za6 {i:Nat}{oi:Oper}{v:Value}{fuel:Nat}{listed:Array Bool}{a:Act}{w:World}(hi:ops[i]?=some oi)
  (hs:Region.noSelect ops=true) (hf:Region.free .any ops listed i=true) (hr:(Region.ready .any ops listed).contains i=true) (hL:Region.waitsFor .any ops L i=true)
  (hQ:∀ c a w,Q (.panic c) (a.put oi.dst v) w→Q (.panic c) a w) (hS:S w) (hy:YieldsIf P ops S oi v a)
  (h:zfP P ops Q S L fuel (listed.setIfInBounds i true) (a.put oi.dst v) w):zfP P ops Q S L (fuel+1) listed a w:=
 zm7 hi (Region.noSelect_spec hs) hQ hL fuel listed a w (Region.free_spec hi hf) (by simpa using hr) hy hS h
theorem zhq {i:Nat}{oi:Oper}{fuel:Nat}{listed:Array Bool}{a:Act}{w:World}(hr:Region.ready .any ops listed=[i])(hi:ops[i]?=some oi)(hg:oi.guard=none)
  (h:∀ K':Act→World→Prop,Shut (∀ a w,(i≠L→S w)→zfP P ops Q S L fuel (listed.setIfInBounds i true) a w→K' a w)→Oper.wp P oi a w K' Q):zfP P ops Q S L (fuel+1) listed a w:=by
 refine⟨fun h0=>(by rw[hr] at h0;cases h0),fun j hj=>?_⟩
 rw[hr] at hj
 have hji:j=i:=by simpa using hj
 subst hji
 refine wpOp_step hi fun K' hK=>?_
 rw[if_pos (by simp[Region.wanted,hg])]
 exact h K' fun a w hS hW=>hK a w ⟨hS,hW⟩
theorem zoa {listed:Array Bool}{a:Act}{w:World}(hr:Region.ready .any ops listed=[])(h:Q .normal a w):∀ fuel,zfP P ops Q S L fuel listed a w
 | 0=>⟨hr,h⟩
 | _+1=>⟨fun _=>h,by rw[hr];simp⟩
end
end
section
open Go.RowKit
def zkJ (w:World)(l:List UInt8)(all:List VW)(e:Ending)(w':World):Prop:=
 ∃ r u es,e= .returned (.agg #[.map (some r),u])∧zax w' r zcK es∧(∀ n:Int,zlL w' w.heap.size (atK es n) (zdf all n))∧Own w' w.heap.size u (zgh l all)∧Below w.heap.size w w'
theorem zr0 {w:World}{b b':Nat}{v:Value}{l:List VW}(h:zlL w b v l)(hb:b'≤b):zlL w b' v l:=by
 refine⟨h.1,?_⟩
 rcases h.2 with h2|⟨g,cap,cur,hv,hg,h3⟩
 ·
  exact .inl h2
 ·
  exact .inr ⟨g,cap,cur,hv,by omega,h3⟩
theorem zlM (l:List UInt8):∀ (xs:List VW),(zgh l xs).length≤zbt xs
 | []=>by simp[zgh,zbt]
 | x::r=>by
  have h:=zlM l r
  have hp:(zbx l x.r.start x.r.to).length≤zc9 x:=by unfold zbx zc9;simp;omega
  unfold zgh zbt at *
  rw[List.filter_cons,List.map_cons,List.sum_cons]
  split
  ·
   rw[List.flatMap_cons,List.length_append];omega
  ·
   omega
theorem zr1 (xs:List VW)(k:Nat):zbt (xs.take k)≤zbt xs:=by
 conv=>rhs;rw[←List.take_append_drop k xs,zh1]
 omega
theorem zob {w:World}{bv vf:Value}{l:List UInt8}{fs:List Fld}(hb:zal w bv l)(hl:l.length≤1099511627776)(hf:zaK w vf fs)(nm:ByteArray)(hok:(zbA fs l).2.2=0)(hv:∀ x∈(zbA fs l).1,x.r.start≤x.r.to∧x.r.to≤l.length) :
  Calls Tryz.prog 88 #[.agg #[.string nm,vf],bv] w (zkJ w l (zbA fs l).1):=by
 have HL:=hid hl
 have HV:=hid hv
 have HB:=hid hb
 have HA:=hid (fun (W:World) (hb':Below w.heap.size w W)=>zoF (hb.below hb') hl (hf.below hb') nm)
 obtain⟨-,va,vcap,rfl,-⟩:=hb.open
 obtain⟨-,fa,fc,rfl,-⟩:=hf.open
 obtain⟨all,HALL⟩:∃ all,Hid (all=(zbA fs l).1):=⟨_,rfl⟩
 obtain⟨zc,HZC⟩:∃ z,Hid (z=(zbA fs l).2.1):=⟨_,rfl⟩
 have hvs:=zgy fs l
 obtain⟨ln,HLN⟩:∃ n,Hid (n=l.length):=⟨_,rfl⟩
 obtain⟨fn,HFN⟩:∃ n,Hid (n=fs.length):=⟨_,rfl⟩
 have hal:all.length≤l.length:=by rw[HALL.out];exact zk9 fs l
 rw[←HALL.out] at hvs HV ⊢
 rw[←HLN.out] at HB HL HV HA hal hvs ⊢
 rw[←HFN.out] at HA ⊢
 have HVS:=hid hvs
 have HAL:=hid hal
 obtain⟨X,HX⟩:∃ X,Hid (X=w.heap.size):=⟨_,rfl⟩
 obtain⟨W1,HW1⟩:∃ W,Hid (W=(w.alloc (.cells #[.string nm,.slice fa fn fc] 76)).alloc (.cells #[.map none,.slice none 0 0] 168)):=⟨_,rfl⟩
 obtain⟨W2,HW2⟩:∃ W,Hid (W=W1.alloc (.map #[] 0)):=⟨_,rfl⟩
 obtain⟨W3,HW3⟩:∃ W,Hid (W=W2.alloc (.cells #[.map (some (X+1+1)),.slice none 0 0] 168)):=⟨_,rfl⟩
 have hb1:Below w.heap.size w W1:=by rw[HW1.out];exact ((Below.refl _ _).alloc (Nat.le_refl _) _).alloc (by simp) _
 have hz1:W1.heap.size=X+1+1:=by rw[HW1.out,HX.out];simp
 have hb2:Below W1.heap.size W1 W2:=by rw[HW2.out];exact (Below.refl _ _).alloc (Nat.le_refl _) _
 have hz2:W2.heap.size=X+1+1+1:=by rw[HW2.out,←hz1];simp
 have hb3:Below W2.heap.size W2 W3:=by rw[HW3.out];exact (Below.refl _ _).alloc (Nat.le_refl _) _
 have hz3:W3.heap.size=X+1+1+1+1:=by rw[HW3.out,←hz2];simp
 have hkM:Blk W1 X [.string nm,.slice fa fn fc] 76:=by rw[HW1.out,HX.out];exact (Blk.new w [.string nm,.slice fa fn fc] _).alloc _
 have hm2:zax W2 (X+1+1) zcK []:=by rw[HW2.out,←hz1];exact heap_alloc_new W1 _
 have hkP:Blk W3 (X+1+1+1) [.map (some (X+1+1)),zaA] 168:=by rw[HW3.out,←hz2];exact Blk.new W2 [.map (some (X+1+1)),.slice none 0 0] _
 have hb03:Below w.heap.size w W3:=(hb1.trans (hb2.mono hb1.size)).trans (hb3.mono (Nat.le_trans hb1.size hb2.size))
 have HB03:=hid hb03
 have HM3:Hid (zax W3 (X+1+1) zcK []):=(hb3.block _ (by omega)).trans hm2
 have HP3:=hid hkP
 have HZ3:=hid hz3
 have hkM3:=(hkM.below hb2).below hb3
 have hkT:Blk W1 (X+1) [.map none,zaA] 168:=by
  have e:(w.alloc (.cells #[.string nm,.slice fa fn fc] 76)).heap.size=w.heap.size+1:=by simp
  rw[HW1.out,HX.out,←e]
  exact Blk.new (w.alloc (.cells #[.string nm,.slice fa fn fc] 76)) [.map none,.slice none 0 0] _
 have HT5:=hid ((hkT.below hb2).below hb3)
 have m0:=hkM3.cell 0 _ rfl
 have m1:=hkM3.cell 1 _ rfl
 have lM:=hkM3.lt
 have HA3:=hid (HA.out W3 hb03)
 have hmm:=@run_makeMap Tryz.prog
 obtain⟨Q,HQ⟩:∃ Q:Ending→World→Prop,Hid (Q=zkJ w l all):=⟨_,rfl⟩
 rw[←HQ.out]
 clear hb hl hf hv hb1 hb2 hb3 hkM hkT hm2 hkP hb03 hkM3 HA hvs hal
 go_enter Tryz.func88,Tryz.ntmps88
 go_upto_region 1 with fail
 rw[←HW1.out,←HX.out]
 go_upto_region 2 with fail
 rw[←HW2.out,←HW3.out]
 go_upto_region 3 with (go_at_call 123;refine HA3.out.mono ?_;rintro e W5 ⟨av,ab,rfl,hab,hrows,hb5⟩;rw[←HALL.out] at hrows;rw[←HZC.out,hok];obtain⟨aa,ac,rfl⟩:=hrows.form)
 obtain⟨r,HR⟩:∃ r,Hid (r=X+1+1):=⟨_,rfl⟩
 obtain⟨P,HPP⟩:∃ P,Hid (P=r+1):=⟨_,rfl⟩
 rw[←HR.out] at HM3 HP3 HZ3 ⊢
 rw[←HPP.out] at HP3 HZ3 ⊢
 have hX5:P<W5.heap.size:=by have:=hb5.size;have:=HZ3.out;omega
 have hr5:r<W5.heap.size:=by have:=hb5.size;have:=HZ3.out;have:=HR.out;have:=HPP.out;omega
 have hne:P≠r:=by have:=HR.out;have:=HPP.out;omega
 have HG5:Hid (GI W5 r P l [] [] zaA W5):=GI.start ((hb5.block r (by have:=HZ3.out;have:=HR.out;have:=HPP.out;omega)).trans HM3.out) (HP3.out.below hb5)
 have HNE:=hid (And.intro hr5 (And.intro hX5 hne))
 have hb05:=HB03.out.trans (hb5.mono HB03.out.size)
 obtain⟨an,HAN⟩:∃ n,Hid (n=all.length):=⟨_,rfl⟩
 rw[←HAN.out] at hrows HAL ⊢
 have HROWS:=hid hrows
 have HXS:Hid (w.heap.size=X):=HX.out.symm
 have HFR:Hid (∀ wi,Fr W5 r P wi→Below w.heap.size w wi∧(∀ b u j,ab≤b→b<W5.heap.size→W5.cell? ⟨b,j,none⟩=some u→wi.cell? ⟨b,j,none⟩=some u)∧Blk wi (X+1) [.map none,zaA] 168):=by
  intro wi h
  refine⟨⟨h.os.trans hb05.os,h.tape.trans hb05.tape,h.output.trans hb05.output,Nat.le_trans hb05.size h.size,fun b hb=>?_⟩,fun b u j h1 h2 hc=>?_,?_⟩
  ·
   have:=HX.out;have:=HR.out;have:=HPP.out
   exact (h.block b (by have:=hb05.size;omega) (by omega) (by omega)).trans (hb05.block b hb)
  ·
   rw[World.cell?_of_block (h.block b h2 (by have:=HZ3.out;have:=HR.out;have:=HPP.out;omega) (by have:=HZ3.out;omega))]
   exact hc
  ·
   exact (h.block (X+1) (by have:=hb5.size;have:=HZ3.out;have:=HR.out;have:=HPP.out;omega) (by have:=HR.out;omega) (by have:=HR.out;have:=HPP.out;omega)).trans (HT5.out.below hb5)
 have hanb:an≤1099511627776:=by have:=HL.out;have:=HAL.out;omega
 have HANB:=hid hanb
 clear hrows hb5 hb05 hX5 hr5 hne m0 m1 lM hmm HA3 HM3 HP3
 go_wp2_with fail
 go_loopw [22] (fun v22 wr=>∃ (k:Nat) (es:List (Int × Value)) (ua:Option Addr) (un uc:Nat),v22= .int .i64 (k:Int)∧k≤an∧Hid (GI W5 r P l (all.take k) es (.slice ua un uc) wr)) (fun v22 _=>an - (intOf v22).toNat)
 case atStart=>exact⟨0,[],none,0,0,rfl,by omega,HG5.out⟩
 case round =>
  obtain⟨k,es,ua,un,uc,rfl,hk,HI⟩:=hrel
  obtain⟨hbw,hcv,hbt⟩:=HFR.out wr HI.out.fr
  have HBW:=hid hbw
  by_cases hlt:k<an
  ·
   obtain⟨x,hx⟩:∃ x,all[k]?=some x:=⟨_,List.getElem?_eq_getElem (by rw[←HAN.out];exact hlt)⟩
   obtain⟨vb,vo,haa,hvb1,hvb2,hvc⟩:=zhv HROWS.out (by rw[←HAN.out];have:=HANB.out;omega) k x hx
   subst haa
   have n0:=hcv vb _ (vo+k*7+0) hvb1 hvb2 (hvc 0 _ rfl)
   have n1:=hcv vb _ (vo+k*7+1) hvb1 hvb2 (hvc 1 _ rfl)
   have n2:=hcv vb _ (vo+k*7+2) hvb1 hvb2 (hvc 2 _ rfl)
   have n3:=hcv vb _ (vo+k*7+3) hvb1 hvb2 (hvc 3 _ rfl)
   have n4:=hcv vb _ (vo+k*7+4) hvb1 hvb2 (hvc 4 _ rfl)
   have n5:=hcv vb _ (vo+k*7+5) hvb1 hvb2 (hvc 5 _ rfl)
   have n6:=hcv vb _ (vo+k*7+6) hvb1 hvb2 (hvc 6 _ rfl)
   rw[Nat.add_zero] at n0
   have HTK:Hid (all.take (k+1)=all.take k++[x]):=by rw[Hid,List.take_add_one,hx];rfl
   obtain⟨hx1,hx2⟩:=HV.out x (List.mem_of_getElem? hx)
   have HUL:Hid ((zgh l (all.take k)).length≤ln∧(all.take k).length≤ln):=by
    have h1:=zlM l (all.take k)
    have h2:=zr1 all k
    have:=HVS.out
    have:=HAL.out
    have:=HAN.out
    exact⟨by omega,by rw[List.length_take];omega⟩
   obtain⟨⟨x1,x2,x3,x4,x5⟩,xk,xrun⟩:=x
   simp only at n0 n1 n2 n3 n4 n5 n6 hx1 hx2
   obtain⟨W6,HW6⟩:∃ W6,Hid (W6=wr.alloc (.cells #[.int .i64 x1,.int .i64 x2,.int .i64 x3,.int .i64 x4,.int .i64 x5,.int .i64 xk,.bool xrun] 212)):=⟨_,rfl⟩
   obtain⟨VB,HVB⟩:∃ VB,Hid (VB=wr.heap.size):=⟨_,rfl⟩
   have hb6:Below wr.heap.size wr W6:=by rw[HW6.out];exact (Below.refl _ _).alloc (Nat.le_refl _) _
   have hv6:Blk W6 VB [.int .i64 x1,.int .i64 x2,.int .i64 x3,.int .i64 x4,.int .i64 x5,.int .i64 xk,.bool xrun] 212:=by rw[HW6.out,HVB.out];exact Blk.new wr [.int .i64 x1,.int .i64 x2,.int .i64 x3,.int .i64 x4,.int .i64 x5,.int .i64 xk,.bool xrun] _
   have HG6:Hid (GI W5 r P l (all.take k) es (.slice ua un uc) W6.drew):=(HI.out.below HNE.out.1 hb6).below HNE.out.1 (Below.refl _ _).drew
   have HV6:=hid hv6
   have HB6:Hid (Below w.heap.size w W6):=hbw.trans (hb6.mono hbw.size)
   have c5:=hv6.cell 5 _ rfl
   have HOB:Hid (∀ (n:Int) (b:Nat),(atK es n).ownBlock=some b→b<wr.heap.size):=fun n b e=>((HI.out.st.own n).own b e).2
   clear hvc hx hcv hbw hb6 hv6 HI hbt
   go_upto_region 6 with fail
   rw[←HW6.out,←HVB.out]
   clear n0 n1 n2 n3 n4 n5 n6
   by_cases hxk:xk<0
   ·
    obtain⟨pa,pc,hcut,-,hby⟩:=(HB.out.below HB6.out.drew).cut HLN.out x3 x5 hx1 (by have:=HLN.out;omega)
    obtain⟨a5,n5,c5',w7,hr7,hb7,hg7⟩:=HG6.out.unkPush HNE.out.1 HNE.out.2.1 HNE.out.2.2 (x:=⟨⟨x1,x2,x3,x4,x5⟩,xk,xrun⟩) hxk hby rfl (by have:=HUL.out.1;have:=HL.out;rw[List.length_take];omega)
    have HR7:=hid hr7
    have HG7:=hid hg7
    have HST:Hid (GI W5 r P l (all.take (k+1)) es (.slice a5 n5 c5') (w7.setCell ⟨P,1,none⟩ (.slice a5 n5 c5'))):=by rw[Hid,HTK.out];exact hg7
    have e1:W6.drew.cell? ⟨P,1,none⟩=some (.slice ua un uc):=HG6.out.box.cell 1 _ rfl
    have k2:W6.drew.cell? ⟨VB,2,none⟩=some (.int .i64 x3):=HV6.out.cell 2 _ rfl
    have k4:W6.drew.cell? ⟨VB,4,none⟩=some (.int .i64 x5):=HV6.out.cell 4 _ rfl
    have e7:=hb7.cell 1 _ rfl
    have z7:=hb7.free 1
    have l7:=hb7.lt
    clear hby hb7 hg7 hr7 hx1 hx2
    go_wp2_with fail
    go_region_law (refine za9 rfl (.tmp 30) (.tmp 38) _ rfl _ _ rfl rfl HR7.out ?_)
    all_goals
     go_wp2_with fail
     exact⟨⟨k+1,es,a5,n5,c5',by go_num,by omega,HST.out⟩,by simp[intOf];omega⟩
   ·
    obtain⟨a5,n5,c5',w7,hr7,hk7,w8,hr8,es',hg8⟩:=HG6.out.viewPush HNE.out.1 HNE.out.2.1 HNE.out.2.2 (x:=⟨⟨x1,x2,x3,x4,x5⟩,xk,xrun⟩) (show 0≤xk by omega) (n:=(x1:Int)) rfl (by have:=HUL.out.2;have:=HL.out;omega)
    have HST:Hid (GI W5 r P l (all.take (k+1)) es' (.slice ua un uc) w8):=by rw[Hid,HTK.out];exact hg8
    have hlk:=zfi HG6.out.st.map (x1:Int)
    obtain⟨ka,kn,kc,hform⟩:∃ ka kn kc,atK es (x1:Int)= .slice ka kn kc:=by
     obtain⟨a,c,e⟩:=(HG6.out.st.own (x1:Int)).form
     exact⟨a,_,c,e⟩
    have hown:∀ b,(Value.slice ka kn kc).ownBlock=some b→W5.heap.size≤b∧b<wr.heap.size:=fun b e=>by rw[←hform] at e;exact⟨((HG6.out.st.own (x1:Int)).own b e).1,(HOB.out (x1:Int) b e)⟩
    rw[hform] at hlk hr7 hk7
    have HR7:Hid ((Builtin.append_ #[170,170] 170 #[.slice ka kn kc,.slice (some ⟨W6.drew.heap.size,0,none⟩) 1 1]).run Tryz.prog (W6.drew.alloc (.cells #[.int .i64 x1,.int .i64 x2,.int .i64 x3,.int .i64 x4,.int .i64 x5,.int .i64 xk,.bool xrun] 212))= .ok (.slice a5 n5 c5') w7):=hr7
    have e0:W6.drew.cell? ⟨P,0,none⟩=some (.map (some r)):=HG6.out.box.cell 0 _ rfl
    have k0:W6.drew.cell? ⟨VB,0,none⟩=some (.int .i64 x1):=HV6.out.cell 0 _ rfl
    have k1:W6.drew.cell? ⟨VB,1,none⟩=some (.int .i64 x2):=HV6.out.cell 1 _ rfl
    have k2:W6.drew.cell? ⟨VB,2,none⟩=some (.int .i64 x3):=HV6.out.cell 2 _ rfl
    have k3:W6.drew.cell? ⟨VB,3,none⟩=some (.int .i64 x4):=HV6.out.cell 3 _ rfl
    have k4:W6.drew.cell? ⟨VB,4,none⟩=some (.int .i64 x5):=HV6.out.cell 4 _ rfl
    have k5:W6.drew.cell? ⟨VB,5,none⟩=some (.int .i64 xk):=HV6.out.cell 5 _ rfl
    have k6:W6.drew.cell? ⟨VB,6,none⟩=some (.bool xrun):=HV6.out.cell 6 _ rfl
    obtain⟨SS,HSS⟩:∃ SS:World→Prop,Hid (SS=fun V=>(V.cell? ⟨P,0,none⟩=some (.map (some r))∧V.cell? ⟨VB,0,none⟩=some (.int .i64 x1)∧V.cell? ⟨VB,1,none⟩=some (.int .i64 x2)∧V.cell? ⟨VB,2,none⟩=some (.int .i64 x3)∧V.cell? ⟨VB,3,none⟩=some (.int .i64 x4)∧V.cell? ⟨VB,4,none⟩=some (.int .i64 x5)∧V.cell? ⟨VB,5,none⟩=some (.int .i64 xk)∧V.cell? ⟨VB,6,none⟩=some (.bool xrun))∧zax V r zcK es):=⟨_,rfl⟩
    have HKF:Hid (∀ V,SS V→V.cell? ⟨P,0,none⟩=some (.map (some r))∧V.cell? ⟨VB,0,none⟩=some (.int .i64 x1)∧V.cell? ⟨VB,1,none⟩=some (.int .i64 x2)∧V.cell? ⟨VB,2,none⟩=some (.int .i64 x3)∧V.cell? ⟨VB,3,none⟩=some (.int .i64 x4)∧V.cell? ⟨VB,4,none⟩=some (.int .i64 x5)∧V.cell? ⟨VB,5,none⟩=some (.int .i64 xk)∧V.cell? ⟨VB,6,none⟩=some (.bool xrun)):=fun V hV=>by rw[HSS.out] at hV;exact hV.1
    have HLK:Hid (∀ V,SS V→(Instr.lookup 166 (.map (some r)) (.int .i64 (x1:Int)) false).run Tryz.prog V= .ok (.slice ka kn kc) V):=fun V hV=>by rw[HSS.out] at hV;rw[zfi hV.2,hform]
    have HS0:Hid (SS W6.drew):=by rw[HSS.out];exact⟨⟨e0,k0,k1,k2,k3,k4,k5,k6⟩,HG6.out.st.map⟩
    have HSK:Hid (∀ V,(∀ b,b<W6.drew.heap.size→(Value.slice ka kn kc).ownBlock≠some b→V.heap[b]?=W6.drew.heap[b]?)→SS V):=fun V hV=>by
     have hc:∀ b j u,(Value.slice ka kn kc).ownBlock≠some b→W6.drew.cell? ⟨b,j,none⟩=some u→V.cell? ⟨b,j,none⟩=some u:=fun b j u hb hu=>(World.cell?_of_block (hV b (World.block_lt_of_cell? _ _ hu) hb)).trans hu
     have hP:(Value.slice ka kn kc).ownBlock≠some P:=fun e=>by have:=(hown P e).1;have:=HNE.out.2.1;omega
     have hVn:(Value.slice ka kn kc).ownBlock≠some VB:=fun e=>by have:=(hown VB e).2;have:=HVB.out;omega
     rw[HSS.out]
     exact⟨⟨hc _ _ _ hP e0,hc _ _ _ hVn k0,hc _ _ _ hVn k1,hc _ _ _ hVn k2,hc _ _ _ hVn k3,hc _ _ _ hVn k4,hc _ _ _ hVn k5,hc _ _ _ hVn k6⟩,(hV r (by have:=HG6.out.fr.size;have:=HNE.out.1;omega) (fun e=>by have:=(hown r e).1;have:=HNE.out.1;omega)).trans HG6.out.st.map⟩
    have hs0:=HS0.out
    have hs1:SS (W6.drew.alloc (.cells #[.int .i64 x1,.int .i64 x2,.int .i64 x3,.int .i64 x4,.int .i64 x5,.int .i64 xk,.bool xrun] 212)):=HSK.out _ fun b hb _=>Below.heap_alloc _ _ b hb
    have hs2:SS w7:=HSK.out _ hk7
    clear hg8 hr7 hx1 hx2 hform hk7 hown e0 k0 k1 k2 k3 k4 k5 k6 hlk
    go_upto_region 8 with fail
    clear c5
    refine zn9 14 SS (by kernel_rfl) ?_
    refine za6 (i:=0) (oi:=⟨some 41,_,_,_,_,_⟩) (v:=?_) rfl (by kernel_rfl) (by kernel_rfl) (by kernel_rfl) (by kernel_rfl) (fun _ _ _ h=>h) hs0 (Or.inl ⟨by rfl,?_⟩) ?_
    rotate_left
    ·
     (intro V hV;obtain⟨k0,k1,k2,k3,k4,k5,k6,k7⟩:=HKF.out V hV;go_simp;(try with_reducible rfl))
    simp only[Act.put,pzC,pzD,pzE]
    refine za6 (i:=1) (oi:=⟨some 42,_,_,_,_,_⟩) (v:=?_) rfl (by kernel_rfl) (by kernel_rfl) (by kernel_rfl) (by kernel_rfl) (fun _ _ _ h=>h) hs0 (Or.inl ⟨by rfl,?_⟩) ?_
    rotate_left
    ·
     (intro V hV;obtain⟨k0,k1,k2,k3,k4,k5,k6,k7⟩:=HKF.out V hV;go_simp;(try with_reducible rfl))
    simp only[Act.put,pzC,pzD,pzE]
    refine za6 (i:=2) (oi:=⟨some 43,_,_,_,_,_⟩) (v:=?_) rfl (by kernel_rfl) (by kernel_rfl) (by kernel_rfl) (by kernel_rfl) (fun _ _ _ h=>h) hs0 (Or.inl ⟨by rfl,?_⟩) ?_
    rotate_left
    ·
     (intro V hV;obtain⟨k0,k1,k2,k3,k4,k5,k6,k7⟩:=HKF.out V hV;go_simp;(try with_reducible rfl))
    simp only[Act.put,pzC,pzD,pzE]
    refine za6 (i:=3) (oi:=⟨some 44,_,_,_,_,_⟩) (v:=?_) rfl (by kernel_rfl) (by kernel_rfl) (by kernel_rfl) (by kernel_rfl) (fun _ _ _ h=>h) hs0 (Or.inl ⟨by rfl,?_⟩) ?_
    rotate_left
    ·
     (intro V hV;obtain⟨k0,k1,k2,k3,k4,k5,k6,k7⟩:=HKF.out V hV;go_simp;(try with_reducible rfl))
    simp only[Act.put,pzC,pzD,pzE]
    refine za6 (i:=4) (oi:=⟨some 45,_,_,_,_,_⟩) (v:=?_) rfl (by kernel_rfl) (by kernel_rfl) (by kernel_rfl) (by kernel_rfl) (fun _ _ _ h=>h) hs0 (Or.inl ⟨by rfl,?_⟩) ?_
    rotate_left
    ·
     (intro V hV;obtain⟨k0,k1,k2,k3,k4,k5,k6,k7⟩:=HKF.out V hV;go_simp;(try with_reducible rfl))
    simp only[Act.put,pzC,pzD,pzE]
    refine za6 (i:=5) (oi:=⟨some 46,_,_,_,_,_⟩) (v:=?_) rfl (by kernel_rfl) (by kernel_rfl) (by kernel_rfl) (by kernel_rfl) (fun _ _ _ h=>h) hs0 (Or.inl ⟨by rfl,?_⟩) ?_
    rotate_left
    ·
     (intro V hV;obtain⟨k0,k1,k2,k3,k4,k5,k6,k7⟩:=HKF.out V hV;go_simp;(try with_reducible rfl))
    simp only[Act.put,pzC,pzD,pzE]
    refine za6 (i:=6) (oi:=⟨some 47,_,_,_,_,_⟩) (v:=?_) rfl (by kernel_rfl) (by kernel_rfl) (by kernel_rfl) (by kernel_rfl) (fun _ _ _ h=>h) hs0 (Or.inl ⟨by rfl,?_⟩) ?_
    rotate_left
    ·
     (intro V hV;obtain⟨k0,k1,k2,k3,k4,k5,k6,k7⟩:=HKF.out V hV;go_simp;(try with_reducible rfl))
    simp only[Act.put,pzC,pzD,pzE]
    refine za6 (i:=7) (oi:=⟨some 48,_,_,_,_,_⟩) (v:=?_) rfl (by kernel_rfl) (by kernel_rfl) (by kernel_rfl) (by kernel_rfl) (fun _ _ _ h=>h) hs0 (Or.inl ⟨by rfl,?_⟩) ?_
    rotate_left
    ·
     (intro V hV;obtain⟨k0,k1,k2,k3,k4,k5,k6,k7⟩:=HKF.out V hV;go_simp;(try with_reducible rfl))
    simp only[Act.put,pzC,pzD,pzE]
    refine za6 (i:=8) (oi:=⟨some 49,_,_,_,_,_⟩) (v:=?_) rfl (by kernel_rfl) (by kernel_rfl) (by kernel_rfl) (by kernel_rfl) (fun _ _ _ h=>h) hs0 (Or.inl ⟨by rfl,?_⟩) ?_
    rotate_left
    ·
     (intro V hV;obtain⟨k0,k1,k2,k3,k4,k5,k6,k7⟩:=HKF.out V hV;go_simp;(try with_reducible rfl))
    simp only[Act.put,pzC,pzD,pzE]
    refine za6 (i:=9) (oi:=⟨some 50,_,_,_,_,_⟩) (v:=?_) rfl (by kernel_rfl) (by kernel_rfl) (by kernel_rfl) (by kernel_rfl) (fun _ _ _ h=>h) hs0 (Or.inl ⟨by rfl,?_⟩) ?_
    rotate_left
    ·
     (intro V hV;obtain⟨k0,k1,k2,k3,k4,k5,k6,k7⟩:=HKF.out V hV;go_simp;(try with_reducible rfl))
    simp only[Act.put,pzC,pzD,pzE]
    refine za6 (i:=10) (oi:=⟨some 51,_,_,_,_,_⟩) (v:=?_) rfl (by kernel_rfl) (by kernel_rfl) (by kernel_rfl) (by kernel_rfl) (fun _ _ _ h=>h) hs0 (Or.inl ⟨by rfl,?_⟩) ?_
    rotate_left
    ·
     (intro V hV;have hl:=HLK.out V hV;go_simp;(try with_reducible rfl))
    simp only[Act.put,pzC,pzD,pzE]
    refine za6 (i:=11) (oi:=⟨some 52,_,_,_,_,_⟩) (v:=?_) rfl (by kernel_rfl) (by kernel_rfl) (by kernel_rfl) (by kernel_rfl) (fun _ _ _ h=>h) hs0 (Or.inl ⟨by rfl,?_⟩) ?_
    rotate_left
    ·
     (intro V hV;obtain⟨k0,k1,k2,k3,k4,k5,k6,k7⟩:=HKF.out V hV;go_simp;(try with_reducible rfl))
    simp only[Act.put,pzC,pzD,pzE]
    refine zhq (i:=12) (oi:=⟨some 53,_,_,_,_,_⟩) (by kernel_rfl) rfl rfl fun K12 hK12=>?_
    go_simp
    refine hK12.out _ _ (fun _=>hs1) ?_
    try simp only[Act.put,pzC,pzD,pzE]
    refine zhq (i:=13) (oi:=⟨some 54,_,_,_,_,_⟩) (by kernel_rfl) rfl rfl fun K13 hK13=>?_
    refine ze1 (.tmp 51) (.tmp 53) _ rfl _ _ rfl rfl HR7.out ?_
    refine hK13.out _ _ (fun _=>hs2) ?_
    try simp only[Act.put,pzC,pzD,pzE]
    refine zhq (i:=14) (oi:=⟨none,_,_,_,_,_⟩) (by kernel_rfl) rfl rfl fun K14 hK14=>?_
    go_simp
    refine hK14.out _ _ (fun h=>absurd rfl h) ?_
    try simp only[Act.put,pzC,pzD,pzE]
    refine zoa (by kernel_rfl) ?_ _
    go_wp2_with fail
    exact⟨⟨k+1,es',ua,un,uc,by go_num,by omega,HST.out⟩,by simp[intOf];omega⟩
  ·
   obtain rfl:k=an:=by omega
   have hT:all.take k=all:=by rw[HAN.out,List.take_length]
   have hG:=HI.out
   rw[hT] at hG
   have g0:=hG.box.cell 0 _ rfl
   have g1:=hG.box.cell 1 _ rfl
   have gl:=hG.box.lt
   have t0:=hbt.cell 0 _ rfl
   have t1:=hbt.cell 1 _ rfl
   have tl:=hbt.lt
   have f0:=hbt.free 0
   have f1:=hbt.free 1
   have s1:=hbt.set 0 (.map (some r))
   have t3:=s1.cell 1 _ rfl
   have f3:=s1.free 1
   have s2:=s1.set 1 (.slice ua un uc)
   have t4:=s2.cell 0 _ rfl
   have t5:=s2.cell 1 _ rfl
   have t6:=s2.lt
   have HG:=hid hG
   have HTB:=hid hbt
   clear hG hcv hbw hbt s1 s2
   go_wp2_with fail
   obtain⟨WF,HWF⟩:∃ W,Hid (W=(wr.setCell ⟨X+1,0,none⟩ (.map (some r))).setCell ⟨X+1,1,none⟩ (.slice ua un uc)):=⟨_,rfl⟩
   have hkk:∀ b,b≠X+1→WF.heap[b]?=wr.heap[b]?:=fun b hb=>by
    rw[HWF.out,Below.heap_setCell _ _ _ b (by show b≠X+1;exact hb),Below.heap_setCell _ _ _ b (by show b≠X+1;exact hb)]
   have hss:wr.heap.size≤WF.heap.size:=by rw[HWF.out];simp
   have hGo:=HG.out
   have hXr:X+1<W5.heap.size∧X+1≠r∧w.heap.size≤W5.heap.size∧w.heap.size≤X+1:=by have:=HR.out;have:=HPP.out;have:=HNE.out;have:=HX.out;omega
   refine bodyPost_ret (v:=.agg #[.map (some r),.slice ua un uc]) ?_ rfl ?_
   ·
    simp[results,Tryz.results88,go_sem,t4,t5]
   ·
    rw[←HWF.out,HQ.out]
    refine⟨r,_,es,rfl,(hkk r (by omega)).trans hGo.st.map,fun n=>?_,?_,?_⟩
    ·
     have h1:zlL WF W5.heap.size (atK es n) (zdf all n):=zgP (hGo.st.own n) fun b e=>hkk b (by have:=((hGo.st.own n).own b e).1;omega)
     exact zr0 h1 hXr.2.2.1
    ·
     have h1:Own WF W5.heap.size (.slice ua un uc) (zgh l all):=zjo hGo.un fun b e=>hkk b (by have:=(hGo.un.own b e).1;omega)
     exact h1.mono hXr.2.2.1
    ·
     have g1:=HBW.out.grown (zbb wr ⟨X+1,0,none⟩ (.map (some r))) HBW.out.size (fun q e=>by have h2:X+1=q:=Option.some.inj e;omega)
     have g2:=g1.grown (zbb (wr.setCell ⟨X+1,0,none⟩ (.map (some r))) ⟨X+1,1,none⟩ (.slice ua un uc)) g1.size (fun q e=>by have h2:X+1=q:=Option.some.inj e;omega)
     rw[HWF.out];exact g2
end
section
open Go.RowKit
theorem zsV {s:List Mes}{d m:Nat}{l:List UInt8}{x:VW}(hx:zea s d m l x){k:Nat}(hk:x.k=k):((s.getD m .zero).fields.getD k .zero).number=(x.r.number:Int):=by
 obtain⟨j,hj⟩:=hx.look
 rcases zbC (s.getD m .zero).fields l j with ⟨c,hc',e,-⟩|⟨r',h1,h2,h3,h4,h5,e|⟨k',run,hk',e,h6,-⟩⟩
 ·
  rw[e] at hj
  exact absurd (congrArg (fun t=>t.2.2.2) hj) (by simpa using hc')
 ·
  rw[e] at hj
  have e2:(-1:Int)=x.k:=congrArg (fun t=>t.2.1) hj
  omega
 ·
  rw[e] at hj
  have e1:r'=x.r:=congrArg (fun t=>t.1) hj
  have e2:(k':Int)=x.k:=congrArg (fun t=>t.2.1) hj
  have:k'=k:=by omega
  subst this
  rw[←e1];exact h6
end
end Go.Proofs.YtpckoeicbjfnhaaGreatDoor
