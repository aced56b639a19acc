/- Parts of a proof: texts of the author, merged. No condition of their own. -/
import Derived.Test.YtdpnmdkbdibkpaaGreatDoorZ11
import Derived.Test.YtdpnmdkbdibkpaaGreatDoorZ12
import Derived.Test.YtdpnmdkbdibkpaaGreatDoorZ16
namespace Go.Proofs.YtdpnmdkbdibkpaaGreatDoor
set_option maxRecDepth 100000
set_option maxHeartbeats 16000000
section
open Go.RowKit
variable {P:Program} {ops:Array Oper} {md:Region.Mode} {Q:Exit→Act→World→Prop}
structure FlI where
 k:Nat
 d:Nat
 ds:List Nat
def zfU (pl:List FlI)(vals:Nat→Value)(a:Act):Act:=pl.foldl (fun a p=>a.put (some p.d) (vals p.k)) a
def setI (pl:List FlI)(base:Array Bool):Array Bool:=pl.foldl (fun L p=>L.setIfInBounds p.k true) base
def zj1:List Nat→Bool
 | []=>true
 | x::r=> !r.contains x&&zj1 r
theorem zdP:∀ {l:List Nat},zj1 l=true→l.Nodup
 | [],_=>List.nodup_nil
 | x::r,h=>by
  unfold zj1 at h
  rw[Bool.and_eq_true] at h
  rw[List.nodup_cons]
  refine⟨fun hm=>?_,zdP h.2⟩
  have:=h.1
  rw[List.contains_iff_mem.2 hm] at this
  cases this
def zo4 (md:Region.Mode)(ops:Array Oper)(g:Nat)(pl:List FlI)(base:Array Bool):Bool:=
 zj1 (pl.map (·.k))&&zj1 (pl.map (·.d))&&(pl.all fun p=>(base[p.k]? == some false) && !(p.k == g)&&(((ops[p.k]?).map fun o=>decide (o.dst=some p.d)).getD false)&&(p.ds.all fun j=>(pl.map (·.k)).contains j&&zfT md ops 60 j p.k) &&
  (((ops[p.k]?).map fun o=>o.after.toList.all fun e=> !Region.binds md e||base.getD e.on false||((pl.map (·.k)).contains e.on&&decide (e.on<p.k))).getD false)) &&
 ((List.range ops.size).all fun k=> !(base[k]? == some false)||(pl.map (·.k)).contains k||(pl.all fun p=>zfT md ops 60 p.k k))&&decide (base.size=ops.size)
theorem zo5 (pl:List FlI)(vals:Nat→Value)(a:Act)(d:Nat)(v:Value)(h:∀ p∈pl,p.d≠d):zfU pl vals (a.put (some d) v)=(zfU pl vals a).put (some d) v:=by
 induction pl generalizing a with
 | nil=>rfl
 | cons p r ih =>
  show zfU r vals ((a.put (some d) v).put (some p.d) (vals p.k))=(zfU r vals (a.put (some p.d) (vals p.k))).put (some d) v
  rw[zfe a (fun e=>h p (by simp) e.symm),ih _ fun q hq=>h q (by simp[hq])]
theorem zo6 (pl:List FlI)(vals:Nat→Value)(a:Act)(hk:(pl.map (·.k)).Nodup)(hd:(pl.map (·.d)).Nodup){p:FlI}(hp:p∈pl)(v:Value):(zfU pl vals a).put (some p.d) v=zfU pl (fun i=>if i=p.k then v else vals i) a:=by
 induction pl generalizing a with
 | nil=>cases hp
 | cons q r ih =>
  rw[List.map_cons,List.nodup_cons] at hk hd
  show (zfU r vals (a.put (some q.d) (vals q.k))).put (some p.d) v=zfU r (fun i=>if i=p.k then v else vals i) (a.put (some q.d) (if q.k=p.k then v else vals q.k))
  rcases List.mem_cons.1 hp with rfl|hp
  ·
   rw[if_pos rfl]
   have hne:∀ x∈r,x.d≠p.d:=fun x hx e=>hd.1 (List.mem_map.2 ⟨x,hx,e⟩)
   have hkk:∀ x∈r,x.k≠p.k:=fun x hx e=>hk.1 (List.mem_map.2 ⟨x,hx,e⟩)
   rw[←zo5 r vals _ _ _ hne,ziM]
   have:∀ (l:List FlI) (b:Act),(∀ x∈l,x.k≠p.k)→zfU l vals b=zfU l (fun i=>if i=p.k then v else vals i) b:=by
    intro l
    induction l with
    | nil=>intro b _;rfl
    | cons x t iht =>
     intro b hb
     show zfU t vals (b.put (some x.d) (vals x.k))=zfU t (fun i=>if i=p.k then v else vals i) (b.put (some x.d) (if x.k=p.k then v else vals x.k))
     rw[if_neg (hb x (by simp))]
     exact iht _ fun y hy=>hb y (by simp[hy])
   exact this r _ hkk
  ·
   rw[if_neg (fun e=>hk.1 (List.mem_map.2 ⟨p,hp,e.symm⟩))]
   exact ih _ hk.2 hd.2 hp
theorem zo7 (pl:List FlI)(base:Array Bool)(i:Nat):(setI pl base)[i]?=if i∈pl.map (·.k) then (base[i]?).map (fun _=>true) else base[i]?:=by
 induction pl generalizing base with
 | nil=>simp[setI]
 | cons p r ih =>
  show (setI r (base.setIfInBounds p.k true))[i]?=_
  rw[ih,List.map_cons]
  by_cases h2:p.k=i
  ·
   subst h2
   rw[if_pos (List.mem_cons.2 (.inl rfl)),Array.getElem?_setIfInBounds,if_pos rfl]
   by_cases h3:p.k<base.size
   ·
    rw[if_pos h3,Array.getElem?_eq_getElem h3];split <;> rfl
   ·
    rw[if_neg h3,Array.getElem?_eq_none (by omega)];split <;> rfl
  ·
   rw[Array.getElem?_setIfInBounds,if_neg h2]
   by_cases h1:i∈r.map (·.k)
   ·
    rw[if_pos h1,if_pos (List.mem_cons.2 (.inr h1))]
   ·
    rw[if_neg h1,if_neg (fun h=>(List.mem_cons.1 h).elim (fun e=>h2 e.symm) h1)]
theorem zhb {V X:World→Prop}{g:Nat}:∀ (fuel:Nat) (listed:Array Bool) (a:Act) (w:World),zba P md ops Q V X g fuel listed a w→zba P md ops Q V X g (fuel+1) listed a w
 | 0,_,_,_,h=>⟨fun _=>h.2,fun i hi=>by rw[h.1] at hi;cases hi⟩
 | fuel+1,_,_,_,h=>⟨h.1,fun i hi=>wpOp_mono (fun a' w' h'=>⟨h'.1,zhb fuel _ a' w' h'.2⟩) (h.2 i hi)⟩
theorem zhc {V X:World→Prop}{g fuel:Nat}{listed:Array Bool}{a:Act}{w:World}(h:zba P md ops Q V X g fuel listed a w):∀ n,zba P md ops Q V X g (n+fuel) listed a w
 | 0=>by rw[Nat.zero_add];exact h
 | n+1=>by rw[Nat.add_right_comm];exact zhb _ _ _ _ (zhc h n)
theorem zfV {α:Type}{p q:α→Bool}:∀ {l:List α},(∀ x∈l,q x=true→p x=true)→(∃ x∈l,p x=true∧q x=false)→(l.filter q).length<(l.filter p).length
 | [],_,h=>by obtain⟨x,hx,-⟩:=h;cases hx
 | x::r,h1,h2=>by
  have hle:∀ l:List α,(∀ x∈l,q x=true→p x=true)→(l.filter q).length≤(l.filter p).length:=by
   intro l
   induction l with
   | nil=>intro _;simp
   | cons y t ih =>
    intro h
    have:=ih fun z hz=>h z (by simp[hz])
    have hy:=h y (by simp)
    rw[List.filter_cons,List.filter_cons]
    cases hq:q y
    ·
     cases hp:p y <;> simp <;> omega
    ·
     rw[hy hq];simp;omega
  have hr:=hle r fun z hz=>h1 z (by simp[hz])
  have hx:=h1 x (by simp)
  rw[List.filter_cons,List.filter_cons]
  obtain⟨y,hy,hp,hq⟩:=h2
  rcases List.mem_cons.1 hy with rfl|hy
  ·
   rw[hp,hq];simp;omega
  ·
   have ih:=zfV (fun z hz=>h1 z (by simp[hz])) ⟨y,hy,hp,hq⟩
   cases hqx:q x
   ·
    cases hpx:p x <;> simp <;> omega
   ·
    rw[hx hqx];simp;omega
def ObI (P:Program)(ops:Array Oper)(V:World→Prop)(I:Nat→World→Value→Prop)(all:List FlI)(a0:Act)(p:FlI)(o:Oper):Prop:=
 ∀ (vals:Nat→Value) (w:World),V w→(∀ j∈p.ds,I j w (vals j))→∀ K:Exit→Act→World→Prop,Hid (∀ v w',V w'→Below w.heap.size w w'→I p.k w' v→K .normal ((zfU all vals a0).put (some p.d) v) w')→wpList P ops K [o] (zfU all vals a0) w
theorem zkP {L:Array Bool}{i:Nat}(h:L.getD i false=true):L[i]?=some true:=by
 rw[Array.getD_eq_getD_getElem?] at h
 cases hx:L[i]? with
 | none=>rw[hx] at h;cases h
 | some b=>rw[hx] at h;simp at h;rw[h]
theorem leastF {l:List FlI}{p:FlI→Prop}(h:∃ x∈l,p x):∃ x∈l,p x∧∀ y∈l,p y→x.k≤y.k:=by
 have key:∀ n,∀ x∈l,p x→x.k≤n→∃ x∈l,p x∧∀ y∈l,p y→x.k≤y.k:=by
  intro n
  induction n with
  | zero=>intro x hx hp h0;exact⟨x,hx,hp,fun y _ _=>by omega⟩
  | succ n ih =>
   intro x hx hp hn
   by_cases he:∃ y∈l,p y∧y.k≤n
   ·
    obtain⟨y,hy,hpy,hyn⟩:=he
    exact ih y hy hpy hyn
   ·
    refine⟨x,hx,hp,fun y hy hpy=>?_⟩
    rcases Nat.lt_or_ge n y.k with h|h
    ·
     omega
    ·
     exact absurd ⟨y,hy,hpy,h⟩ he
 obtain⟨x,hx,hp⟩:=h
 exact key x.k x hx hp (Nat.le_refl _)
theorem zmm (hsel:Region.noSelect ops=true)(hQ:∀ c (a:Act) dst v w,Q (.panic c) (a.put dst v) w→Q (.panic c) a w){g:Nat}{V:World→Prop}(I:Nat→World→Value→Prop)
  (hI:∀ i w w' v,I i w v→Below w.heap.size w w'→I i w' v) (pl:List FlI) (ts2:List (Nat × Nat × Nat)) (os2:List Oper) (hos2:os2.map some=ts2.map (fun t=>ops[t.1]?)) (base:Array Bool)
  (hB:zo4 md ops g pl base=true) (hB2:ziL md ops g ts2 (setI pl base)=true) (a0:Act) (hob:∀ p∈pl,∀ o,ops[p.k]?=some o→ObI P ops V I pl a0 p o)
  (hfin:∀ vals w,V w→(∀ p∈pl,I p.k w (vals p.k))→zf6 P ops Q (fun _=>True) V (ts2.map (·.2)) os2 (zfU pl vals a0) w) :
  ∀ (n:Nat) (listed:Array Bool) (vals:Nat→Value) (w:World),(pl.filter fun p=> !listed.getD p.k false).length≤n→listed.size=base.size→(∀ i,i ∉ pl.map (·.k)→listed[i]?=base[i]?)→zbe md ops listed→V w →
   (∀ p∈pl,listed.getD p.k false=true→I p.k w (vals p.k))→zba P md ops Q (fun _=>True) V g (n+ts2.length) listed (zfU pl vals a0) w:=by
 unfold zo4 at hB
 simp only[Bool.and_eq_true,decide_eq_true_eq] at hB
 obtain⟨⟨⟨⟨b1,b2⟩,b3⟩,b4⟩,b5⟩:=hB
 have hk:=zdP b1
 have hd:=zdP b2
 have hfull:∀ (listed:Array Bool),listed.size=base.size→(∀ i,i ∉ pl.map (·.k)→listed[i]?=base[i]?)→(∀ p∈pl,listed.getD p.k false=true)→listed=setI pl base:=by
  intro listed _ ho ha
  apply Array.ext_getElem?
  intro i
  rw[zo7]
  by_cases hi:i∈pl.map (·.k)
  ·
   rw[if_pos hi]
   obtain⟨p,hp,rfl⟩:=List.mem_map.1 hi
   have h1:=List.all_eq_true.1 b3 p hp
   simp only[Bool.and_eq_true,beq_iff_eq] at h1
   rw[zkP (ha p hp),h1.1.1.1.1];rfl
  ·
   rw[if_neg hi,ho i hi]
 have hdone:∀ (listed:Array Bool) (vals:Nat→Value) (w:World) (n:Nat),listed.size=base.size→(∀ i,i ∉ pl.map (·.k)→listed[i]?=base[i]?)→zbe md ops listed→V w→(∀ p∈pl,listed.getD p.k false=true) →
   (∀ p∈pl,listed.getD p.k false=true→I p.k w (vals p.k))→zba P md ops Q (fun _=>True) V g (n+ts2.length) listed (zfU pl vals a0) w:=by
  intro listed vals w n hz ho hc hV ha hIl
  have hl:=hfull listed hz ho ha
  subst hl
  exact zhc (zde (md:=md) (g:=g) hsel hQ ts2 os2 _ _ w hos2 hc hB2 trivial (fun _=>hV) (hfin vals w hV fun p hp=>hIl p hp (ha p hp))) n
 intro n
 induction n with
 | zero =>
  intro listed vals w hn hz ho hc hV hIl
  refine hdone listed vals w 0 hz ho hc hV (fun p hp=>?_) hIl
  have h0:=List.length_eq_zero_iff.1 (Nat.le_zero.1 hn)
  have:=List.filter_eq_nil_iff.1 h0 p hp
  simpa using this
 | succ n ih =>
  intro listed vals w hn hz ho hc hV hIl
  by_cases hall:∀ p∈pl,listed.getD p.k false=true
  ·
   exact hdone listed vals w (n+1) hz ho hc hV hall hIl
  ·
   have hex:∃ p∈pl,listed.getD p.k false=false:=by
    refine Classical.byContradiction fun hc=>hall fun p hp=>?_
    cases h:listed.getD p.k false with
    | true=>rfl
    | false=>exact absurd ⟨p,hp,h⟩ hc
   rw[Nat.add_right_comm]
   refine⟨fun hr=>?_,fun i hi=>?_⟩
   ·
    exfalso
    obtain⟨p,hp,hun,hmin⟩:=leastF hex
    have h1:=List.all_eq_true.1 b3 p hp
    simp only[Bool.and_eq_true,beq_iff_eq] at h1
    obtain⟨⟨⟨⟨e1,e2⟩,e3⟩,e4⟩,e5⟩:=h1
    cases hop:ops[p.k]? with
    | none=>rw[hop] at e3;cases e3
    | some o =>
     rw[hop] at e5
     have:p.k∈Region.ready md ops listed:=by
      refine mem_ready.2 ⟨?_,o,hop,fun e he hb=>?_⟩
      ·
       have hlt:p.k<listed.size:=by
        rw[hz]
        exact (Array.getElem?_eq_some_iff.1 e1).1
       rw[Array.getD_eq_getD_getElem?,Array.getElem?_eq_getElem hlt] at hun ⊢
       simpa using hun
      ·
       have h2:=List.all_eq_true.1 e5 e (Array.mem_toList_iff.2 he)
       rw[hb] at h2
       simp only[Bool.not_true,Bool.false_or,Bool.or_eq_true,Bool.and_eq_true,decide_eq_true_eq] at h2
       rcases h2 with h2|⟨h2,h3⟩
       ·
        by_cases hm:e.on∈pl.map (·.k)
        ·
         obtain⟨q,hq,hqk⟩:=List.mem_map.1 hm
         have h4:=List.all_eq_true.1 b3 q hq
         simp only[Bool.and_eq_true,beq_iff_eq] at h4
         have h5:=h4.1.1.1.1
         rw[hqk] at h5
         rw[zkP h2] at h5
         cases h5
        ·
         rw[Array.getD_eq_getD_getElem?,ho _ hm,←Array.getD_eq_getD_getElem?];exact h2
       ·
        obtain⟨q,hq,hqk⟩:=List.mem_map.1 (List.contains_iff_mem.1 h2)
        cases hl:listed.getD e.on false with
        | true=>rfl
        | false =>
         have:=hmin q hq (by rw[hqk];exact hl)
         omega
     rw[hr] at this
     cases this
   ·
    obtain⟨hun,o,hop,hdeps⟩:=mem_ready.1 hi
    have hunf:=zbP hi
    have hip:i∈pl.map (·.k):=by
     refine Classical.byContradiction fun hm=>?_
     have hlt:i<ops.size:=(Array.getElem?_eq_some_iff.1 hop).1
     have h1:=List.all_eq_true.1 b4 i (List.mem_range.2 hlt)
     have h2:base[i]?=some false:=by
      rw[←ho i hm]
      have hl2:i<listed.size:=by rw[hz,b5];exact hlt
      rw[Array.getD_eq_getD_getElem?,Array.getElem?_eq_getElem hl2] at hunf
      rw[Array.getElem?_eq_getElem hl2]
      simpa using hunf
     have h3:(pl.map (·.k)).contains i=false:=by
      cases h:(pl.map (·.k)).contains i with
      | false=>rfl
      | true=>exact absurd (List.contains_iff_mem.1 h) hm
     rw[h2,h3] at h1
     simp only[beq_self_eq_true,Bool.not_true,Bool.false_or] at h1
     obtain⟨p,hp,hpu⟩:=hex
     exact (zcJ hc 60 p.k i (List.all_eq_true.1 h1 p hp) hpu).1 hi
    obtain⟨p,hp,rfl⟩:=List.mem_map.1 hip
    have h1:=List.all_eq_true.1 b3 p hp
    simp only[Bool.and_eq_true,beq_iff_eq,Bool.not_eq_true',beq_eq_false_iff_ne] at h1
    obtain⟨⟨⟨⟨e1,e2⟩,e3⟩,e4⟩,-⟩:=h1
    rw[hop] at e3
    simp only[Option.map_some,Option.getD_some,decide_eq_true_eq] at e3
    have hds:∀ j∈p.ds,I j w (vals j):=by
     intro j hj
     have h4:=List.all_eq_true.1 e4 j hj
     rw[Bool.and_eq_true] at h4
     obtain⟨q,hq,rfl⟩:=List.mem_map.1 (List.contains_iff_mem.1 h4.1)
     refine hIl q hq ?_
     cases hl:listed.getD q.k false with
     | true=>rfl
     | false=>exact absurd hi (zcJ hc 60 q.k p.k h4.2 hl).1
    refine zdf hop fun K HK=>hob p hp o hop vals w hV hds K (hid fun v w' hV' hb hIv=>?_)
    have hc':=hc.set hi
    have:=HK.out ((zfU pl vals a0).put (some p.d) v) w' ⟨⟨trivial,fun _=>hV'⟩,?_⟩
    ·
     exact this
    rw[zo6 pl vals a0 hk hd hp v]
    refine ih _ _ w' ?_ (by simpa using hz) (fun j hj=>?_) hc' hV' (fun q hq hl=>?_)
    ·
     have hless:(pl.filter fun q=> !(listed.setIfInBounds p.k true).getD q.k false).length<(pl.filter fun q=> !listed.getD q.k false).length:=by
      refine zfV (fun q hq h=>?_) ⟨p,hp,by rw[hunf];rfl,?_⟩
      ·
       by_cases e:p.k=q.k
       ·
        rw[←e,hunf];rfl
       ·
        rwa [getD_set_ne false e] at h
      ·
       have hlt:p.k<listed.size:=by rw[hz];exact (Array.getElem?_eq_some_iff.1 e1).1
       simp[Array.getD_eq_getD_getElem?,hlt]
     omega
    ·
     rw[Array.getElem?_setIfInBounds,if_neg (by rintro rfl;exact hj hip)]
     exact ho j hj
    ·
     show I q.k w' (if q.k=p.k then v else vals q.k)
     by_cases e:q.k=p.k
     ·
      rw[if_pos e,e];exact hIv
     ·
      rw[if_neg e]
      rw[getD_set_ne false (fun e2=>e e2.symm)] at hl
      exact hI _ _ _ _ (hIl q hq hl) hb
def seqI (P:Program)(ops:Array Oper)(Q:Exit→Act→World→Prop)(V:World→Prop)(I:Nat→World→Value→Prop)(pl:List FlI)(ts2:List (Nat × Nat))(os2:List Oper):List Oper→Act→Prop
 | o::os,a=>∃ v,(∀ w,V w→(execOp a.eval o).run P w= .ok (.value v) w)∧seqI P ops Q V I pl ts2 os2 os (a.put o.dst v)
 | [],a=>(∀ p∈pl,∀ o,ops[p.k]?=some o→ObI P ops V I pl a p o)∧∀ vals w,V w→(∀ p∈pl,I p.k w (vals p.k))→zf6 P ops Q (fun _=>True) V ts2 os2 (zfU pl vals a) w
theorem zb6 {V:World→Prop}{I:Nat→World→Value→Prop}{pl:List FlI}{ts2:List (Nat × Nat)}{os2:List Oper}{o:Oper}{os:List Oper}{a:Act}{v:Value}(hy:∀ w,V w→(execOp a.eval o).run P w= .ok (.value v) w)(h:seqI P ops Q V I pl ts2 os2 os (a.put o.dst v)):seqI P ops Q V I pl ts2 os2 (o::os) a:=⟨v,hy,h⟩
def znS (md:Region.Mode)(ops:Array Oper)(g:Nat)(pl:List FlI)(ts2:List (Nat × Nat × Nat)):List Nat→Array Bool→Bool
 | [],base=>zo4 md ops g pl base&&ziL md ops g ts2 (setI pl base)
 | k::ks,listed=>(Region.free md ops listed k&&(Region.ready md ops listed).contains k && !(k == g)&&((ops[k]?).map fun o=>o.guard.isNone).getD false&&zfT md ops 60 k g)&&znS md ops g pl ts2 ks (listed.setIfInBounds k true)
theorem znT (pl:List FlI)(a:Act)(hk:(pl.map (·.k)).Nodup):∃ vals,zfU pl vals a=a:=by
 refine⟨fun i=>match pl.find? (fun p=>p.k == i) with|some p=>a.tmps.getD p.d undef|none=>undef,?_⟩
 have key:∀ (l:List FlI) (f:Nat→Value),(∀ p∈l,f p.k=a.tmps.getD p.d undef)→zfU l f a=a:=by
  intro l f
  induction l with
  | nil=>intro _;rfl
  | cons p r ih =>
   intro h
   show zfU r f (a.put (some p.d) (f p.k))=a
   rw[h p (by simp),zgs]
   exact ih fun q hq=>h q (by simp[hq])
 refine key pl _ fun p hp=>?_
 have:pl.find? (fun q=>q.k == p.k)=some p:=by
  clear key
  induction pl with
  | nil=>cases hp
  | cons q r ih =>
   rw[List.map_cons,List.nodup_cons] at hk
   rw[List.find?_cons]
   rcases List.mem_cons.1 hp with rfl|hp
   ·
    simp
   ·
    have hne:(q.k == p.k)=false:=by
     rw[beq_eq_false_iff_ne]
     exact fun e=>hk.1 (List.mem_map.2 ⟨p,hp,e.symm⟩)
    rw[hne]
    exact ih hk.2 hp
 simp only[this]
theorem zmn (hsel:Region.noSelect ops=true)(hQ:∀ c (a:Act) dst v w,Q (.panic c) (a.put dst v) w→Q (.panic c) a w){g:Nat}{V:World→Prop}(I:Nat→World→Value→Prop)
  (hI:∀ i w w' v,I i w v→Below w.heap.size w w'→I i w' v) (pl:List FlI) (ts2:List (Nat × Nat × Nat)) (os2:List Oper) (hos2:os2.map some=ts2.map (fun t=>ops[t.1]?)) (ks:List Nat):∀ (os:List Oper) (base:Array Bool) (a:Act) (w:World),
  os.map some=ks.map (fun k=>ops[k]?)→znS md ops g pl ts2 ks base=true→zbe md ops base→V w→seqI P ops Q V I pl (ts2.map (·.2)) os2 os a→zba P md ops Q (fun _=>True) V g (ks.length+pl.length+ts2.length) base a w:=by
 induction ks with
 | nil =>
  intro os base a w hl hB hc hV h
  cases os with
  | cons o os=>simp at hl
  | nil =>
   unfold znS at hB
   rw[Bool.and_eq_true] at hB
   obtain⟨h1,h2⟩:=h
   have hB1:=hB.1
   unfold zo4 at hB1
   simp only[Bool.and_eq_true,decide_eq_true_eq] at hB1
   obtain⟨vals,hv⟩:=znT pl a (zdP hB1.1.1.1.1)
   have:=zmm (md:=md) (g:=g) (Q:=Q) hsel hQ I hI pl ts2 os2 hos2 base hB.1 hB.2 a h1 h2 pl.length base vals w (List.length_filter_le _ _) rfl (fun _ _=>rfl) hc hV (fun p hp hl=>by
    have h4:=List.all_eq_true.1 hB1.1.1.2 p hp
    simp only[Bool.and_eq_true,beq_iff_eq] at h4
    have h5:=h4.1.1.1.1
    rw[zkP hl] at h5
    cases h5)
   rw[hv] at this
   simpa using this
 | cons k ks ih =>
  intro os base a w hl hB hc hV h
  cases os with
  | nil=>simp at hl
  | cons o os =>
   rw[List.map_cons,List.map_cons] at hl
   obtain⟨hi0,hl'⟩:=List.cons.inj hl
   have hi:ops[k]?=some o:=hi0.symm
   unfold znS at hB
   obtain⟨hB1,hB2⟩:=(Bool.and_eq_true _ _).mp hB
   simp only[Bool.and_eq_true,Bool.not_eq_true',beq_eq_false_iff_ne] at hB1
   obtain⟨⟨⟨⟨h3,h4⟩,h5⟩,h6⟩,h8⟩:=hB1
   rw[hi] at h6
   obtain⟨v,hy,h⟩:=h
   have h4':k∈Region.ready md ops base:=List.contains_iff_mem.1 h4
   rw[show (k::ks).length+pl.length+ts2.length=(ks.length+pl.length+ts2.length)+1 by simp;omega]
   exact zbH hi (Region.noSelect_spec hsel) (fun c a w h=>hQ c _ _ _ w h) h5 V (fun _ _ hc hl hA=>hA.2 (zcJ hc 60 k g h8 hl).2) _ base a w hc (Region.free_spec hi h3) h4' (Or.inl ⟨zbI h6,hy⟩) ⟨trivial,fun _=>hV⟩ (ih os _ _ w hl' hB2 (hc.set h4') hV h)
theorem zpC {l:List Oper}:∀ ts:List Nat,(ts.all fun t=>decide (t<l.length))=true→(ts.filterMap fun t=>l[t]?).map some=ts.map fun t=>l.toArray[t]?
 | [],_=>rfl
 | t::ts,h=>by
  rw[List.all_cons,Bool.and_eq_true] at h
  have h1:t<l.length:=of_decide_eq_true h.1
  have h2:l[t]?=some (l[t]'h1):=List.getElem?_eq_getElem h1
  rw[List.filterMap_cons,h2]
  simp only[List.map_cons]
  rw[zpC ts h.2,List.getElem?_toArray,h2]
theorem zff {id:Nat}{l:List Oper}{a:Act}{w:World}(V:World→Prop)(I:Nat→World→Value→Prop)(g:Nat)(ks:List Nat)(pl:List FlI)(ts2:List (Nat × Nat × Nat))(hm:P.follows .mixedOrders=true)(hlen:ks.length+pl.length+ts2.length=l.length)
  (hin:(ks.all fun t=>decide (t<l.length))=true) (hin2:(ts2.all fun t=>decide (t.1<l.length))=true) (hB:(Region.noSelect l.toArray&&znS .any l.toArray g pl ts2 ks (Array.replicate l.length false))=true)
  (hQ:∀ c (a:Act) dst v w,Q (.panic c) (a.put dst v) w→Q (.panic c) a w) (hI:∀ i w w' v,I i w v→Below w.heap.size w w'→I i w' v) (hV:V w.drew)
  (h0:∀ ops',Hid (ops'=l.toArray)→seqI P ops' Q V I pl (ts2.map (·.2)) (ts2.filterMap fun t=>l[t.1]?) (ks.filterMap fun t=>l[t]?) a):(Code.region id l.toArray true).wp P Q a w:=by
 have h:=h0 l.toArray (hid rfl)
 rw[Bool.and_eq_true] at hB
 refine wp_region_any hm (zcK (V:=fun _=>True) (X:=V) (g:=g) _ _ _ _ ?_)
 have:=zmn (md:=.any) (Q:=Q) (P:=P) (g:=g) hB.1 hQ I hI pl ts2 _ (zjV ts2 hin2) ks _ (Array.replicate l.length false) a w.drew (zpC ks hin) hB.2
  (show zbe _ _ (Array.replicate l.length false) from fun j oj _ hl=>by
   rw[Array.getD_eq_getD_getElem?,Array.getElem?_replicate] at hl
   split at hl <;> cases hl) hV h
 rw[hlen] at this
 have e:l.toArray.size=l.length:=by simp
 rw[e]
 exact this
theorem znU {V:World→Prop}{I:Nat→World→Value→Prop}{all:List FlI}{a:Act}:∀ p∈([]:List FlI),∀ o,ops[p.k]?=some o→ObI P ops V I all a p o:=fun _ h=>by cases h
theorem zdQ {V:World→Prop}{I:Nat→World→Value→Prop}{all r:List FlI}{a:Act}{p:FlI}{o:Oper}(hp:ops[p.k]?=some o)(h1:ObI P ops V I all a p o)(h:∀ p∈r,∀ o,ops[p.k]?=some o→ObI P ops V I all a p o):∀ q∈p::r,∀ o,ops[q.k]?=some o→ObI P ops V I all a q o:=by
 intro q hq o' ho
 rcases List.mem_cons.1 hq with rfl|hq
 ·
  rw[hp] at ho
  cases ho
  exact h1
 ·
  exact h q hq o' ho
end
section
open Go.RowKit
structure zd2 {α:Type}(P:World→List Value→α→Prop)(T:TypeId)(k n0:Nat)(TO:TypeId)(O:Nat)(pre post:List Value)(w3 w:World)(v:Value)(l:List α):Prop where
 below:Below O w3 w
 blk:Blk w O (pre++v::post) TO
 rows:zam P T k n0 (O+1) w v l
variable {α:Type} {P:World→List Value→α→Prop} {T:TypeId} {k n0:Nat} {TO:TypeId} {O:Nat} {pre post:List Value} {w3 w w1:World} {v:Value} {l:List α}
theorem zd2.start (hb:Blk w O (pre ++ .slice none 0 0::post) TO):zd2 P T k n0 TO O pre post w w (.slice none 0 0) []:=
 ⟨Below.refl _ _,hb,zam.nil _ _ _ _ _ _⟩
theorem zd2.lt (h:zd2 P T k n0 TO O pre post w3 w v l):O<w.heap.size:=h.blk.lt
theorem zd2.cell (h:zd2 P T k n0 TO O pre post w3 w v l)(j:Nat)(u:Value)(hu:(pre++v::post)[j]?=some u):w.cell? ⟨O,j,none⟩=some u:=h.blk.cell j u hu
theorem zd2.form (h:zd2 P T k n0 TO O pre post w3 w v l):∃ a c,v= .slice a l.length c:=h.rows.form
theorem zd2.later (h:zd2 P T k n0 TO O pre post w3 w v l)(hb:Below w.heap.size w w1):zd2 P T k n0 TO O pre post w3 w1 v l:=
 ⟨h.below.trans (hb.mono (Nat.le_of_lt h.lt)),h.blk.below hb,h.rows.below hb⟩
theorem zd2.step {i:Nat}{oa:Option Addr}{oc:Nat}(h:zd2 P T k n0 TO O pre post w3 w (.slice oa i oc) l)(hb:Below w.heap.size w w1)(hk:0<k)(hn0:n0≤O)(hil:l.length=i)
  {G:Program} (t:TypeId) (z:Value) (bytes:Nat) (ht:G.underlying t=some (.slice T)) (hinfo:(G.info? T).map (fun i=>(i.zero,i.size,i.bytes))=some (some z,k,bytes)) (hzs:z.cells.size=k)
  (cells:Array Value) (hr:cells.size=k) (h1:∀ u∈cells.toList,u.oneCell'=true) (x:α) (hP:zap n0 w.heap.size w1 fun w'=>P w' cells.toList x) (hlen:i≤1099511627776) (hby:bytes≤120) (j:Nat) (hj:j=pre.length) :
  ∃ a' c' w5,(Builtin.append_ #[t,t] t #[.slice oa i oc,.slice (some ⟨w1.heap.size,0,none⟩) 1 1]).run G (w1.alloc (.cells cells T))= .ok (.slice a' (i+1) c') w5 ∧
   Below (O+1) w (w1.alloc (.cells cells T))∧Below (O+1) w w5 ∧
   (w5.cell? ⟨O,j,none⟩=some (.slice oa i oc)∧w5.frozen? ⟨O,j,none⟩=false∧O<w5.heap.size∧∀ b,b<(w1.alloc (.cells cells T)).heap.size→(b<O+1∨w.heap.size≤b)→w5.heap[b]?=(w1.alloc (.cells cells T)).heap[b]?) ∧
   zd2 P T k n0 TO O pre post w3 (w5.setCell ⟨O,j,none⟩ (.slice a' (i+1) c')) (.slice a' (i+1) c') (l++[x]):=by
 subst hj
 have hs:=hb.size
 have hlt:=h.lt
 have hB1:Below (O+1) w (w1.alloc (.cells cells T)):=(hb.mono hlt).alloc (by omega) _
 obtain⟨v',w5,hrun,hR,hg,-⟩:=(h.rows.below hb).append hk (by omega) t z bytes ht hinfo hzs cells hr h1 x w.heap.size (fun b e=>(h.rows.own b e).2) hlt hP (by omega) hby (by omega)
 obtain⟨a',c',rfl⟩:=hR.form
 rw[List.length_append,List.length_singleton,hil] at *
 have hB5:Below (O+1) w w5:=hB1.grown hg (by have:=hB1.size;omega) fun q e=>(h.rows.own q e).1
 have hkp:∀ b,b<(w1.alloc (.cells cells T)).heap.size→(b<O+1∨w.heap.size≤b)→w5.heap[b]?=(w1.alloc (.cells cells T)).heap[b]?:=fun b hb' hc=>hg.block b hb' fun e=>by
  have h1:=h.rows.own b e.symm
  omega
 have hO5:Blk w5 O (pre ++ .slice oa i oc::post) TO:=(hB5.block O (by omega)).trans h.blk
 refine⟨a',c',w5,hrun,hB1,hB5,⟨hO5.cell _ _ (by simp),hO5.free _,hO5.lt,hkp⟩,(h.below.trans (hB5.mono (by omega))).setCell (Nat.le_refl _) _,?_,?_⟩
 ·
  have:=hO5.set pre.length (.slice a' (i+1) c')
  rwa [List.set_append_right _ _ (Nat.le_refl _),Nat.sub_self,List.set_cons_zero] at this
 ·
  refine hR.later (fun b' _ hc=>Below.heap_setCell w5 _ _ b' ?_) (by simp)
  show b'≠O
  omega
theorem zd2.at (h:zd2 P T k n0 TO O pre post w3 w v l)(hl:l.length≤140737488355328){w':World}(hw:∀ b,b<w.heap.size→(b<n0∨O+1≤b)→w'.heap[b]?=w.heap[b]?):zca P k w' v l:=h.rows.at hl hw
theorem znV {α β:Type}{f:α→List β}{l:List α}{k:Nat}{x:α}(h:l[k]?=some x):(l.drop k).flatMap f=f x++(l.drop (k+1)).flatMap f:=by
 obtain⟨h1,h2⟩:=List.getElem?_eq_some_iff.1 h
 rw[←h2,List.drop_eq_getElem_cons h1,List.flatMap_cons]
theorem Blk.of {w w':World}{b B:Nat}{cs:List Value}{T:TypeId}(h:Blk w b cs T)(hb:Below B w w')(hlt:b<B):Blk w' b cs T:=(hb.block b hlt).trans h
theorem zif (w:World):zbn w (.slice none 0 0) []:=⟨⟨rfl,by simp,_,_,rfl,Nat.le_refl _,by omega,fun _=>rfl,fun j u hu=>by simp at hu⟩,by simp⟩
theorem zhd (w:World):zaV w (.slice none 0 0) []:=⟨⟨rfl,by simp,_,_,rfl,Nat.le_refl _,by omega,fun _=>rfl,fun j u hu=>by simp at hu⟩,by simp⟩
theorem zp6 {d:Nat}{w:World}{G:Nat}{T:TypeId}{c1 c2:Value}{y:M d}(hb:Blk w G [c1,c2] T)(hM:zac d w (.agg #[c1,c2]) y):zc8 (zac d) w (.slice (some ⟨G,0,none⟩) 1 1) [y]:=by
 refine⟨[[c1,c2]],rfl,by simp,zcS hb 2 1 rfl (by omega),fun i r x hr hx=>?_⟩
 match i,hr,hx with
 | 0,hr,hx =>
  cases hr
  cases hx
  exact hM
theorem zfD {d:Nat}{w:World}{G:Nat}{T:TypeId}{c1 c2:Value}{y:M d}{num:Int}(hn:-9223372036854775808≤num∧num≤9223372036854775807)(hb:Blk w G [c1,c2] T)(hM:zac d w (.agg #[c1,c2]) y) :
  zat (zac d) w (.agg #[.int .i64 num,.slice none 0 0,.slice none 0 0,.slice (some ⟨G,0,none⟩) 1 1]) ⟨num,[],[],[y]⟩:=
 ⟨_,_,_,rfl,hn,zif w,zhd w,zp6 hb hM⟩
end
section
open Go.RowKit
theorem But.later {b:Nat}{w w1 w2:World}(h:But b w w1)(g:Below w.heap.size w1 w2):But b w w2:=
 ⟨g.os.trans h.os,g.tape.trans h.tape,g.output.trans h.output,Nat.le_trans h.size g.size,fun c hc hn=>(g.block c hc).trans (h.block c hc hn)⟩
theorem zcc.but {lo hi O:Nat}{w w':World}{P:World→Prop}(h:zcc 0 lo hi w P)(hb:But O w w')(h1:hi≤w.heap.size)(h2:O<lo∨hi≤O):zcc 0 lo hi w' P:=
 fun w2 hw2=>h w2 fun b hc=>(hw2 b hc).trans (hb.block b (by omega) (by omega))
structure zhe {α:Type}(P:World→List Value→α→Prop)(T:TypeId)(k n0:Nat)(TO:TypeId)(O:Nat)(pre post:List Value)(w3 w:World)(v:Value)(l:List α):Prop where
 but:But O w3 w
 lt3:O<w3.heap.size
 blk:Blk w O (pre++v::post) TO
 rows:zam P T k n0 w3.heap.size w v l
variable {α:Type} {P:World→List Value→α→Prop} {T:TypeId} {k n0:Nat} {TO:TypeId} {O:Nat} {pre post:List Value} {w3 w w1:World} {v:Value} {l:List α}
theorem zhe.start (hb:Blk w O (pre ++ .slice none 0 0::post) TO):zhe P T k n0 TO O pre post w w (.slice none 0 0) []:=
 ⟨But.refl _ _,hb.lt,hb,zam.nil _ _ _ _ _ _⟩
theorem zhe.lt (h:zhe P T k n0 TO O pre post w3 w v l):O<w.heap.size:=h.blk.lt
theorem zhe.cell (h:zhe P T k n0 TO O pre post w3 w v l)(j:Nat)(u:Value)(hu:(pre++v::post)[j]?=some u):w.cell? ⟨O,j,none⟩=some u:=h.blk.cell j u hu
theorem zhe.free (h:zhe P T k n0 TO O pre post w3 w v l)(j:Nat):w.frozen? ⟨O,j,none⟩=false:=h.blk.free j
theorem zhe.later (h:zhe P T k n0 TO O pre post w3 w v l)(hb:Below w.heap.size w w1):zhe P T k n0 TO O pre post w3 w1 v l:=
 ⟨h.but.later (hb.mono h.but.size),h.lt3,h.blk.below hb,h.rows.below hb⟩
theorem zhe.step {i:Nat}{oa:Option Addr}{oc:Nat}(h:zhe P T k n0 TO O pre post w3 w (.slice oa i oc) l)(hb:Below w.heap.size w w1)(hk:0<k)(hn0:n0≤O)(hil:l.length=i)
  {G:Program} (t:TypeId) (z:Value) (bytes:Nat) (ht:G.underlying t=some (.slice T)) (hinfo:(G.info? T).map (fun i=>(i.zero,i.size,i.bytes))=some (some z,k,bytes)) (hzs:z.cells.size=k)
  (cells:Array Value) (hr:cells.size=k) (h1:∀ u∈cells.toList,u.oneCell'=true) (x:α) (hP:zap n0 w.heap.size w1 fun w'=>P w' cells.toList x) (hlen:i≤1099511627776) (hby:bytes≤120) (j:Nat) (hj:j=pre.length) :
  ∃ a' c' w5,(Builtin.append_ #[t,t] t #[.slice oa i oc,.slice (some ⟨w1.heap.size,0,none⟩) 1 1]).run G (w1.alloc (.cells cells T))= .ok (.slice a' (i+1) c') w5 ∧
   Below w3.heap.size w w5∧(w5.cell? ⟨O,j,none⟩=some (.slice oa i oc)∧w5.frozen? ⟨O,j,none⟩=false∧O<w5.heap.size) ∧
   zhe P T k n0 TO O pre post w3 (w5.setCell ⟨O,j,none⟩ (.slice a' (i+1) c')) (.slice a' (i+1) c') (l++[x]):=by
 subst hj
 have hs:=hb.size
 have hE:=h.but.size
 have hO:=h.lt3
 have hB1:Below w3.heap.size w (w1.alloc (.cells cells T)):=(hb.mono hE).alloc (by omega) _
 obtain⟨v',w5,hrun,hR,hg,-⟩:=(h.rows.below hb).append hk (by omega) t z bytes ht hinfo hzs cells hr h1 x w.heap.size (fun b e=>(h.rows.own b e).2) hE hP (by omega) hby (by omega)
 obtain⟨a',c',rfl⟩:=hR.form
 rw[List.length_append,List.length_singleton,hil] at *
 have hB5:Below w3.heap.size w w5:=hB1.grown hg (by have:=hB1.size;omega) fun q e=>(h.rows.own q e).1
 have hO5:Blk w5 O (pre ++ .slice oa i oc::post) TO:=(hB5.block O hO).trans h.blk
 refine⟨a',c',w5,hrun,hB5,⟨hO5.cell _ _ (by simp),hO5.free _,hO5.lt⟩,(h.but.later hB5).trans (But.set hO5 _ _),hO,?_,?_⟩
 ·
  have:=hO5.set pre.length (.slice a' (i+1) c')
  rwa [List.set_append_right _ _ (Nat.le_refl _),Nat.sub_self,List.set_cons_zero] at this
 ·
  refine hR.later (fun b' _ hc=>Below.heap_setCell w5 _ _ b' ?_) (by simp)
  show b'≠O
  omega
theorem zhe.at (h:zhe P T k n0 TO O pre post w3 w v l)(hl:l.length≤140737488355328){w':World}(hw:∀ b,b<w.heap.size→(b<n0∨w3.heap.size≤b)→w'.heap[b]?=w.heap[b]?):zca P k w' v l:=h.rows.at hl hw
end
end Go.Proofs.YtdpnmdkbdibkpaaGreatDoor
