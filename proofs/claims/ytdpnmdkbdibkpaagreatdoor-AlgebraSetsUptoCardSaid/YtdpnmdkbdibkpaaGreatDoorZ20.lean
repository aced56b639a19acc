/- Parts of a proof: texts of the author, merged. No condition of their own. -/
import Derived.Test.YtdpnmdkbdibkpaaGreatDoorZ05
import Derived.Test.YtdpnmdkbdibkpaaGreatDoorZ06
import Derived.Test.YtdpnmdkbdibkpaaGreatDoorZ07
import Derived.Test.YtdpnmdkbdibkpaaGreatDoorZ12
import Derived.Test.YtdpnmdkbdibkpaaGreatDoorZ13
import Derived.Test.YtdpnmdkbdibkpaaGreatDoorZ14
import Derived.Test.YtdpnmdkbdibkpaaGreatDoorZ17
import Derived.Test.YtdpnmdkbdibkpaaGreatDoorZ18
import Derived.Deep.CutBlock
import Derived.Deep.RegionLaw
import Derived.StillTailTactics
import Derived.Deep.RegionHeld3
import Derived.Laws.BitsAllLaws
namespace Go.Proofs.YtdpnmdkbdibkpaaGreatDoor
set_option maxRecDepth 100000
set_option maxHeartbeats 16000000
section
open Go.RowKit
def zpD (d:Nat)(w0 w:World)(x:M (d+1))(e:Ending)(w':World):Prop:=∃ r es,e= .returned (.map (some r))∧zas w' r zbK es∧MapV d w0 es (M.vals x)∧w.heap.size≤r∧Below w.heap.size w w'
theorem znY {α:Type}{l:List (Val α)}(h:zbc l){i:Nat}{v:Val α}(hv:l[i]?=some v):zbu (l.take i) v.num=none∧l.take (i+1)=l.take i++[v]∧zbc (l.take i):=by
 have e:l.take (i+1)=l.take i++[v]:=by rw[List.take_add_one,hv];rfl
 have h1:zbc (l.take (i+1)):=List.Pairwise.sublist (List.take_sublist _ _) h
 refine⟨?_,e,List.Pairwise.sublist (List.take_sublist _ _) h⟩
 rw[e] at h1
 unfold zbc at h1
 rw[List.pairwise_append] at h1
 unfold zbu
 rw[List.find?_eq_none]
 intro y hy
 have:=h1.2.2 y hy v (by simp)
 simp;omega
theorem zlE {d:Nat}{w0 w:World}{v:Value}{x:M (d+1)}(hw:Below w0.heap.size w0 w)(hx:zac (d+1) w0 v x)(hr:zbc (M.vals x)):Calls Tryz.prog 64 #[v] w (zpD d w0 w x):=by
 obtain⟨vv,uv,rfl,hV,hU⟩:=hx
 obtain⟨hvl,va,vc,rfl,-,hva⟩:=hV.open
 obtain⟨-,ua,uc,huv,-,-⟩:=hU.open
 obtain⟨un,HUN⟩:∃ n,Hid (n=(M.unk x).length):=⟨_,rfl⟩
 obtain⟨vn,HVN⟩:∃ n,Hid (n=(M.vals x).length):=⟨_,rfl⟩
 rw[←HUN.out] at huv
 subst huv
 rw[←HVN.out] at hvl ⊢
 obtain⟨Q,HQ⟩:∃ Q:Ending→World→Prop,Hid (Q=zpD d w0 w x):=⟨_,rfl⟩
 rw[←HQ.out]
 have HVA:=hid hva
 have HW0:=hid hw
 have HRI:=hid hr
 obtain⟨X,HX⟩:∃ X,Hid (X=w.heap.size):=⟨_,rfl⟩
 obtain⟨W1,HW1⟩:∃ W,Hid (W=w.alloc (.cells #[.slice va vn vc,.slice ua un uc] 27)):=⟨_,rfl⟩
 obtain⟨W2,HW2⟩:∃ W,Hid (W=W1.alloc (.map #[] 0)):=⟨_,rfl⟩
 obtain⟨r,HR⟩:∃ r,Hid (r=W1.heap.size):=⟨_,rfl⟩
 have hkx:Blk W1 X [.slice va vn vc,.slice ua un uc] 27:=by rw[HW1.out,HX.out];exact Blk.new w [.slice va vn vc,.slice ua un uc] _
 have hb1:Below w.heap.size w W1:=by rw[HW1.out];exact (Below.refl _ _).alloc (Nat.le_refl _) _
 have hb2:Below W1.heap.size W1 W2:=by rw[HW2.out];exact (Below.refl _ _).alloc (Nat.le_refl _) _
 have HM2:Hid (zas W2 r zbK []∧Below w.heap.size w W2):=⟨by rw[HW2.out,HR.out];exact heap_alloc_new W1 _,hb1.trans (hb2.mono hb1.size)⟩
 have HRX:Hid (w.heap.size≤r):=by rw[HR.out];exact hb1.size
 have k0:=(hkx.below hb2).cell 0 _ rfl
 have kl:=(hkx.below hb2).lt
 have hmm:=@run_makeMap Tryz.prog
 clear hkx hb1 hb2 hV hU hva hr hw
 go_enter Tryz.func64,Tryz.ntmps64
 go_upto_region 1 with fail
 rw[←HW1.out,←HX.out]
 go_upto_region 2 with fail
 rw[←HW2.out,←HR.out]
 clear hmm
 go_wp2_with fail
 go_loopw [10] (fun v10 wr=>∃ (i:Nat) (es:List (Int × Value)),v10= .int .i64 (i:Int)∧i≤vn∧Hid (zas wr r zbK es∧MapV d w0 es ((M.vals x).take i)∧Below w.heap.size w wr)) (fun v10 _=>vn - (intOf v10).toNat)
 case atStart=>exact⟨0,[],rfl,by omega,HM2.out.1,zcv.nil _,HM2.out.2⟩
 case round =>
  obtain⟨i,es,rfl,hi,HJ⟩:=hrel
  clear k0 kl HM2
  by_cases hlt:i<vn
  ·
   obtain⟨v,hv⟩:∃ v,(M.vals x)[i]?=some v:=⟨_,List.getElem?_eq_getElem (by rw[←HVN.out];exact hlt)⟩
   obtain⟨b,o',v1,v2,v3,ha,g0,g1,g2,g3,hM⟩:=HVA.out i v hv
   obtain⟨num,a1,n1,q1,a2,n2,q2,a3,n3,q3,hform⟩:=hM.form
   obtain⟨rfl,rfl,rfl⟩:v1= .slice a1 n1 q1∧v2= .slice a2 n2 q2∧v3= .slice a3 n3 q3:=by cases hform;exact⟨rfl,rfl,rfl⟩
   have hnum:v.num=num:=by cases hform;rfl
   clear hform
   have hkr:=zaa (HW0.out.trans (HJ.out.2.2.mono HW0.out.size))
   replace g0:=hkr _ _ g0
   replace g1:=hkr _ _ g1
   replace g2:=hkr _ _ g2
   replace g3:=hkr _ _ g3
   rw[hnum] at g0 hM
   obtain⟨W6,HW6⟩:∃ W6,Hid (W6=wr.alloc (.cells #[.int .i64 num,.slice a1 n1 q1,.slice a2 n2 q2,.slice a3 n3 q3] 32)):=⟨_,rfl⟩
   obtain⟨B,HBB⟩:∃ B,Hid (B=wr.heap.size):=⟨_,rfl⟩
   have hb6:Below wr.heap.size wr W6:=by rw[HW6.out];exact (Below.refl _ _).alloc (Nat.le_refl _) _
   have hv6:Blk W6 B [.int .i64 num,.slice a1 n1 q1,.slice a2 n2 q2,.slice a3 n3 q3] 32:=by rw[HW6.out,HBB.out];exact Blk.new wr [.int .i64 num,.slice a1 n1 q1,.slice a2 n2 q2,.slice a3 n3 q3] _
   have hmap:=zaX HJ.out.1 hb6
   have hmu:=zia hmap num (.agg #[.int .i64 num,.slice a1 n1 q1,.slice a2 n2 q2,.slice a3 n3 q3])
   have hw6:=HJ.out.2.2.trans (hb6.mono HJ.out.2.2.size)
   obtain⟨t1,t2,t3⟩:=znY HRI.out hv
   have HREL:Hid (zas (za9 W6 r zbK (zf2 num (.agg #[.int .i64 num,.slice a1 n1 q1,.slice a2 n2 q2,.slice a3 n3 q3]) es)) r zbK (zf2 num (.agg #[.int .i64 num,.slice a1 n1 q1,.slice a2 n2 q2,.slice a3 n3 q3]) es) ∧
     MapV d w0 (zf2 num (.agg #[.int .i64 num,.slice a1 n1 q1,.slice a2 n2 q2,.slice a3 n3 q3]) es) ((M.vals x).take (i+1)) ∧
     Below w.heap.size w (za9 W6 r zbK (zf2 num (.agg #[.int .i64 num,.slice a1 n1 q1,.slice a2 n2 q2,.slice a3 n3 q3]) es))):=by
    refine⟨zb8 (Array.getElem?_eq_some_iff.1 hmap).1,?_,hw6.trans (zaO.to_below HRX.out hw6.size)⟩
    have h1:MapV d w0 es ((M.vals x).take i):=HJ.out.2.1
    have h2:=h1.put (by rw[h1.keys];exact t3.nodup) hM
    rw[hnum] at h2
    rw[t2]
    unfold zoH at h2
    rw[t1,if_neg (by simp)] at h2
    exact h2
   have hix:=zad Tryz.underlying24 zdd ha i hlt (cap:=vc)
   have hbl:=World.block_lt_of_cell? wr _ g0
   have d0:=hv6.cell 0 _ rfl
   have d1:=hv6.cell 1 _ rfl
   have d2:=hv6.cell 2 _ rfl
   have d3:=hv6.cell 3 _ rfl
   have dl:=hv6.lt
   clear hv hM hkr hnum ha hb6 hv6 hmap hw6 t1 t2 t3 HJ
   go_upto_region 5 with fail
   rw[←HW6.out,←HBB.out]
   clear g0 g1 g2 g3 hix hbl
   go_wp2_with fail
   go_roundw
   case rel=>exact⟨i+1,_,by go_num,hlt,HREL.out⟩
   case measure=>simp[intOf];omega
  ·
   obtain rfl:i=vn:=by omega
   have HE:Hid (Q (.returned (.map (some r))) wr):=by
    rw[HQ.out]
    have h:=HJ.out
    rw[HVN.out,List.take_length] at h
    exact⟨r,es,rfl,h.1,h.2.1,HRX.out,h.2.2⟩
   clear HJ
   go_wp2_with fail
   exact HE.out
end
section
open Go.RowKit Go.Maps Go.Sort Go.Shelf
def zm3 (w:World)(r:Nat)(es:List (Int × Value)):Prop:=∃ (ents:List MapEntry) (clock:Nat),w.heap[r]?=some (.map ents.toArray clock)∧ents.map (fun x=>(x.key,x.val))=es.map (fun p=>(zbK p.1,p.2))∧(ents.map (·.born)).Nodup∧∀ x∈ents,x.born<clock
theorem zmq (es:List (Int × Value)):∀ i,(zcd zbK es i).map (fun x=>(x.key,x.val))=es.map (fun p=>(zbK p.1,p.2)):=by
 induction es with
 | nil=>intro i;rfl
 | cons e r ih =>
  obtain⟨p,v⟩:=e
  intro i
  rw[zcd,List.map_cons,List.map_cons,ih]
theorem zas.g {w:World}{r:Nat}{es:List (Int × Value)}(h:zas w r zbK es):zm3 w r es:=
 ⟨zcd zbK es 0,es.length,h,zmq es 0,zjO 0,fun x hx=>by obtain⟨-,-,-,-,-,h4⟩:=ziH hx;omega⟩
theorem zm3.later {w w':World}{r:Nat}{es:List (Int × Value)}(h:zm3 w r es)(hb:Below w.heap.size w w'):zm3 w' r es:=by
 obtain⟨ents,clock,h1,h2⟩:=h
 exact⟨ents,clock,(hb.block r (Array.getElem?_eq_some_iff.1 h1).1).trans h1,h2⟩
theorem zj3 (k:Int):∀ (ents:List MapEntry) (es:List (Int × Value)) (j:Nat),ents.map (fun x=>(x.key,x.val))=es.map (fun p=>(zbK p.1,p.2))→Instr.findNow (.int .i64) (zbK k) ents j=some (zbT k es j)
 | [],[],_,_=>rfl
 | [],_::_,_,h=>by simp at h
 | _::_,[],_,h=>by simp at h
 | x::xs,(p,v)::es,j,h=>by
  obtain⟨key,val,born⟩:=x
  rw[List.map_cons,List.map_cons] at h
  obtain⟨h1,h2⟩:=List.cons.inj h
  simp only at h1
  injection h1 with h1 h3
  subst h1 h3
  have hs:Instr.sameNow (.int .i64) (zbK k) (zbK p)=some (decide (k=p)):=by simp[zbK,Instr.sameNow];rfl
  simp only[Instr.findNow,hs,zbT]
  by_cases e:k=p
  ·
   simp[e]
  ·
   simp[e,zj3 k xs es (j+1) h2]
theorem zlF {ents:List MapEntry}{es:List (Int × Value)}(h:ents.map (fun x=>(x.key,x.val))=es.map (fun p=>(zbK p.1,p.2)))(w:World)(k:Int):(Instr.findKey 3 (zbK k) ents).run Tryz.prog w= .ok (zbT k es 0) w:=
 MapKept.run_findKey Tryz.underlying3 (zj3 k ents es 0 h)
theorem zmr {w:World}{r:Nat}{es:List (Int × Value)}(h:zm3 w r es)(q:Int)(ok:Bool):(Instr.lookup 113 (.map (some r)) (.int .i64 q) ok).run Tryz.prog w= .ok (if ok then .tuple #[(zal q es).getD (.agg #[.int .i64 0,.slice none 0 0,.slice none 0 0,.slice none 0 0]),.bool (zal q es).isSome] else (zal q es).getD (.agg #[.int .i64 0,.slice none 0 0,.slice none 0 0,.slice none 0 0])) w:=by
 obtain⟨ents,clock,h1,h2,-⟩:=h
 have hf:=zlF h2 w q
 rw[←zbY q es 0]
 change (Instr.lookup 113 (.map (some r)) (zbK q) ok).run Tryz.prog w=_
 simp only[Instr.lookup,Sem.run_bind,run_underlying Tryz.underlying113,Result.andThen,MapKept.run_getObj_map h1,zdD.check,Sem.run_pure,hf]
 cases hp:zbT q es 0 with
 | none =>
  cases ok
  ·
   simp
  ·
   simp[Result.andThen]
 | some x=>cases ok <;> simp[Sem.run_pure]
def zpa (k:Int)(es:List (Int × Value)):List (Int × Value):=es.filter fun p=>decide (p.1≠k)
theorem zj4 {k:Int}:∀ {es:List (Int × Value)} {i j:Nat} {v:Value},(es.map Prod.fst).Nodup→zbT k es i=some (j,v)→i≤j∧j - i<es.length∧es.eraseIdx (j - i)=zpa k es
 | [],_,_,_,_,h=>by simp[zbT] at h
 | (p,u)::r,i,j,v,hd,h=>by
  rw[List.map_cons,List.nodup_cons] at hd
  rw[zbT] at h
  by_cases e:k=p
  ·
   rw[if_pos e] at h
   injection h with h
   injection h with h1 h2
   subst h1
   refine⟨Nat.le_refl _,by simp,?_⟩
   rw[Nat.sub_self,List.eraseIdx_cons_zero]
   unfold zpa
   rw[List.filter_cons,if_neg (by simp[e])]
   refine (List.filter_eq_self.2 fun q hq=>?_).symm
   have:q.1≠p:=fun e2=>hd.1 (List.mem_map.2 ⟨q,hq,e2⟩)
   simp[e,this]
  ·
   rw[if_neg e] at h
   obtain⟨h1,h2,h3⟩:=zj4 hd.2 h
   refine⟨by omega,by rw[List.length_cons];omega,?_⟩
   rw[show j - i=(j - (i+1))+1 by omega,List.eraseIdx_cons_succ,h3]
   unfold zpa
   rw[List.filter_cons,if_pos (by simpa using fun e2=>e e2.symm)]
theorem zpb {k:Int}{es:List (Int × Value)}(h:zbT k es 0=none):zpa k es=es:=by
 have h1:zal k es=none:=by rw[←zbY k es 0,h];rfl
 clear h
 unfold zpa
 rw[List.filter_eq_self]
 intro q hq
 induction es with
 | nil=>cases hq
 | cons e r ih =>
  obtain⟨p,v⟩:=e
  rw[zal] at h1
  by_cases e:k=p
  ·
   rw[if_pos e] at h1;cases h1
  ·
   rw[if_neg e] at h1
   rcases List.mem_cons.1 hq with rfl|hq
   ·
    simpa using fun e2=>e e2.symm
   ·
    exact ih h1 hq
theorem zhf {α β:Type}(f:α→β):∀ (l:List α) (j:Nat),(l.eraseIdx j).map f=(l.map f).eraseIdx j
 | [],j=>by simp
 | x::r,0=>rfl
 | x::r,j+1=>by rw[List.eraseIdx_cons_succ,List.map_cons,List.map_cons,List.eraseIdx_cons_succ,zhf f r j]
theorem znZ {w:World}{r:Nat}{es:List (Int × Value)}(h:zm3 w r es)(hd:(es.map Prod.fst).Nodup)(k:Int) :
  ∃ w',(∀ ty:TypeId,(Builtin.delete_ #[113,3] ty #[.map (some r),.int .i64 k]).run Tryz.prog w= .ok (.tuple #[]) w')∧zm3 w' r (zpa k es)∧But r w w':=by
 obtain⟨ents,clock,h1,h2,h3,h4⟩:=h
 have hf:=zlF h2 w k
 have hset:∀ o:Obj,But r w { w with heap:=w.heap.setIfInBounds r o }:=fun o=>⟨rfl,rfl,rfl,by simp,fun c _ hne=>by
  show (w.heap.setIfInBounds r o)[c]?=_
  rw[Array.getElem?_setIfInBounds,if_neg (fun e=>hne e.symm)]⟩
 have hat:∀ o:Obj,(w.heap.setIfInBounds r o)[r]?=some o:=fun o=>by
  have:=(Array.getElem?_eq_some_iff.1 h1).1
  simp[this]
 change ∃ w',(∀ ty:TypeId,(Builtin.delete_ #[113,3] ty #[.map (some r),zbK k]).run Tryz.prog w= .ok (.tuple #[]) w')∧_
 cases hp:zbT k es 0 with
 | none =>
  rw[hp] at hf
  refine⟨{ w with heap:=w.heap.setIfInBounds r (.map ents.toArray clock) },?_,⟨ents,clock,hat _,by rw[zpb hp];exact h2,h3,h4⟩,hset _⟩
  intro ty
  simp[Builtin.delete_,run_underlying Tryz.underlying113,MapKept.run_getObj_map h1,zdD.check,hf,MapKept.run_setObj_map _ h1,Result.andThen]
 | some x =>
  obtain⟨j,v⟩:=x
  rw[hp] at hf
  obtain⟨-,hj,he⟩:=zj4 hd hp
  rw[Nat.sub_zero] at hj he
  have hlen:ents.length=es.length:=by have:=congrArg List.length h2;simpa using this
  have hsub:(ents.toArray.eraseIdxIfInBounds j)=(ents.eraseIdx j).toArray:=by
   unfold Array.eraseIdxIfInBounds
   rw[dif_pos (by simpa using (by omega:j<ents.length))]
   simp
  refine⟨{ w with heap:=w.heap.setIfInBounds r (.map (ents.eraseIdx j).toArray clock) },?_,⟨ents.eraseIdx j,clock,hat _,?_,?_,fun x hx=>h4 x ((List.eraseIdx_sublist _ _).subset hx)⟩,hset _⟩
  ·
   intro ty
   rw[←hsub]
   simp[Builtin.delete_,run_underlying Tryz.underlying113,MapKept.run_getObj_map h1,zdD.check,hf,MapKept.run_setObj_map _ h1,Result.andThen]
  ·
   rw[←he,zhf,h2,zhf]
  ·
   exact List.Nodup.sublist (List.Sublist.map _ (List.eraseIdx_sublist _ _)) h3
theorem zn0 {w:World}{r:Nat}{es:List (Int × Value)}(h:zm3 w r es)(hn:es.length≤1073741824)(hd:(es.map Prod.fst).Nodup)(hsz:∀ p∈es.map Prod.fst,zcb p) :
  ∃ D0:DataW Unit,w.ownsMap Tryz.prog 3 RU r es.length D0∧(intKeys D0).Perm (es.map Prod.fst)∧Maps.size D0=es.length:=by
 obtain⟨ents,clock,h1,h2,h3,h4⟩:=h
 have hlen:ents.length=es.length:=by have:=congrArg List.length h2;simpa using this
 have hkey:ents.map (·.key)=(es.map Prod.fst).map zbK:=by
  have:=congrArg (List.map Prod.fst) h2
  rw[List.map_map,List.map_map] at this
  rw[List.map_map]
  exact this
 have hmem:∀ x∈ents,∃ p,p∈es.map Prod.fst∧x.key= .int .i64 p:=fun x hx=>by
  have:x.key∈(es.map Prod.fst).map zbK:=by rw[←hkey];exact List.mem_map.2 ⟨x,hx,rfl⟩
  obtain⟨p,hp,e⟩:=List.mem_map.1 this
  exact⟨p,hp,e.symm⟩
 refine⟨_,⟨ents.toArray,clock,h1,⟨by simp[hlen];unfold maxLen;omega,⟨fun x hx=>h4 x (by simpa using hx),by simpa using h3,?_⟩,fun x hx=>?_⟩,by simp[hlen],rfl⟩,?_,?_⟩
 ·
  show (ents.toArray.toList.map (·.key)).Nodup
  rw[List.toList_toArray,hkey]
  exact List.Pairwise.map _ (fun a b hab e=>hab (by unfold zbK at e;injection e)) hd
 ·
  obtain⟨p,hp0,h2⟩:=hmem x (by simpa using hx)
  have hp:(Lit.int .i64 p).wf=true:=znK (hsz p hp0)
  refine⟨(.int .i64 p,.lit (.bool true)),?_⟩
  unfold Go.WideElems.rd
  rw[h2,keyOf_int_mk Tryz.underlying3 hp]
  rfl
 ·
  have hp:=zfx (ents.toArray.toList.map (Go.WideElems.rg Tryz.prog 3 RU))
  refine (hp.map fun p=>Go.intOf p.1).trans ?_
  rw[List.toList_toArray,List.map_map]
  have:∀ (xs:List MapEntry) (l:List Int),(∀ p∈l,zcb p)→xs.map (·.key)=l.map zbK→xs.map ((fun p=>Go.intOf p.1) ∘ Go.WideElems.rg Tryz.prog 3 RU)=l:=by
   intro xs
   induction xs with
   | nil=>intro l _ e;cases l with
    | nil=>rfl
    | cons p r=>simp at e
   | cons x xs ih =>
    intro l hl e
    cases l with
    | nil=>simp at e
    | cons p r =>
     rw[List.map_cons,List.map_cons] at e
     obtain⟨e1,e2⟩:=List.cons.inj e
     rw[List.map_cons,ih r (fun q hq=>hl q (by simp[hq])) e2]
     congr 1
     have hp:(Lit.int .i64 p).wf=true:=znK (hl p (by simp))
     show Go.intOf (Go.WideElems.rg Tryz.prog 3 RU x).1=_
     unfold Go.WideElems.rg Go.WideElems.rd
     rw[e1]
     show Go.intOf (((keyOf Tryz.prog 3 (.int .i64 p)).bind fun key=>(RU x.val).map fun y=>(key,y.1)).getD (.bool false,.nil)).1=_
     rw[keyOf_int_mk Tryz.underlying3 hp]
     rfl
  rw[this ents (es.map Prod.fst) hsz hkey]
 ·
  show (List.foldr DataW.insert [] _).length=_
  rw[(zfx _).length_eq]
  simp[hlen]
theorem zj5 {w:World}{r:Nat}{es:List (Int × Value)}(h:zm3 w r es)(hn:es.length≤1073741824)(hd:(es.map Prod.fst).Nodup)(hsz:∀ p∈es.map Prod.fst,zcb p) :
  Calls Tryz.prog 98 #[.func (.func 133) #[] #[.pointer (some ⟨w.heap.size,0,none⟩)]] (w.alloc (.cells #[.map (some r)] 113)) fun e w'=>∃ (v:Value) (ss:List Int),e= .returned v∧ss.Perm (es.map Prod.fst) ∧
   w'.ownsRow (w.heap.size+1) 3 1 v ss.length ((ss.mergeSort (fun x y=>decide (x≤y))).map encZ)∧Below (w.heap.size+1) (w.alloc (.cells #[.map (some r)] 113)) w':=by
 obtain⟨D0,hown,hperm,hsize⟩:=zn0 h hn hd hsz
 have hbl:=hown.lt
 have hseq:SeqGives Fence.wide 2 Tryz.prog 133 #[.pointer (some ⟨w.heap.size,0,none⟩)] encZ (fun ss=>ss.Perm (intKeys D0)) (Maps.size D0) (w.alloc (.cells #[.map (some r)] 113)):=
  AnyZI.keys_gives (ρ:=Tryz.keysA_ren) { Tryz.keysA with } Fence.wide _ trivial rfl (by omega) w.heap.size r es.length D0 _ (by simp) (by simp) (by
   obtain⟨es',clock,hb,Ft,hs,hD⟩:=hown
   exact⟨es',clock,(Below.heap_alloc _ _ r hbl).trans hb,Ft,hs,hD⟩)
 have cS:=AnyZI.sorted_in Tryz.sortedA Fence.wide 5 trivial trivial trivial trivial rfl (by omega) (Tryz.sortsA _) (enters_of Tryz.func132 (by kernel_rfl) rfl) 133 #[.pointer (some ⟨w.heap.size,0,none⟩)] trivial (enters_of Tryz.func133 (by kernel_rfl) rfl) _ _ (by rw[hsize];unfold maxLen;omega) (by rw[hsize];omega) _ hseq
 change CallsIn _ _ Tryz.prog 98 _ _ _ at cS
 refine ((callsIn_wide (n:=5)).1 cS).mono ?_
 rintro e w' ⟨v,ss,rfl,hS,hrow,-,hb⟩
 rw[World.size_alloc] at hrow hb
 exact⟨v,ss,rfl,hS.trans hperm,hrow,hb⟩
end
section
open Go.RowKit Go.Maps Go.Sort Go.Shelf
theorem zb2 {α:Type}{l:List (Val α)}{n:Int}:n∈l.map (·.num)↔(zbu l n).isSome=true:=by
 induction l with
 | nil=>simp[zgo]
 | cons x r ih =>
  rw[List.map_cons,List.mem_cons,ih,zaJ]
  by_cases h:x.num=n
  ·
   simp[h]
  ·
   rw[if_neg h]
   exact⟨fun h2=>h2.elim (fun e=>absurd e.symm h) id,.inr⟩
theorem zkR {α:Type}{l gs:List (Val α)}(hl:zbc l)(hg:∀ n,zbu l n=zbu gs n)(hd:(gs.map (·.num)).Nodup){ss:List Int}(hs:ss.Perm (gs.map (·.num))):ss.mergeSort (fun x y=>decide (x≤y))=l.map (·.num):=by
 have hp:(ss.mergeSort (fun x y=>decide (x≤y))).Perm (l.map (·.num)):=by
  refine ((List.mergeSort_perm _ _).trans hs).trans ((List.perm_ext_iff_of_nodup hd hl.nodup).2 fun n=>?_)
  rw[zb2,zb2,hg]
 have h2:(ss.mergeSort fun x y=>decide (x≤y)).Pairwise fun x y=>x≤y:=(List.pairwise_mergeSort (fun a b c h1 h2=>by simp at *;omega) (fun a b=>by simp;omega) _).imp fun h=>of_decide_eq_true h
 have h3:(l.map (·.num)).Pairwise fun x y=>x≤y:=List.Pairwise.map _ (fun a b h=>Int.le_of_lt h) hl
 exact List.Perm.eq_of_pairwise (fun a b _ _ h h'=>Int.le_antisymm h h') h2 h3 hp
theorem zgu {α:Type}{l gs:List (Val α)}(hl:zbc l)(hg:∀ n,zbu l n=zbu gs n)(hd:(gs.map (·.num)).Nodup):l.length=gs.length:=by
 have h:=(List.perm_ext_iff_of_nodup hd hl.nodup).2 fun n=>by rw[zb2,zb2,hg]
 have:=h.length_eq
 rw[List.length_map,List.length_map] at this
 exact this.symm
theorem zcv.getg {d:Nat}{P:Value→Val (M d)→Prop}{es:List (Int × Value)}{gs:List (Val (M d))}(h:zcv P es gs){x:Int}{g:Val (M d)}(hx:zbu gs x=some g):∃ v,zal x es=some v∧P v g:=by
 cases hv:zal x es with
 | none=>rw[h.none hv] at hx;cases hx
 | some v =>
  obtain⟨g',h1,-,h2⟩:=h.get hv
  rw[hx] at h1
  injection h1 with h1
  exact⟨v,rfl,by rw[h1];exact h2⟩
def OfP (d:Nat)(es:List (Int × Value))(_:World)(r:List Value)(v:Val (M d)):Prop:=∃ c:VS,r=[.int .i64 c.n,.slice c.a1 c.n1 c.c1,.slice c.a2 c.n2 c.c2,.slice c.a3 c.n3 c.c3]∧zal v.num es=some c.val
theorem zhg (w:World):(sizeOf 3).run Tryz.prog w= .ok 1 w:=by kernel_rfl
theorem zkS {d n0 B:Nat}{w:World}{r:Nat}{es:List (Int × Value)}{gs l:List (Val (M d))}{uv:Value}{unk:List (List UInt8)}(hm:zm3 w r es)(hv:zo2 d n0 B w es gs)(hB:B≤w.heap.size)(hd:(gs.map (·.num)).Nodup)(hn:gs.length≤1073741824)(hu:zap n0 B w fun W=>zaV W uv unk)(hl:zbc l)(hg:∀ n,zbu l n=zbu gs n) :
  Calls Tryz.prog 65 #[.map (some r),uv] w fun e w'=>∃ v',e= .returned v'∧Below w.heap.size w w'∧zap n0 B w' fun W=>zac (d+1) W v' (⟨l,unk⟩:zec (M d)):=by
 have HUU:=hid hu
 obtain⟨-,ua,uc,rfl,-,-⟩:=hu.here.open
 obtain⟨un,HUN⟩:∃ n,Hid (n=unk.length):=⟨_,rfl⟩
 rw[←HUN.out] at HUU ⊢
 have hlen:=zgu hl hg hd
 obtain⟨Q,HQ⟩:∃ Q:Ending→World→Prop,Hid (Q=fun e w'=>∃ v',e= .returned v'∧Below w.heap.size w w'∧zap n0 B w' fun W=>zac (d+1) W v' (⟨l,unk⟩:zec (M d))):=⟨_,rfl⟩
 rw[←HQ.out]
 obtain⟨X,HX⟩:∃ X,Hid (X=w.heap.size):=⟨_,rfl⟩
 obtain⟨W1,HW1⟩:∃ W,Hid (W=(w.alloc (.cells #[.slice none 0 0,.slice none 0 0] 27)).alloc (.cells #[.slice none 0 0,.slice ua un uc] 27)):=⟨_,rfl⟩
 have hb1:Below w.heap.size w W1:=by rw[HW1.out];(with_reducible repeat first|exact Below.refl _ _|refine pzA ?_ _|refine pzB ?_ _|refine zab ?_ _|refine Below.drew ?_)
 have hr1:Blk W1 X [.slice none 0 0,.slice none 0 0] 27:=by rw[HW1.out,HX.out];exact (Blk.new w [.slice none 0 0,.slice none 0 0] _).alloc _
 have ho1:Blk W1 (X+1) [.slice none 0 0,.slice ua un uc] 27:=by rw[HW1.out,HX.out];exact Blk.new' _ [.slice none 0 0,.slice ua un uc] _ _ (by simp)
 have hz1:W1.heap.size=X+2:=by rw[HW1.out,HX.out];simp
 have hmap1:=hm.later hb1
 have HSK:=hid (zj5 hmap1 (by rw[hv.len];exact hn) (by rw[hv.keys];exact hd) fun p hp=>by
  obtain⟨q,hq,rfl⟩:=List.mem_map.1 hp
  exact (hv.ok (fun _ _ h=>ziJ h) q hq).1)
 rw[hv.keys] at HSK
 have HRS:Hid (∀ ss:List Int,ss.Perm (gs.map (·.num))→ss.mergeSort (fun x y=>decide (x≤y))=l.map (·.num)):=fun ss hs=>zkR hl hg hd hs
 have HI64:Hid (∀ z∈l.map (·.num),zcb z):=fun z hz=>by
  rw[zb2,hg,←zb2,←hv.keys] at hz
  obtain⟨q,hq,rfl⟩:=List.mem_map.1 hz
  exact (hv.ok (fun _ _ h=>ziJ h) q hq).1
 have HLK:Hid (∀ (i:Nat) (v:Val (M d)),l[i]?=some v→∃ c:VS,c.n=v.num∧zal v.num es=some c.val∧zap n0 B w (fun W=>zat (zac d) W c.val v)):=fun i v hi=>by
  obtain⟨u,h1,h2⟩:=hv.getg (x:=v.num) (by rw[←hg];exact zo0 hl (List.mem_of_getElem? hi))
  obtain⟨-,c,rfl,hc⟩:=ziJ h2
  exact⟨c,hc,h1,h2⟩
 obtain⟨n,HN⟩:∃ n,Hid (n=l.length):=⟨_,rfl⟩
 have hnb:n≤1073741824:=by rw[HN.out,hlen];exact hn
 have HX1:=hid hr1
 have HB1:=hid hb1
 have HO1:=hid ho1
 have HZ1:=hid hz1
 have HMP:=hid hm
 have HBS:=hid hB
 have k0:=ho1.cell 0 _ rfl
 have k1:=ho1.cell 1 _ rfl
 have kl:=ho1.lt
 clear hm hv hd hn hu hl hg hlen hb1 hB hr1 ho1 hz1 hmap1
 go_enter Tryz.func65,Tryz.ntmps65
 go_upto_region 2 with fail
 rw[←HW1.out,←HX.out]
 go_wp2_with fail
 refine (znL (some r) W1).mono ?_
 rintro e w2 ⟨rfl,rfl⟩
 go_wp2_with fail
 refine HSK.out.mono ?_
 rintro e w3 ⟨v6,ss,rfl,hperm,hrow,hb3⟩
 rw[HRS.out ss hperm] at hrow
 have hsl:ss.length=n:=by
  have h1:=congrArg List.length (HRS.out ss hperm)
  rw[List.length_mergeSort,List.length_map,←HN.out] at h1
  exact h1
 have hI3:zb0 w3 (W1.heap.size+1) v6 (l.map (·.num)):=by
  unfold zb0
  rw[List.length_map,←HN.out,←hsl]
  exact hrow
 have hb13:Below W1.heap.size W1 w3:=((Below.refl W1.heap.size W1).alloc (Nat.le_refl _) (.cells #[.map (some r)] 113)).trans (hb3.mono (by omega))
 obtain⟨va,vc,rfl⟩:=hI3.form
 rw[List.length_map,←HN.out] at hI3 ⊢
 have HKI:Hid (zar w3 (.slice va n vc) (l.map (·.num))):=hI3.ints (by rw[List.length_map,←HN.out];omega) HI64.out
 have HB13:=hid hb13
 have HX3:=hid (HX1.out.below hb13)
 have HO3:Hid (zhe (OfP d es) 32 4 0 27 (X+1) [] [.slice ua un uc] w3 w3 (.slice none 0 0) []):=zhe.start (HO1.out.below hb13)
 have HB03:=hid (HB1.out.trans (hb13.mono HB1.out.size))
 have HR3:Hid (X+1<w3.heap.size):=(HO1.out.below hb13).lt
 clear hperm hrow hb3 hI3 hb13 hsl HSK HRS k0 k1 kl
 go_wp2_with fail
 go_loopw [14] (fun v14 wr=>∃ (i:Nat) (oa:Option Addr) (oc:Nat),v14= .int .i64 (i:Int)∧i≤n∧Hid (zhe (OfP d es) 32 4 0 27 (X+1) [] [.slice ua un uc] w3 wr (.slice oa i oc) (l.take i))) (fun v14 _=>n - (intOf v14).toNat)
 case atStart=>exact⟨0,none,0,rfl,by omega,HO3.out⟩
 case round =>
  obtain⟨i,oa,oc,rfl,hi,HJ⟩:=hrel
  have hb3r:=HJ.out.but
  have HB0r:Hid (Below w.heap.size w wr):=HB03.out.trans (hb3r.to_below (by rw[HX.out];omega) HB03.out.size)
  by_cases hlt:i<n
  ·
   obtain⟨v,hv⟩:∃ v,l[i]?=some v:=⟨_,List.getElem?_eq_getElem (by rw[←HN.out];exact hlt)⟩
   obtain⟨c,hcn,hgo,hat⟩:=HLK.out i v hv
   obtain⟨kb,ko,hva,hkc,hkb⟩:∃ kb ko,va=some ⟨kb,ko,none⟩∧wr.cell? ⟨kb,ko+i,none⟩=some (.int .i64 v.num)∧kb<wr.heap.size:=by
    obtain⟨-,a',c',e,-,hkat⟩:=HKI.out.open
    obtain⟨-,b',o',h1,h2⟩:=hkat i v.num (by rw[List.getElem?_map,hv];rfl)
    rw[List.length_map,←HN.out] at e
    injection e with e1 e2 e3
    have hne:b'≠X+1:=by
     rintro rfl
     have hb:=HO1.out.below HB13.out
     unfold Blk at hb
     simp[World.cell?,hb] at h2
     generalize o'+i=q at h2
     match q,h2 with
     | 0,h2=>cases h2
     | 1,h2=>cases h2
    have hlt3:=World.block_lt_of_cell? w3 _ h2
    exact⟨b',o',by rw[e1];exact h1,(World.cell?_of_block (hb3r.block b' hlt3 hne)).trans h2,Nat.lt_of_lt_of_le hlt3 hb3r.size⟩
   have hixk:=zag Tryz.underlying28 zhg hva i hlt (cap:=vc)
   have hmr:zm3 wr r es:=HMP.out.later HB0r.out
   have hlk:=zmr hmr v.num false
   rw[hgo] at hlk
   have hsl:(l.take i).length=i:=by rw[List.length_take,←HN.out];omega
   have htk:l.take (i+1)=l.take i++[v]:=by rw[List.take_add_one,hv];rfl
   obtain⟨num,a1,n1,q1,a2,n2,q2,a3,n3,q3⟩:=c
   simp only at hcn
   have hgo2:=hgo
   simp only[VS.val,Option.getD_some,Bool.false_eq_true,if_false] at hlk hgo
   obtain⟨a9,c9,w9,hr9,-,⟨e5,z3,l9⟩,hO9⟩:=HJ.out.step (Below.refl _ _) (by decide) (Nat.zero_le _) hsl 24 _ 80 Tryz.underlying24 zfg rfl #[.int .i64 num,.slice a1 n1 q1,.slice a2 n2 q2,.slice a3 n3 q3] rfl (by intro u hu;simp at hu;rcases hu with rfl|rfl|rfl|rfl <;> rfl) v (fun w' hw'=>⟨_,rfl,hgo2⟩) (by omega) (by decide) 0 rfl
   have HO9:Hid (zhe (OfP d es) 32 4 0 27 (X+1) [] [.slice ua un uc] w3 (w9.setCell ⟨X+1,0,none⟩ (.slice a9 (i+1) c9)) (.slice a9 (i+1) c9) (l.take (i+1))):=by rw[Hid,htk];exact hO9
   have o0:=HJ.out.cell 0 _ rfl
   have ol:=HJ.out.lt
   rw[←hcn] at hkc hlk
   clear hcn hgo hgo2 hat hv hsl htk hO9 hva hmr hb3r HJ
   go_wp2_with (at_builtin;refine zaf rfl _ _ _ rfl _ _ rfl rfl hr9 ?_)
   go_roundw
   case rel=>exact⟨i+1,_,_,by go_num,hlt,HO9.out⟩
   case measure=>simp[intOf];omega
  ·
   obtain rfl:i=n:=by omega
   have hO:=HJ.out
   rw[HN.out,List.take_length,←HN.out] at hO
   have o0:=hO.cell 0 _ rfl
   have o1:=hO.cell 1 _ rfl
   have ol:=hO.lt
   have hR:Blk wr X [.slice none 0 0,.slice none 0 0] 27:=(hb3r.block X (by have:=HR3.out;omega) (by omega)).trans HX3.out
   have r0:=hR.cell 0 _ rfl
   have r1:=hR.cell 1 _ rfl
   have rl:=hR.lt
   have f0:=hR.free 0
   have f1:=hR.free 1
   have s1:=hR.set 0 (.slice oa i oc)
   have s2:=s1.set 1 (.slice ua un uc)
   have r3:=s2.cell 0 _ rfl
   have r4:=s2.cell 1 _ rfl
   have HE:Hid (Q (.returned (.agg #[.slice oa i oc,.slice ua un uc])) ((wr.setCell ⟨X,0,none⟩ (.slice oa i oc)).setCell ⟨X,1,none⟩ (.slice ua un uc))):=by
    rw[HQ.out]
    have hB:Below w.heap.size w ((wr.setCell ⟨X,0,none⟩ (.slice oa i oc)).setCell ⟨X,1,none⟩ (.slice ua un uc)):=(HB0r.out.setCell (by rw[HX.out];exact Nat.le_refl _) _).setCell (by rw[HX.out];exact Nat.le_refl _) _
    refine⟨_,rfl,hB,fun W hW=>?_⟩
    have hag:∀ b,b<w.heap.size→(b<n0∨B≤b)→W.heap[b]?=w.heap[b]?:=fun b hlt hc=>(hW b (Nat.lt_of_lt_of_le hlt hB.size) hc).trans (hB.block b hlt)
    refine⟨_,_,rfl,?_,HUU.out W hag⟩
    obtain⟨rows,h1,h2,h3,h4⟩:=hO.at (by rw[←HN.out];omega) (w':=W) fun b hb hc=>by
     have hne:b≠X:=by have:=HR3.out;omega
     have h5:w3.heap.size≤b:=by omega
     rw[hW b (by simpa using hb) (.inr (by have:=HR3.out;have:=HBS.out;have:=HX.out;omega)),Below.heap_setCell _ _ _ b hne,Below.heap_setCell _ _ _ b hne]
    refine⟨rows,h1,h2,h3,fun j q v hq hv=>?_⟩
    obtain⟨c,rfl,hc⟩:=h4 j q v hq hv
    obtain⟨c',hc1,hc2,hc3⟩:=HLK.out j v hv
    rw[hc] at hc2
    injection hc2 with hc2
    have:=hc3 W hag
    rw[←hc2] at this
    exact this
   clear hO hR s1 s2 HJ hb3r
   go_wp2_with fail
   refine bodyPost_ret (v:=.agg #[.slice oa i oc,.slice ua un uc]) ?_ rfl HE.out
   simp[results,Tryz.results65,go_sem,r3,r4]
theorem alg_of {d n0 B:Nat}{w:World}{r:Nat}{es:List (Int × Value)}{gs l:List (Val (M d))}{uv:Value}{unk:List (List UInt8)}(hm:zas w r zbK es)(hv:zo2 d n0 B w es gs)(hB:B≤w.heap.size)(hd:(gs.map (·.num)).Nodup)(hn:gs.length≤1073741824)(hu:zap n0 B w fun W=>zaV W uv unk)(hl:zbc l)(hg:∀ n,zbu l n=zbu gs n) :
  Calls Tryz.prog 65 #[.map (some r),uv] w fun e w'=>∃ v',e= .returned v'∧Below w.heap.size w w'∧zap n0 B w' fun W=>zac (d+1) W v' (⟨l,unk⟩:zec (M d)):=zkS hm.g hv hB hd hn hu hl hg
end
section
open Go.RowKit
theorem zhh {w:World}{sv:Value}{s:List Mes}(hS:zaj w sv s){root:Nat}(hroot:root<s.length)(x:Int){j:Nat}(hj:zak (s.getD root .zero).fields x=j)(hl:j<(s.getD root .zero).fields.length) :
  Calls Tryz.prog 51 #[sv,.int .i64 (root:Int),.int .i64 x] w fun e w'=>e= .returned ((s.getD root .zero).fields.getD j .zero).val∧Below w.heap.size w w':=by
 obtain⟨hsl,sa,sc,rfl,hget⟩:=hS.open
 obtain⟨b,o,fv,ha,-,m0,m1,hF⟩:=hget root hroot
 clear hget
 generalize (s.getD root .zero).fields=fs at *
 generalize (s.getD root .zero).name=nm at *
 obtain⟨hfl,fa,fc,rfl,hfg⟩:=hF.open
 obtain⟨b3,o3,ha3,-,f0,f1,f2,f3,f4,f5⟩:=hfg j hl
 generalize fs.getD j .zero=f at *
 obtain⟨name,number,kind,rep,packed,of⟩:=f
 dsimp only at f0 f1 f2 f3 f4 f5
 have HF:=hid hF
 have HJ:=hid hj
 obtain⟨fl,HFL⟩:∃ n,Hid (n=fs.length):=⟨_,rfl⟩
 rw[←HFL.out] at HF hl m1
 have lb0:b<w.heap.size:=(World.block_lt_of_cell? w _ m0)
 have lb30:b3<w.heap.size:=(World.block_lt_of_cell? w _ f0)
 have hix:=zad Tryz.underlying23 zbV ha root hroot (cap:=sc)
 have hix3:=zad Tryz.underlying62 zbW ha3 j hl (cap:=fc)
 have HB1:Hid (Below w.heap.size w (w.alloc (.cells #[.string ⟨#[]⟩,.int .i64 0,.int .i64 0,.bool false,.bool false,.int .i64 0] 51))):=(Below.refl _ _).alloc (Nat.le_refl _) _
 have HBN:Hid (∀ W:World,Below w.heap.size w W→Calls Tryz.prog 86 #[.agg #[.string nm,.slice fa fl fc],.int .i64 x] W fun e w'=>e= .returned (.tuple #[.int .i64 j,.bool true])∧Below W.heap.size W w'):=by
  intro W hW
  have h:=zcR (HF.out.keep (zaa hW)) nm x
  rw[HJ.out,if_pos (by omega),decide_eq_true (show (0:Int)≤j by omega)] at h
  exact h
 clear hS hj hfg ha ha3 hF hfl
 go_enter Tryz.func51,Tryz.ntmps51
 go_wp2_with fail
 refine (HBN.out _ HB1.out).mono ?_
 rintro e w2 ⟨rfl,hb2⟩
 have HB2:=hid (HB1.out.trans (hb2.mono HB1.out.size))
 have HR:=hid ((Blk.new w [.string ⟨#[]⟩,.int .i64 0,.int .i64 0,.bool false,.bool false,.int .i64 0] 51).below hb2)
 clear hb2 lb0 lb30
 have hk:=zaa HB2.out
 replace m0:=hk _ _ m0
 replace m1:=hk _ _ m1
 replace f0:=hk _ _ f0
 replace f1:=hk _ _ f1
 replace f2:=hk _ _ f2
 replace f3:=hk _ _ f3
 replace f4:=hk _ _ f4
 replace f5:=hk _ _ f5
 have lb:b<w2.heap.size:=World.block_lt_of_cell? w2 _ m0
 have lb3:b3<w2.heap.size:=World.block_lt_of_cell? w2 _ f0
 have hrl:=HR.out.lt
 have r0:=HR.out.cell 0 _ rfl
 have r1:=HR.out.cell 1 _ rfl
 have r2:=HR.out.cell 2 _ rfl
 have r3:=HR.out.cell 3 _ rfl
 have r4:=HR.out.cell 4 _ rfl
 have r5:=HR.out.cell 5 _ rfl
 have z0:=HR.out.free 0
 have z1:=HR.out.free 1
 have z2:=HR.out.free 2
 have z3:=HR.out.free 3
 have z4:=HR.out.free 4
 have z5:=HR.out.free 5
 clear hk
 go_wp2_with fail
 have HBK:=(((((HR.out.set 0 (.string name)).set 1 (.int .i64 number)).set 2 (.int .i64 kind)).set 3 (.bool rep)).set 4 (.bool packed)).set 5 (.int .i64 of)
 have q0:=HBK.cell 0 _ rfl
 have q1:=HBK.cell 1 _ rfl
 have q2:=HBK.cell 2 _ rfl
 have q3:=HBK.cell 3 _ rfl
 have q4:=HBK.cell 4 _ rfl
 have q5:=HBK.cell 5 _ rfl
 refine bodyPost_ret (v:=.agg #[.string name,.int .i64 number,.int .i64 kind,.bool rep,.bool packed,.int .i64 of]) ?_ rfl ⟨rfl,(((((HB2.out.setCell (Nat.le_refl _) _).setCell (Nat.le_refl _) _).setCell (Nat.le_refl _) _).setCell (Nat.le_refl _) _).setCell (Nat.le_refl _) _).setCell (Nat.le_refl _) _⟩
 simp[results,Tryz.results51,go_sem,q0,q1,q2,q3,q4,q5]
theorem zms {w:World}(f:Fld) :
  Calls Tryz.prog 106 #[f.val] w fun e w'=>e= .returned (.bool (decide (f.kind=17) && !f.rep))∧Below w.heap.size w w':=by
 obtain⟨name,number,kind,rep,packed,of⟩:=f
 simp only[Fld.val]
 have HB1:Hid (Below w.heap.size w (w.alloc (.cells #[.string name,.int .i64 number,.int .i64 kind,.bool rep,.bool packed,.int .i64 of] 51))):=(Below.refl _ _).alloc (Nat.le_refl _) _
 by_cases hk:kind=17
 ·
  subst hk
  go_enter Tryz.func106,Tryz.ntmps106
  go_wp2
  go_ret
  exact⟨by simp,HB1.out⟩
 ·
  have hkd:(decide (kind=17))=false:=decide_eq_false hk
  rw[hkd]
  go_enter Tryz.func106,Tryz.ntmps106
  go_wp2
  go_ret
  exact⟨by simp,HB1.out⟩
end
section
open Go.RowKit
end
section
open Go.RowKit
theorem zdR {α:Type}(p:α→Bool)(l:List α)(k:Nat)(x:α)(h:l[k]?=some x):zah p (l.drop k) k=if p x then (k:Int) else zah p (l.drop (k+1)) (k+1):=by
 obtain⟨hk,rfl⟩:=List.getElem?_eq_some_iff.1 h
 rw[List.drop_eq_getElem_cons hk,zah]
theorem zdS {α:Type}(p:α→Bool):∀ (l:List α) (i:Nat),decide (0≤zah p l i)=l.any p
 | [],i=>by simp[zah]
 | x::r,i=>by
  rw[zah,List.any_cons]
  cases h:p x with
  | true=>rw[if_pos rfl];simp
  | false=>rw[if_neg (by decide),zdS p r (i+1)];simp
theorem ziS {w:World}{v:Value}{l:List Nat}(h:zbn w v l)(F:Nat)(cap:Array Value)(p:Nat→Bool)(hcf:∀ (args:Array Value) (w:World),(callFunc F args).run Tryz.prog w= .ok (.enter F args) w)
  (hcl:∀ x∈l,∀ (wr:World),x<2 ^ 64→Below w.heap.size w wr→Calls Tryz.prog F (#[.int .u64 x]++cap) wr fun e w'=>e= .returned (.bool (p x))∧Below wr.heap.size wr w') :
  Calls Tryz.prog 88 #[v,.func (.func F) #[] cap] w fun e w'=>e= .returned (.int .i64 (zah p l 0))∧Below w.heap.size w w':=by
 obtain⟨hlen,a,c,rfl,-,hat⟩:=h.open
 obtain⟨n,HN⟩:∃ n,Hid (n=l.length):=⟨_,rfl⟩
 rw[←HN.out] at hlen ⊢
 have HAT:=hid hat
 have HCL:=hid hcl
 clear hat hcl
 go_enter Tryz.func88,Tryz.ntmps88
 go_wp2
 go_loopw [8] (fun v8 wr=>∃ k:Nat,k≤n∧v8= .int .i64 k∧Hid (zah p (l.drop k) k=zah p l 0)∧Hid (Below w.heap.size w wr)) (fun v8 _=>n - (intOf v8).toNat)
 case atStart=>exact⟨0,by omega,rfl,hid rfl,Below.refl _ _⟩
 case round =>
  obtain⟨k,hk,rfl,HK,HB⟩:=hrel
  by_cases hlt:k<n
  ·
   have hat:=HAT.out
   have hxi:l[k]?=some (l[k]'(by rw[←HN.out];exact hlt)):=List.getElem?_eq_getElem _
   generalize l[k]'(by rw[←HN.out];exact hlt)=x at hxi
   obtain⟨hx64,b,o,ha,g0⟩:=hat k x hxi
   clear hat
   have HXX:=hid hx64
   clear hx64
   have r0:=zaa HB.out _ _ g0
   have hU:zgK x= .int .u64 x:=rfl
   rw[hU] at r0
   have hbl:b<wr.heap.size:=World.block_lt_of_cell? wr _ r0
   have hix:=zag Tryz.underlying29 ze8 ha k hlt (cap:=c)
   clear g0 hU
   have hst:=hid (zdR p l k x hxi)
   have HMEM:=hid (List.mem_of_getElem? hxi)
   clear ha hxi
   go_wp2_with fail
   have hcl:=HCL.out
   refine (hcl x HMEM.out wr HXX.out HB.out).mono ?_
   rintro e w5 ⟨rfl,hb5⟩
   clear hcl
   have HB5:Hid (Below w.heap.size w w5):=zai HB.out hb5 HB.out.size
   clear hb5
   cases hp:p x with
   | true =>
    have e:zah p l 0=k:=by rw[←HK.out,hst.out,if_pos hp]
    have HE:=hid e
    clear hp e
    go_wp2
    go_ret
    exact⟨by rw[HE.out];rfl,HB5.out⟩
   | false =>
    have e:zah p (l.drop (k+1)) (k+1)=zah p l 0:=by rw[←HK.out,hst.out,if_neg (by rw[hp];decide)]
    have HE:=hid e
    clear hp e
    go_wp2
    go_roundw
    case rel=>exact⟨k+1,by omega,by go_num,HE.out,HB5.out⟩
    case measure=>simp[intOf];omega
  ·
   go_wp2
   go_ret
   have e:zah p l 0= -1:=by
    rw[←HK.out,List.drop_of_length_le (by rw[←HN.out];omega)];rfl
   exact⟨by rw[e];rfl,HB.out⟩
theorem zf9 {w:World}{v:Value}{l:List Nat}(h:zbn w v l)(F:Nat)(cap:Array Value)(p:Nat→Bool)(hcf:∀ (args:Array Value) (w:World),(callFunc F args).run Tryz.prog w= .ok (.enter F args) w)
  (hcl:∀ x∈l,∀ (wr:World),x<2 ^ 64→Below w.heap.size w wr→Calls Tryz.prog F (#[.int .u64 x]++cap) wr fun e w'=>e= .returned (.bool (p x))∧Below wr.heap.size wr w') :
  Calls Tryz.prog 53 #[v,.func (.func F) #[] cap] w fun e w'=>e= .returned (.bool (l.any p))∧Below w.heap.size w w':=by
 obtain⟨x,HX⟩:∃ x,Hid (x=zah p l 0):=⟨_,rfl⟩
 have HA:Hid (decide (0≤x)=l.any p):=by rw[HX.out];exact zdS p l 0
 have HI:=hid (ziS h F cap p hcf hcl)
 rw[←HX.out] at HI
 obtain⟨hlen,a,c,rfl,-,-⟩:=h.open
 clear h hcl
 go_enter Tryz.func53,Tryz.ntmps53
 go_wp2_with fail
 refine HI.out.mono ?_
 rintro e w1 ⟨rfl,hb1⟩
 go_wp2_with fail
 go_ret
 exact⟨zcG (by rw[←HA.out];first|rfl|(congr 1)),hb1⟩
theorem ziT {w:World}{v:Value}{l:List (List UInt8)}(h:zaV w v l)(F:Nat)(cap:Array Value)(p:(List UInt8)→Bool)(hcf:∀ (args:Array Value) (w:World),(callFunc F args).run Tryz.prog w= .ok (.enter F args) w)
  (hcl:∀ x∈l,∀ (wr:World),x.length≤140737488355328→Below w.heap.size w wr→Calls Tryz.prog F (#[zbA x]++cap) wr fun e w'=>e= .returned (.bool (p x))∧Below wr.heap.size wr w') :
  Calls Tryz.prog 96 #[v,.func (.func F) #[] cap] w fun e w'=>e= .returned (.int .i64 (zah p l 0))∧Below w.heap.size w w':=by
 obtain⟨hlen,a,c,rfl,-,hat⟩:=h.open
 obtain⟨n,HN⟩:∃ n,Hid (n=l.length):=⟨_,rfl⟩
 rw[←HN.out] at hlen ⊢
 have HAT:=hid hat
 have HCL:=hid hcl
 clear hat hcl
 go_enter Tryz.func96,Tryz.ntmps96
 go_wp2
 go_loopw [8] (fun v8 wr=>∃ k:Nat,k≤n∧v8= .int .i64 k∧Hid (zah p (l.drop k) k=zah p l 0)∧Hid (Below w.heap.size w wr)) (fun v8 _=>n - (intOf v8).toNat)
 case atStart=>exact⟨0,by omega,rfl,hid rfl,Below.refl _ _⟩
 case round =>
  obtain⟨k,hk,rfl,HK,HB⟩:=hrel
  by_cases hlt:k<n
  ·
   have hat:=HAT.out
   have hxi:l[k]?=some (l[k]'(by rw[←HN.out];exact hlt)):=List.getElem?_eq_getElem _
   generalize l[k]'(by rw[←HN.out];exact hlt)=x at hxi
   obtain⟨hx64,b,o,ha,g0⟩:=hat k x hxi
   clear hat
   have HXX:=hid hx64
   clear hx64
   have r0:=zaa HB.out _ _ g0
   have hU:zbA x= .string ⟨x.toArray⟩:=rfl
   rw[hU] at r0
   have hbl:b<wr.heap.size:=World.block_lt_of_cell? wr _ r0
   have hix:=zag Tryz.underlying25 zcp ha k hlt (cap:=c)
   clear g0 hU
   have hst:=hid (zdR p l k x hxi)
   have HMEM:=hid (List.mem_of_getElem? hxi)
   clear ha hxi
   go_wp2_with fail
   have hcl:=HCL.out
   refine (hcl x HMEM.out wr HXX.out HB.out).mono ?_
   rintro e w5 ⟨rfl,hb5⟩
   clear hcl
   have HB5:Hid (Below w.heap.size w w5):=zai HB.out hb5 HB.out.size
   clear hb5
   cases hp:p x with
   | true =>
    have e:zah p l 0=k:=by rw[←HK.out,hst.out,if_pos hp]
    have HE:=hid e
    clear hp e
    go_wp2
    go_ret
    exact⟨by rw[HE.out];rfl,HB5.out⟩
   | false =>
    have e:zah p (l.drop (k+1)) (k+1)=zah p l 0:=by rw[←HK.out,hst.out,if_neg (by rw[hp];decide)]
    have HE:=hid e
    clear hp e
    go_wp2
    go_roundw
    case rel=>exact⟨k+1,by omega,by go_num,HE.out,HB5.out⟩
    case measure=>simp[intOf];omega
  ·
   go_wp2
   go_ret
   have e:zah p l 0= -1:=by
    rw[←HK.out,List.drop_of_length_le (by rw[←HN.out];omega)];rfl
   exact⟨by rw[e];rfl,HB.out⟩
theorem zd3 {w:World}{v:Value}{l:List (List UInt8)}(h:zaV w v l)(F:Nat)(cap:Array Value)(p:(List UInt8)→Bool)(hcf:∀ (args:Array Value) (w:World),(callFunc F args).run Tryz.prog w= .ok (.enter F args) w)
  (hcl:∀ x∈l,∀ (wr:World),x.length≤140737488355328→Below w.heap.size w wr→Calls Tryz.prog F (#[zbA x]++cap) wr fun e w'=>e= .returned (.bool (p x))∧Below wr.heap.size wr w') :
  Calls Tryz.prog 59 #[v,.func (.func F) #[] cap] w fun e w'=>e= .returned (.bool (l.any p))∧Below w.heap.size w w':=by
 obtain⟨x,HX⟩:∃ x,Hid (x=zah p l 0):=⟨_,rfl⟩
 have HA:Hid (decide (0≤x)=l.any p):=by rw[HX.out];exact zdS p l 0
 have HI:=hid (ziT h F cap p hcf hcl)
 rw[←HX.out] at HI
 obtain⟨hlen,a,c,rfl,-,-⟩:=h.open
 clear h hcl
 go_enter Tryz.func59,Tryz.ntmps59
 go_wp2_with fail
 refine HI.out.mono ?_
 rintro e w1 ⟨rfl,hb1⟩
 go_wp2_with fail
 go_ret
 exact⟨zcG (by rw[←HA.out];first|rfl|(congr 1)),hb1⟩
theorem ziU {d:Nat}{w:World}{v:Value}{l:List (M d)}(h:zc8 (zac d) w v l)(F:Nat)(cap:Array Value)(p:(M d)→Bool)(hcf:∀ (args:Array Value) (w:World),(callFunc F args).run Tryz.prog w= .ok (.enter F args) w)
  (hcl:∀ x∈l,∀ (mv:Value) (wr:World),zac d w mv x→Below w.heap.size w wr→Calls Tryz.prog F (#[mv]++cap) wr fun e w'=>e= .returned (.bool (p x))∧Below wr.heap.size wr w') :
  Calls Tryz.prog 93 #[v,.func (.func F) #[] cap] w fun e w'=>e= .returned (.int .i64 (zah p l 0))∧Below w.heap.size w w':=by
 obtain⟨hlen,a,c,rfl,-,hat⟩:=h.open
 obtain⟨n,HN⟩:∃ n,Hid (n=l.length):=⟨_,rfl⟩
 rw[←HN.out] at hlen ⊢
 have HAT:=hid hat
 have HCL:=hid hcl
 clear hat hcl
 go_enter Tryz.func93,Tryz.ntmps93
 go_wp2
 go_loopw [8] (fun v8 wr=>∃ k:Nat,k≤n∧v8= .int .i64 k∧Hid (zah p (l.drop k) k=zah p l 0)∧Hid (Below w.heap.size w wr)) (fun v8 _=>n - (intOf v8).toNat)
 case atStart=>exact⟨0,by omega,rfl,hid rfl,Below.refl _ _⟩
 case round =>
  obtain⟨k,hk,rfl,HK,HB⟩:=hrel
  by_cases hlt:k<n
  ·
   have hat:=HAT.out
   have hxi:l[k]?=some (l[k]'(by rw[←HN.out];exact hlt)):=List.getElem?_eq_getElem _
   generalize l[k]'(by rw[←HN.out];exact hlt)=x at hxi
   obtain⟨b,o,v1,v2,ha,g0,g1,hM⟩:=hat k x hxi
   clear hat
   have HXX:=hid hM
   clear hM
   have r0:=zaa HB.out _ _ g0
   have r1:=zaa HB.out _ _ g1
   have hbl:b<wr.heap.size:=World.block_lt_of_cell? wr _ r0
   have hix:=zad Tryz.underlying30 zbX ha k hlt (cap:=c)
   clear g0 g1
   have hst:=hid (zdR p l k x hxi)
   have HMEM:=hid (List.mem_of_getElem? hxi)
   clear ha hxi
   go_wp2_with fail
   have hcl:=HCL.out
   refine (hcl x HMEM.out _ _ HXX.out HB.out).mono ?_
   rintro e w5 ⟨rfl,hb5⟩
   clear hcl
   have HB5:Hid (Below w.heap.size w w5):=zai HB.out hb5 HB.out.size
   clear hb5
   cases hp:p x with
   | true =>
    have e:zah p l 0=k:=by rw[←HK.out,hst.out,if_pos hp]
    have HE:=hid e
    clear hp e
    go_wp2
    go_ret
    exact⟨by rw[HE.out];rfl,HB5.out⟩
   | false =>
    have e:zah p (l.drop (k+1)) (k+1)=zah p l 0:=by rw[←HK.out,hst.out,if_neg (by rw[hp];decide)]
    have HE:=hid e
    clear hp e
    go_wp2
    go_roundw
    case rel=>exact⟨k+1,by omega,by go_num,HE.out,HB5.out⟩
    case measure=>simp[intOf];omega
  ·
   go_wp2
   go_ret
   have e:zah p l 0= -1:=by
    rw[←HK.out,List.drop_of_length_le (by rw[←HN.out];omega)];rfl
   exact⟨by rw[e];rfl,HB.out⟩
theorem zga {d:Nat}{w:World}{v:Value}{l:List (M d)}(h:zc8 (zac d) w v l)(F:Nat)(cap:Array Value)(p:(M d)→Bool)(hcf:∀ (args:Array Value) (w:World),(callFunc F args).run Tryz.prog w= .ok (.enter F args) w)
  (hcl:∀ x∈l,∀ (mv:Value) (wr:World),zac d w mv x→Below w.heap.size w wr→Calls Tryz.prog F (#[mv]++cap) wr fun e w'=>e= .returned (.bool (p x))∧Below wr.heap.size wr w') :
  Calls Tryz.prog 56 #[v,.func (.func F) #[] cap] w fun e w'=>e= .returned (.bool (l.any p))∧Below w.heap.size w w':=by
 obtain⟨x,HX⟩:∃ x,Hid (x=zah p l 0):=⟨_,rfl⟩
 have HA:Hid (decide (0≤x)=l.any p):=by rw[HX.out];exact zdS p l 0
 have HI:=hid (ziU h F cap p hcf hcl)
 rw[←HX.out] at HI
 obtain⟨hlen,a,c,rfl,-,-⟩:=h.open
 clear h hcl
 go_enter Tryz.func56,Tryz.ntmps56
 go_wp2_with fail
 refine HI.out.mono ?_
 rintro e w1 ⟨rfl,hb1⟩
 go_wp2_with fail
 go_ret
 exact⟨zcG (by rw[←HA.out];first|rfl|(congr 1)),hb1⟩
end
end Go.Proofs.YtdpnmdkbdibkpaaGreatDoor
