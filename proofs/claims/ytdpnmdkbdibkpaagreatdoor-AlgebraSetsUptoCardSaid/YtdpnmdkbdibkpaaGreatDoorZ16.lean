/- Parts of a proof: texts of the author, merged. No condition of their own. -/
import Derived.Test.YtdpnmdkbdibkpaaGreatDoorZ07
import Derived.Test.YtdpnmdkbdibkpaaGreatDoorZ11
import Derived.Test.YtdpnmdkbdibkpaaGreatDoorZ15
namespace Go.Proofs.YtdpnmdkbdibkpaaGreatDoor
set_option maxRecDepth 100000
set_option maxHeartbeats 16000000
section
open Go.RowKit
variable {P:Program} {ops:Array Oper} {md:Region.Mode} {w:World} {V X:World→Prop} {g:Nat} {Q:Exit→Act→World→Prop}
def zkM (md:Region.Mode)(ops:Array Oper)(g:Nat):List (Nat × Nat)→Array Bool→Bool
 | [],listed=>(Region.ready md ops listed).isEmpty
 | t::ts,listed=>(match t.2 with
   | 0=>Region.free md ops listed t.1&&(Region.ready md ops listed).contains t.1 && !(t.1 == g)&&((ops[t.1]?).map fun o=>o.guard.isNone).getD false
   | 1=>Region.free md ops listed t.1&&(Region.ready md ops listed).contains t.1 && !(t.1 == g)&&((ops[t.1]?).map fun o=>o.guard.isNone).getD false&&zfT md ops 60 t.1 g
   | _=>decide (Region.ready md ops listed=[t.1])&&(listed.setIfInBounds t.1 true).getD g false)&&zkM md ops g ts (listed.setIfInBounds t.1 true)
theorem zkN (hsel:Region.noSelect ops=true)(hQ:∀ c (a:Act) dst v w,Q (.panic c) (a.put dst v) w→Q (.panic c) a w)(ts:List (Nat × Nat)):∀ (os:List Oper) (listed:Array Bool) (a:Act) (w:World),
  os.map some=ts.map (fun t=>ops[t.1]?)→zbe md ops listed→zkM md ops g ts listed=true→V w→(listed.getD g false=false→X w)→zm2 P ops Q V X (ts.map (·.2)) os a w →
  zba P md ops Q V X g ts.length listed a w:=by
 induction ts with
 | nil =>
  intro os listed a w hl _ hB _ _ h
  cases os with
  | nil=>exact⟨by simpa [zkM] using hB,h⟩
  | cons o os=>simp at hl
 | cons t ts ih =>
  intro os listed a w hl hc hB hV hX h
  cases os with
  | nil=>simp at hl
  | cons o os =>
   rw[List.map_cons,List.map_cons] at hl
   obtain⟨hi0,hl'⟩:=List.cons.inj hl
   clear hl
   obtain⟨k,tag⟩:=t
   have hi:ops[k]?=some o:=hi0.symm
   clear hi0
   rw[List.length_cons]
   rw[List.map_cons] at h
   simp only at h
   rcases tag with _|_|n
   ·
    obtain⟨v,hy,h⟩:=h
    unfold zkM at hB
    obtain⟨hB1,hB2⟩:=(Bool.and_eq_true _ _).mp hB
    simp only[Bool.and_eq_true,Bool.not_eq_true',beq_eq_false_iff_ne] at hB1
    obtain⟨⟨⟨h3,h4⟩,h5⟩,h6⟩:=hB1
    have h4':k∈Region.ready md ops listed:=List.contains_iff_mem.1 h4
    rw[hi] at h6
    refine zbH hi (Region.noSelect_spec hsel) (fun c a w h=>hQ c _ _ _ w h) h5 V (fun _ _ _ _ hA=>hA.1) ts.length listed a w hc (Region.free_spec hi h3) h4' (Or.inl ⟨zbI h6,hy⟩) ⟨hV,hX⟩ ?_
    exact ih os _ _ w hl' (hc.set h4') hB2 hV (fun h0=>hX (by rw[getD_set_ne false h5] at h0;exact h0)) h
   ·
    obtain⟨v,hy,h⟩:=h
    unfold zkM at hB
    obtain⟨hB1,hB2⟩:=(Bool.and_eq_true _ _).mp hB
    simp only[Bool.and_eq_true,Bool.not_eq_true',beq_eq_false_iff_ne] at hB1
    obtain⟨⟨⟨⟨h3,h4⟩,h5⟩,h6⟩,h8⟩:=hB1
    have h4':k∈Region.ready md ops listed:=List.contains_iff_mem.1 h4
    rw[hi] at h6
    refine zbH hi (Region.noSelect_spec hsel) (fun c a w h=>hQ c _ _ _ w h) h5 X (fun _ _ hc hl hA=>hA.2 (zcJ hc 60 k g h8 hl).2) ts.length listed a w hc (Region.free_spec hi h3) h4' (Or.inl ⟨zbI h6,hy⟩) ⟨hV,hX⟩ ?_
    exact ih os _ _ w hl' (hc.set h4') hB2 hV (fun h0=>hX (by rw[getD_set_ne false h5] at h0;exact h0)) h
   ·
    unfold zkM at hB
    obtain⟨hB1,hB2⟩:=(Bool.and_eq_true _ _).mp hB
    obtain⟨h3,h4⟩:=(Bool.and_eq_true _ _).mp hB1
    replace h3:=of_decide_eq_true h3
    have h4':k∈Region.ready md ops listed:=by rw[h3];exact List.mem_singleton.2 rfl
    refine zie h3 hi h4 fun K HK=>h K (hid fun a' w' hV' hK=>HK.out a' w' hV' fun hV''=>?_)
    exact ih os _ a' w' hl' (hc.set h4') hB2 hV'' (fun h0=>by rw[h4] at h0;cases h0) (hK hV'')
theorem zp2 {l:List Oper}:∀ ts:List (Nat × Nat),(ts.all fun t=>decide (t.1<l.length))=true→(ts.filterMap fun t=>l[t.1]?).map some=ts.map fun t=>l.toArray[t.1]?
 | [],_=>rfl
 | t::ts,h=>by
  rw[List.all_cons,Bool.and_eq_true] at h
  have h1:t.1<l.length:=of_decide_eq_true h.1
  have h2:l[t.1]?=some (l[t.1]'h1):=List.getElem?_eq_getElem h1
  rw[List.filterMap_cons,h2]
  simp only[List.map_cons]
  rw[zp2 ts h.2,List.getElem?_toArray,h2]
theorem zaS {id:Nat}{l:List Oper}{a:Act}{w:World}(V X:World→Prop)(g:Nat)(ts:List (Nat × Nat))(hm:P.follows .mixedOrders=true)(hlen:ts.length=l.length)
  (hin:(ts.all fun t=>decide (t.1<l.length))=true) (hB:(Region.noSelect l.toArray&&zkM .any l.toArray g ts (Array.replicate l.length false))=true) (hQ:∀ c (a:Act) dst v w,Q (.panic c) (a.put dst v) w→Q (.panic c) a w)
  (hV:V w.drew) (hX:X w.drew) (h0:∀ ops',Hid (ops'=l.toArray)→zm2 P ops' Q V X (ts.map (·.2)) (ts.filterMap fun t=>l[t.1]?) a w.drew):(Code.region id l.toArray true).wp P Q a w:=by
 have h:=h0 l.toArray (hid rfl)
 rw[Bool.and_eq_true] at hB
 refine wp_region_any hm (zcK (V:=V) (X:=X) (g:=g) _ _ _ _ ?_)
 have:=zkN (md:=.any) (Q:=Q) (V:=V) (X:=X) (P:=P) (g:=g) hB.1 hQ ts _ (Array.replicate l.length false) a w.drew (zp2 ts hin) (fun j oj _ hl=>by
  rw[Array.getD_eq_getD_getElem?,Array.getElem?_replicate] at hl
  split at hl <;> cases hl) hB.2 hV (fun _=>hX) h
 rw[hlen] at this
 have e:l.toArray.size=l.length:=by simp
 rw[e]
 exact this
end
section
open Go.RowKit
variable {P:Program} {ops:Array Oper} {md:Region.Mode} {w:World} {V X:World→Prop} {g:Nat} {Q:Exit→Act→World→Prop}
def zek (ops:Array Oper)(k d:Nat):Bool:=match (ops[k]?).bind (·.guard) with
 | some (j,_)=>decide ((ops[j]?).bind (·.dst)=some d)
 | none=>false
def zcZ (o:Oper):Bool:=match o.guard with
 | some (_,b)=>b
 | none=>true
theorem zeV {k d:Nat}{o:Oper}{a:Act}{b:Bool}(hk:ops[k]?=some o)(h:zek ops k d=true)(ht:a.tmps[d]?=some (.bool b)):Region.wanted o (yielded ops a.tmps)=decide (b=zcZ o):=by
 unfold zek at h
 rw[hk] at h
 simp only[Option.bind_some] at h
 cases hg:o.guard with
 | none=>rw[hg] at h;cases h
 | some p =>
  obtain⟨j,c⟩:=p
  rw[hg] at h
  have h2:(ops[j]?).bind (·.dst)=some d:=of_decide_eq_true h
  have hy:yielded ops a.tmps j=some b:=by
   unfold yielded
   rw[h2]
   simp only[Option.bind_some,ht]
  unfold Region.wanted zcZ
  rw[hg]
  simp only[hy]
  cases b <;> cases c <;> rfl
def ziL (md:Region.Mode)(ops:Array Oper)(g:Nat):List (Nat × Nat × Nat)→Array Bool→Bool
 | [],listed=>(Region.ready md ops listed).isEmpty
 | (k,t,d)::ts,listed=>(match t with
   | 0=>Region.free md ops listed k&&(Region.ready md ops listed).contains k && !(k == g)&&((ops[k]?).map fun o=>o.guard.isNone).getD false
   | 1=>Region.free md ops listed k&&(Region.ready md ops listed).contains k && !(k == g)&&((ops[k]?).map fun o=>o.guard.isNone).getD false&&zfT md ops 60 k g
   | 4=>Region.free md ops listed k&&(Region.ready md ops listed).contains k && !(k == g)&&zek ops k d
   | 5=>Region.free md ops listed k&&(Region.ready md ops listed).contains k && !(k == g)&&zek ops k d
   | 6=>decide (Region.ready md ops listed=[k])&&(listed.setIfInBounds k true).getD g false&&zek ops k d
   | _=>decide (Region.ready md ops listed=[k])&&(listed.setIfInBounds k true).getD g false)&&ziL md ops g ts (listed.setIfInBounds k true)
def zf6 (P:Program)(ops:Array Oper)(Q:Exit→Act→World→Prop)(V X:World→Prop):List (Nat × Nat)→List Oper→Act→World→Prop
 | (0,_)::ts,o::os,a,w=>∃ v,(∀ w,V w→(execOp a.eval o).run P w= .ok (.value v) w)∧zf6 P ops Q V X ts os (a.put o.dst v) w
 | (1,_)::ts,o::os,a,w=>∃ v,(∀ w,X w→(execOp a.eval o).run P w= .ok (.value v) w)∧zf6 P ops Q V X ts os (a.put o.dst v) w
 | (4,d)::ts,o::os,a,w=>a.tmps[d]?=some (.bool (zcZ o))∧∃ v,(∀ w,V w→(execOp a.eval o).run P w= .ok (.value v) w)∧zf6 P ops Q V X ts os (a.put o.dst v) w
 | (5,d)::ts,o::os,a,w=>a.tmps[d]?=some (.bool (!zcZ o))∧zf6 P ops Q V X ts os (a.put o.dst undef) w
 | (6,d)::ts,o::os,a,w=>a.tmps[d]?=some (.bool (zcZ o))∧∀ K:Exit→Act→World→Prop,Hid (∀ a' w',V w'→(V w'→zf6 P ops Q V X ts os a' w')→K .normal a' w')→wpList P ops K [{ o with guard:=none }] a w
 | _::ts,o::os,a,w=>∀ K:Exit→Act→World→Prop,Hid (∀ a' w',V w'→(V w'→zf6 P ops Q V X ts os a' w')→K .normal a' w')→wpList P ops K [o] a w
 | _,_,a,w=>Q .normal a w
theorem zp3 {o:Oper}{K:Exit→Act→World→Prop}{a:Act}{w:World}(h:wpList P ops K [{ o with guard:=none }] a w)(hw:Region.wanted o (yielded ops a.tmps)=true):wpList P ops K [o] a w:=by
 unfold wpList at h ⊢
 rw[if_pos hw]
 rw[if_pos (by rfl)] at h
 exact h
theorem zkO {k:Nat}{o:Oper}{fuel:Nat}{listed:Array Bool}{a:Act}{w:World}{T:Act→World→Prop}(hr:Region.ready md ops listed=[k])(hk:ops[k]?=some o)
  (hg:(listed.setIfInBounds k true).getD g false=true) (h:∀ K:Exit→Act→World→Prop,Hid (∀ a' w',V w'→(V w'→T a' w')→K .normal a' w')→wpList P ops K [o] a w)
  (hT:∀ a' w',V w'→T a' w'→zba P md ops Q V X g fuel (listed.setIfInBounds k true) a' w'):zba P md ops Q V X g (fuel+1) listed a w:=
 zie hr hk hg fun K HK=>h K (hid fun a' w' hV hK=>HK.out a' w' hV fun hV''=>hT a' w' hV'' (hK hV''))
theorem zde (hsel:Region.noSelect ops=true)(hQ:∀ c (a:Act) dst v w,Q (.panic c) (a.put dst v) w→Q (.panic c) a w)(ts:List (Nat × Nat × Nat)):∀ (os:List Oper) (listed:Array Bool) (a:Act) (w:World),
  os.map some=ts.map (fun t=>ops[t.1]?)→zbe md ops listed→ziL md ops g ts listed=true→V w→(listed.getD g false=false→X w)→zf6 P ops Q V X (ts.map (·.2)) os a w →
  zba P md ops Q V X g ts.length listed a w:=by
 induction ts with
 | nil =>
  intro os listed a w hl _ hB _ _ h
  cases os with
  | nil=>exact⟨by simpa [ziL] using hB,h⟩
  | cons o os=>simp at hl
 | cons t ts ih =>
  intro os listed a w hl hc hB hV hX h
  cases os with
  | nil=>simp at hl
  | cons o os =>
   rw[List.map_cons,List.map_cons] at hl
   obtain⟨hi0,hl'⟩:=List.cons.inj hl
   clear hl
   obtain⟨k,tag,d⟩:=t
   have hi:ops[k]?=some o:=hi0.symm
   clear hi0
   rw[List.length_cons]
   rw[List.map_cons] at h
   unfold ziL at hB
   obtain⟨hB1,hB2⟩:=(Bool.and_eq_true _ _).mp hB
   clear hB
   have quiet:∀ v,Region.free md ops listed k=true→(Region.ready md ops listed).contains k=true→k≠g→YieldsIf P ops V o v a→zf6 P ops Q V X (ts.map (·.2)) os (a.put o.dst v) w→zba P md ops Q V X g (ts.length+1) listed a w:=fun v h3 h4 h5 hy h=>by
    have h4':k∈Region.ready md ops listed:=List.contains_iff_mem.1 h4
    refine zbH hi (Region.noSelect_spec hsel) (fun c a w h=>hQ c _ _ _ w h) h5 V (fun _ _ _ _ hA=>hA.1) ts.length listed a w hc (Region.free_spec hi h3) h4' hy ⟨hV,hX⟩ ?_
    exact ih os _ _ w hl' (hc.set h4') hB2 hV (fun h0=>hX (by rw[getD_set_ne false h5] at h0;exact h0)) h
   have alone:Region.ready md ops listed=[k]→(listed.setIfInBounds k true).getD g false=true→(∀ K:Exit→Act→World→Prop,Hid (∀ a' w',V w'→(V w'→zf6 P ops Q V X (ts.map (·.2)) os a' w')→K .normal a' w')→wpList P ops K [o] a w)→zba P md ops Q V X g (ts.length+1) listed a w:=fun h3 h4 h=>by
    have h4':k∈Region.ready md ops listed:=by rw[h3];exact List.mem_singleton.2 rfl
    exact zkO h3 hi h4 h fun a' w' hV' hT=>ih os _ a' w' hl' (hc.set h4') hB2 hV' (fun h0=>by rw[h4] at h0;cases h0) hT
   match tag,hB1,h with
   | 0,hB1,h =>
    obtain⟨v,hy,h⟩:=h
    simp only[Bool.and_eq_true,Bool.not_eq_true',beq_eq_false_iff_ne] at hB1
    obtain⟨⟨⟨h3,h4⟩,h5⟩,h6⟩:=hB1
    rw[hi] at h6
    exact quiet v h3 h4 h5 (Or.inl ⟨zbI h6,hy⟩) h
   | 1,hB1,h =>
    obtain⟨v,hy,h⟩:=h
    simp only[Bool.and_eq_true,Bool.not_eq_true',beq_eq_false_iff_ne] at hB1
    obtain⟨⟨⟨⟨h3,h4⟩,h5⟩,h6⟩,h8⟩:=hB1
    have h4':k∈Region.ready md ops listed:=List.contains_iff_mem.1 h4
    rw[hi] at h6
    refine zbH hi (Region.noSelect_spec hsel) (fun c a w h=>hQ c _ _ _ w h) h5 X (fun _ _ hc hl hA=>hA.2 (zcJ hc 60 k g h8 hl).2) ts.length listed a w hc (Region.free_spec hi h3) h4' (Or.inl ⟨zbI h6,hy⟩) ⟨hV,hX⟩ ?_
    exact ih os _ _ w hl' (hc.set h4') hB2 hV (fun h0=>hX (by rw[getD_set_ne false h5] at h0;exact h0)) h
   | 4,hB1,h =>
    obtain⟨ht,v,hy,h⟩:=h
    simp only[Bool.and_eq_true,Bool.not_eq_true',beq_eq_false_iff_ne] at hB1
    obtain⟨⟨⟨h3,h4⟩,h5⟩,h6⟩:=hB1
    exact quiet v h3 h4 h5 (Or.inl ⟨by rw[zeV hi h6 ht];simp,hy⟩) h
   | 5,hB1,h =>
    obtain⟨ht,h⟩:=h
    simp only[Bool.and_eq_true,Bool.not_eq_true',beq_eq_false_iff_ne] at hB1
    obtain⟨⟨⟨h3,h4⟩,h5⟩,h6⟩:=hB1
    exact quiet undef h3 h4 h5 (Or.inr ⟨by rw[zeV hi h6 ht];simp,rfl⟩) h
   | 6,hB1,h =>
    obtain⟨ht,h⟩:=h
    simp only[Bool.and_eq_true,decide_eq_true_eq] at hB1
    obtain⟨⟨h3,h4⟩,h6⟩:=hB1
    exact alone h3 h4 fun K HK=>zp3 (h K HK) (by rw[zeV hi h6 ht];simp)
   | 2,hB1,h =>
    simp only[Bool.and_eq_true,decide_eq_true_eq] at hB1
    exact alone hB1.1 hB1.2 h
   | 3,hB1,h =>
    simp only[Bool.and_eq_true,decide_eq_true_eq] at hB1
    exact alone hB1.1 hB1.2 h
   | n+7,hB1,h =>
    simp only[Bool.and_eq_true,decide_eq_true_eq] at hB1
    exact alone hB1.1 hB1.2 h
theorem zjV {l:List Oper}:∀ ts:List (Nat × Nat × Nat),(ts.all fun t=>decide (t.1<l.length))=true→(ts.filterMap fun t=>l[t.1]?).map some=ts.map fun t=>l.toArray[t.1]?
 | [],_=>rfl
 | t::ts,h=>by
  rw[List.all_cons,Bool.and_eq_true] at h
  have h1:t.1<l.length:=of_decide_eq_true h.1
  have h2:l[t.1]?=some (l[t.1]'h1):=List.getElem?_eq_getElem h1
  rw[List.filterMap_cons,h2]
  simp only[List.map_cons]
  rw[zjV ts h.2,List.getElem?_toArray,h2]
theorem zaY {id:Nat}{l:List Oper}{a:Act}{w:World}(V X:World→Prop)(g:Nat)(ts:List (Nat × Nat × Nat))(hm:P.follows .mixedOrders=true)(hlen:ts.length=l.length)
  (hin:(ts.all fun t=>decide (t.1<l.length))=true) (hB:(Region.noSelect l.toArray&&ziL .any l.toArray g ts (Array.replicate l.length false))=true) (hQ:∀ c (a:Act) dst v w,Q (.panic c) (a.put dst v) w→Q (.panic c) a w)
  (hV:V w.drew) (hX:X w.drew) (h0:∀ ops',Hid (ops'=l.toArray)→zf6 P ops' Q V X (ts.map (·.2)) (ts.filterMap fun t=>l[t.1]?) a w.drew):(Code.region id l.toArray true).wp P Q a w:=by
 have h:=h0 l.toArray (hid rfl)
 rw[Bool.and_eq_true] at hB
 refine wp_region_any hm (zcK (V:=V) (X:=X) (g:=g) _ _ _ _ ?_)
 have:=zde (md:=.any) (Q:=Q) (V:=V) (X:=X) (P:=P) (g:=g) hB.1 hQ ts _ (Array.replicate l.length false) a w.drew (zjV ts hin) (fun j oj _ hl=>by
  rw[Array.getD_eq_getD_getElem?,Array.getElem?_replicate] at hl
  split at hl <;> cases hl) hB.2 hV (fun _=>hX) h
 rw[hlen] at this
 have e:l.toArray.size=l.length:=by simp
 rw[e]
 exact this
theorem zaF {d:Nat}{ts:List (Nat × Nat)}{o:Oper}{os:List Oper}{a:Act}{w:World}{v:Value}(hy:∀ w,V w→(execOp a.eval o).run P w= .ok (.value v) w)(h:zf6 P ops Q V X ts os (a.put o.dst v) w):zf6 P ops Q V X ((0,d)::ts) (o::os) a w:=⟨v,hy,h⟩
theorem zfz {d:Nat}{ts:List (Nat × Nat)}{o:Oper}{os:List Oper}{a:Act}{w:World}(h:∀ K:Exit→Act→World→Prop,Hid (∀ a' w',V w'→(V w'→zf6 P ops Q V X ts os a' w')→K .normal a' w')→wpList P ops K [o] a w):zf6 P ops Q V X ((2,d)::ts) (o::os) a w:=h
theorem zbq {d:Nat}{ts:List (Nat × Nat)}{o:Oper}{os:List Oper}{a:Act}{w:World}{v:Value}(ht:a.tmps[d]?=some (.bool (zcZ o)))(hy:∀ w,V w→(execOp a.eval o).run P w= .ok (.value v) w)(h:zf6 P ops Q V X ts os (a.put o.dst v) w):zf6 P ops Q V X ((4,d)::ts) (o::os) a w:=⟨ht,v,hy,h⟩
theorem zf7 {d:Nat}{ts:List (Nat × Nat)}{o:Oper}{os:List Oper}{a:Act}{w:World}(ht:a.tmps[d]?=some (.bool (zcZ o)))(h:∀ K:Exit→Act→World→Prop,Hid (∀ a' w',V w'→(V w'→zf6 P ops Q V X ts os a' w')→K .normal a' w')→wpList P ops K [{ o with guard:=none }] a w):zf6 P ops Q V X ((6,d)::ts) (o::os) a w:=⟨ht,h⟩
theorem zbQ {a:Act}{w:World}(h:Q .normal a w):zf6 P ops Q V X [] [] a w:=h
end
section
open Go.RowKit
variable {P:Program} {ops:Array Oper} {md:Region.Mode} {Q:Exit→Act→World→Prop}
theorem zdO {V V' X:World→Prop}{g:Nat}(h:∀ w,V' w→V w):∀ (fuel:Nat) (listed:Array Bool) (a:Act) (w:World),zba P md ops Q V' X g fuel listed a w→zba P md ops Q V X g fuel listed a w
 | 0,_,_,_,h0=>h0
 | fuel+1,_,_,_,h0=>⟨h0.1,fun i hi=>wpOp_mono (fun a' w' h'=>⟨⟨h _ h'.1.1,h'.1.2⟩,zdO h fuel _ a' w' h'.2⟩) (h0.2 i hi)⟩
theorem ziM (a:Act)(d:Nat)(u v:Value):(a.put (some d) u).put (some d) v=a.put (some d) v:=by
 simp[Act.put]
theorem zfe (a:Act){d e:Nat}(h:d≠e)(u v:Value):(a.put (some d) u).put (some e) v=(a.put (some e) v).put (some d) u:=by
 simp only[Act.put]
 rw[Array.setIfInBounds_comm _ _ h]
def zpz (V:World→Prop):Prop:=∀ w w',V w→Below w.heap.size w w'→V w'
structure Flo where
 j:Nat
 d:Nat
 z:List Value
 T:TypeId
def Flo.Ok (P:Program)(ops:Array Oper)(f:Flo):Prop:=∃ o,ops[f.j]?=some o∧o.dst=some f.d∧o.guard=none∧∀ (a:Act) (w:World),(execOp a.eval o).run P w= .ok (.value (.pointer (some ⟨w.heap.size,0,none⟩))) (w.alloc (.cells f.z.toArray f.T))
def Flo.At (f:Flo)(H:Nat)(rs:List (Nat × Nat))(b:Bool)(u:Value)(w:World):Prop:=b=true→∃ p,u= .pointer (some ⟨p,0,none⟩)∧H≤p∧(∀ r∈rs,p<r.1∨r.2≤p)∧Blk w p f.z f.T
theorem Flo.At.below {f:Flo}{H:Nat}{rs:List (Nat × Nat)}{b:Bool}{u:Value}{w w':World}(h:f.At H rs b u w)(hb:Below w.heap.size w w'):f.At H rs b u w':=fun e=>let ⟨p,h1,h0,h3,h2⟩:=h e;⟨p,h1,h0,h3,h2.below hb⟩
theorem Flo.At.call {f:Flo}{H:Nat}{rs:List (Nat × Nat)}{b:Bool}{u:Value}{w w':World}(h:f.At H rs b u w)(hb:Below w.heap.size w w'):f.At H ((w.heap.size,w'.heap.size)::rs) b u w':=fun e=>by
 obtain⟨p,h1,h0,h3,h2⟩:=h e
 refine⟨p,h1,h0,fun r hr=>?_,h2.below hb⟩
 rcases List.mem_cons.1 hr with rfl|hr
 ·
  exact .inl h2.lt
 ·
  exact h3 r hr
def zfA (f f2:Flo)(b b2:Bool)(base:Array Bool):Array Bool:=(if b then (fun x:Array Bool=>x.setIfInBounds f.j true) else id) ((if b2 then (fun x:Array Bool=>x.setIfInBounds f2.j true) else id) base)
theorem zfB {f:Flo}{K:Act→World→Prop}{a:Act}{w:World}(hf:f.Ok P ops)(h:K (a.put (some f.d) (.pointer (some ⟨w.heap.size,0,none⟩))) (w.alloc (.cells f.z.toArray f.T))):wpOp P ops Q f.j K a w:=by
 obtain⟨o,h1,h2,h3,h4⟩:=hf
 unfold wpOp
 rw[h1]
 simp only
 rw[if_pos (zbI (by rw[h3];rfl))]
 refine Or.inl ?_
 unfold Oper.wp
 rw[h4]
 show K (a.put o.dst _) _
 rw[h2]
 exact h
theorem zdf {k:Nat}{o:Oper}{a:Act}{w:World}(hk:ops[k]?=some o){T:Act→World→Prop}(h:∀ K:Exit→Act→World→Prop,Hid (∀ a' w',T a' w'→K .normal a' w')→wpList P ops K [o] a w):wpOp P ops Q k T a w:=by
 have h2:=h (fun e a' w'=>match e with | .normal=>T a' w'|e=>Q e a' w') (hid fun a' w' h=>h)
 unfold wpOp
 simp only[hk]
 rw[wpList] at h2
 split at h2
 ·
  rename_i hw
  simp only[hw,if_true]
  exact h2.imp (znQ (fun _ _ h=>h) (fun _ _ _ h=>h) (fun h=>h)) (fun h=>⟨h.1,h.2⟩)
 ·
  rename_i hw
  simp only[hw]
  exact h2
def zlB (p:Nat):Value:=.pointer (some ⟨p,0,none⟩)
def zf8 (f f2:Flo)(a:Act)(u u2:Value):Act:=(a.put (some f.d) u).put (some f2.d) u2
def seqF (P:Program)(ops:Array Oper)(Q:Exit→Act→World→Prop)(H:Nat)(f f2:Flo)(ts2:List (Nat × Nat))(os2:List Oper):List (Nat × Nat)→List Nat→List Oper→(World→Prop)→Act→Prop
 | rs,0::ts,o::os,V,a0=>∃ v,(∀ u u2 w,V w→(execOp (zf8 f f2 a0 u u2).eval o).run P w= .ok (.value v) w)∧seqF P ops Q H f f2 ts2 os2 rs ts os V (a0.put o.dst v)
 | rs,_::ts,o::os,V,a0=>∀ u u2 w,V w→∀ K:Exit→Act→World→Prop,Hid (∀ v w' (V':World→Prop),zpz V'→(∀ w,V' w→V w)→(∀ W,V' W→w'.heap.size≤W.heap.size)→V' w'→Below w.heap.size w w'→seqF P ops Q H f f2 ts2 os2 ((w.heap.size,w'.heap.size)::rs) ts os V' (a0.put o.dst v)→K .normal ((zf8 f f2 a0 u u2).put o.dst v) w')→wpList P ops K [o] (zf8 f f2 a0 u u2) w
 | rs,_,_,V,a0=>∀ p p2 w,V w→p≠p2→H≤p→H≤p2→(∀ r∈rs,p<r.1∨r.2≤p)→(∀ r∈rs,p2<r.1∨r.2≤p2)→Blk w p f.z f.T→Blk w p2 f2.z f2.T→zf6 P ops Q V (fun _=>True) ts2 os2 (zf8 f f2 a0 (zlB p) (zlB p2)) w
def zpA:List (Bool × Bool):=[(false,false),(false,true),(true,false),(true,true)]
def plF (md:Region.Mode)(ops:Array Oper)(g:Nat)(f f2:Flo)(ts2:List (Nat × Nat × Nat)):List (Nat × Nat)→Array Bool→Bool
 | [],base=>ziL md ops g ts2 (zfA f f2 true true base)&&[(false,false),(false,true),(true,false)].all fun b =>
   (Region.ready md ops (zfA f f2 b.1 b.2 base)).all (fun i=>(!b.1&&i == f.j)||(!b.2&&i == f2.j)) && !(Region.ready md ops (zfA f f2 b.1 b.2 base)).isEmpty
 | (k,t)::ts,base=>(!(k == f.j) && !(k == f2.j) && !(k == g)&&zpA.all fun b=>match t with
   | 0=>Region.free md ops (zfA f f2 b.1 b.2 base) k&&(Region.ready md ops (zfA f f2 b.1 b.2 base)).contains k&&((ops[k]?).map fun o=>o.guard.isNone).getD false&&((ops[k]?).map fun o=>decide (o.dst≠some f.d)&&decide (o.dst≠some f2.d)).getD false
   | _=>(Region.ready md ops (zfA f f2 b.1 b.2 base)).contains k&&(Region.ready md ops (zfA f f2 b.1 b.2 base)).all (fun i=>i == k||(!b.1&&i == f.j)||(!b.2&&i == f2.j))&&((ops[k]?).map fun o=>decide (o.dst≠some f.d)&&decide (o.dst≠some f2.d)).getD false)&&plF md ops g f f2 ts2 ts (base.setIfInBounds k true)
def zoI (b b2:Bool):Nat:=(if b then 0 else 1)+(if b2 then 0 else 1)
theorem ziN {f f2:Flo}{b b2:Bool}{base:Array Bool}(k:Nat):(zfA f f2 b b2 base).setIfInBounds k true=zfA f f2 b b2 (base.setIfInBounds k true):=by
 have hc:∀ (x:Array Bool) (i j:Nat),(x.setIfInBounds i true).setIfInBounds j true=(x.setIfInBounds j true).setIfInBounds i true:=fun x i j=>by
  by_cases h:i=j
  ·
   subst h;rfl
  ·
   rw[Array.setIfInBounds_comm _ _ h]
 unfold zfA
 cases b <;> cases b2 <;> simp only[if_true,if_false,Bool.false_eq_true,id]
 ·
  rw[hc]
 ·
  rw[hc]
 ·
  rw[hc,hc base]
theorem mark1 {f f2:Flo}{b2:Bool}{base:Array Bool}:(zfA f f2 false b2 base).setIfInBounds f.j true=zfA f f2 true b2 base:=by
 unfold zfA;cases b2 <;> rfl
theorem mark2 {f f2:Flo}{b:Bool}{base:Array Bool}:(zfA f f2 b false base).setIfInBounds f2.j true=zfA f f2 b true base:=by
 have hc:∀ (x:Array Bool) (i j:Nat),(x.setIfInBounds i true).setIfInBounds j true=(x.setIfInBounds j true).setIfInBounds i true:=fun x i j=>by
  by_cases h:i=j
  ·
   subst h;rfl
  ·
   rw[Array.setIfInBounds_comm _ _ h]
 unfold zfA
 cases b <;> simp only[if_true,if_false,Bool.false_eq_true,id]
 rw[hc]
theorem ziO {f f2:Flo}{a:Act}{u u2 v:Value}{dst:Option Nat}(h:dst≠some f.d)(h2:dst≠some f2.d):(zf8 f f2 a u u2).put dst v=zf8 f f2 (a.put dst v) u u2:=by
 cases dst with
 | none=>rfl
 | some e =>
  have h:e≠f.d:=fun e2=>h (by rw[e2])
  have h2:e≠f2.d:=fun e2=>h2 (by rw[e2])
  unfold zf8
  rw[zfe _ (Ne.symm h2),zfe _ (Ne.symm h)]
theorem actF_d {f f2:Flo}{a:Act}{u u2 v:Value}(h:f.d≠f2.d):(zf8 f f2 a u u2).put (some f.d) v=zf8 f f2 a v u2:=by
 unfold zf8
 rw[zfe _ (Ne.symm h),ziM]
theorem zp4 {f f2:Flo}{a:Act}{u u2 v:Value}:(zf8 f f2 a u u2).put (some f2.d) v=zf8 f f2 a u v:=by
 unfold zf8
 rw[ziM]
theorem ziP {f f2:Flo}(hf:f.Ok P ops)(hf2:f2.Ok P ops)(hd:f.d≠f2.d){V:World→Prop}(hS:zpz V){H:Nat}{rs:List (Nat × Nat)}(hH:∀ w,V w→H≤w.heap.size)(hR:∀ w,V w→∀ r∈rs,r.2≤w.heap.size){g:Nat}{base:Array Bool}{a0:Act}{n fuel:Nat}
  (ih:∀ b b2 u u2 w,zoI b b2=n→zbe md ops (zfA f f2 b b2 base)→V w→f.At H rs b u w→f2.At H rs b2 u2 w→(b=true→b2=true→u≠u2)→zba P md ops Q V (fun _=>True) g fuel (zfA f f2 b b2 base) (zf8 f f2 a0 u u2) w)
  {b b2:Bool} {u u2:Value} {w:World} (hn:zoI b b2=n+1) (hc:zbe md ops (zfA f f2 b b2 base)) (hV:V w) (h1:f.At H rs b u w) (h2:f2.At H rs b2 u2 w) {i:Nat} (hr:i∈Region.ready md ops (zfA f f2 b b2 base)) (hi:(!b&&i == f.j)=true∨(!b2&&i == f2.j)=true) :
  wpOp P ops Q i (fun a' w'=>AtG V (fun _=>True) g ((zfA f f2 b b2 base).setIfInBounds i true) w'∧zba P md ops Q V (fun _=>True) g fuel ((zfA f f2 b b2 base).setIfInBounds i true) a' w') (zf8 f f2 a0 u u2) w:=by
 rcases hi with hi|hi
 ·
  simp only[Bool.and_eq_true,Bool.not_eq_true',beq_iff_eq] at hi
  obtain⟨rfl,rfl⟩:=hi
  have hb:Below w.heap.size w (w.alloc (.cells f.z.toArray f.T)):=(Below.refl _ _).alloc (Nat.le_refl _) _
  refine zfB hf ⟨⟨hS _ _ hV hb,fun _=>trivial⟩,?_⟩
  have hc':=hc.set hr
  rw[mark1] at hc' ⊢
  rw[actF_d hd]
  refine ih true b2 _ u2 _ ?_ hc' (hS _ _ hV hb) (fun _=>⟨_,rfl,hH w hV,fun r hr=> .inr (hR w hV r hr),Blk.new w f.z f.T⟩) (h2.below hb) fun _ e=>?_
  ·
   cases b2 <;> simp[zoI] at hn ⊢ <;> omega
  ·
   obtain⟨p,rfl,-,-,hp⟩:=h2 e
   intro e2
   have:=hp.lt
   injection e2 with e2;injection e2 with e2;injection e2 with e2
   omega
 ·
  simp only[Bool.and_eq_true,Bool.not_eq_true',beq_iff_eq] at hi
  obtain⟨rfl,rfl⟩:=hi
  have hb:Below w.heap.size w (w.alloc (.cells f2.z.toArray f2.T)):=(Below.refl _ _).alloc (Nat.le_refl _) _
  refine zfB hf2 ⟨⟨hS _ _ hV hb,fun _=>trivial⟩,?_⟩
  have hc':=hc.set hr
  rw[mark2] at hc' ⊢
  rw[zp4]
  refine ih b true u _ _ ?_ hc' (hS _ _ hV hb) (h1.below hb) (fun _=>⟨_,rfl,hH w hV,fun r hr=> .inr (hR w hV r hr),Blk.new w f2.z f2.T⟩) fun e _=>?_
  ·
   cases b <;> simp[zoI] at hn ⊢ <;> omega
  ·
   obtain⟨p,rfl,-,-,hp⟩:=h1 e
   intro e2
   have:=hp.lt
   injection e2 with e2;injection e2 with e2;injection e2 with e2
   omega
theorem zfC (b b2:Bool):(b,b2)∈zpA:=by cases b <;> cases b2 <;> decide
theorem zjW (hsel:Region.noSelect ops=true)(hQ:∀ c (a:Act) dst v w,Q (.panic c) (a.put dst v) w→Q (.panic c) a w){f f2:Flo}(hf:f.Ok P ops)(hf2:f2.Ok P ops)(hd:f.d≠f2.d){g H:Nat}
  (ts2:List (Nat × Nat × Nat)) (os2:List Oper) (hos2:os2.map some=ts2.map (fun t=>ops[t.1]?)) (ts:List (Nat × Nat)):∀ (rs:List (Nat × Nat)) (os:List Oper) (V:World→Prop) (a0:Act) (base:Array Bool),
  os.map some=ts.map (fun t=>ops[t.1]?)→plF md ops g f f2 ts2 ts base=true→zpz V→(∀ w,V w→H≤w.heap.size)→(∀ w,V w→∀ r∈rs,r.2≤w.heap.size)→seqF P ops Q H f f2 (ts2.map (·.2)) os2 rs (ts.map (·.2)) os V a0 →
  ∀ (n:Nat) b b2 u u2 w,zoI b b2=n→zbe md ops (zfA f f2 b b2 base)→V w→f.At H rs b u w→f2.At H rs b2 u2 w→(b=true→b2=true→u≠u2) →
   zba P md ops Q V (fun _=>True) g (n+ts.length+ts2.length) (zfA f f2 b b2 base) (zf8 f f2 a0 u u2) w:=by
 induction ts with
 | nil =>
  intro rs os V a0 base hl hB hS hH hR h n
  unfold plF at hB
  obtain⟨hB1,hB2⟩:=(Bool.and_eq_true _ _).mp hB
  induction n with
  | zero =>
   intro b b2 u u2 w hp hc hV h1 h2 hne
   obtain⟨rfl,rfl⟩:b=true∧b2=true:=by cases b <;> cases b2 <;> simp[zoI] at hp ⊢
   obtain⟨p,rfl,hq1,hr1,hp1⟩:=h1 rfl
   obtain⟨p2,rfl,hq2,hr2,hp2⟩:=h2 rfl
   have hpp:p≠p2:=fun e=>hne rfl rfl (by rw[e])
   have hs:zf6 P ops Q V (fun _=>True) (ts2.map (·.2)) os2 (zf8 f f2 a0 (zlB p) (zlB p2)) w:=by
    cases os with
    | nil=>exact h p p2 w hV hpp hq1 hq2 hr1 hr2 hp1 hp2
    | cons o os=>simp at hl
   have:=zde (md:=md) (g:=g) hsel hQ ts2 os2 _ (zf8 f f2 a0 (zlB p) (zlB p2)) w hos2 hc hB1 hV (fun _=>trivial) hs
   simpa [zlB] using this
  | succ n ihn =>
   intro b b2 u u2 w hp hc hV h1 h2 hne
   have hbb:(b,b2)∈[(false,false),(false,true),(true,false)]:=by cases b <;> cases b2 <;> simp[zoI] at hp ⊢
   have hck:=List.all_eq_true.1 hB2 _ hbb
   simp only[Bool.and_eq_true] at hck
   obtain⟨hall,hne2⟩:=hck
   rw[show n+1+([]:List (Nat × Nat)).length+ts2.length=(n+([]:List (Nat × Nat)).length+ts2.length)+1 by simp;omega]
   refine⟨fun e=>?_,fun i hi=>?_⟩
   ·
    rw[e] at hne2;simp at hne2
   ·
    have hi2:=List.all_eq_true.1 hall i hi
    rw[Bool.or_eq_true] at hi2
    exact ziP hf hf2 hd hS hH hR (fun b b2 u u2 w hp hc hV h1 h2 hne=>ihn b b2 u u2 w hp hc hV h1 h2 hne) hp hc hV h1 h2 hi hi2
 | cons t ts ih =>
  intro rs os V a0 base hl hB hS hH hR h
  obtain⟨k,tag⟩:=t
  cases os with
  | nil=>simp at hl
  | cons o os =>
   rw[List.map_cons,List.map_cons] at hl
   obtain⟨hi0,hl'⟩:=List.cons.inj hl
   have hi:ops[k]?=some o:=hi0.symm
   clear hl hi0
   unfold plF at hB
   obtain⟨hB1,hB2⟩:=(Bool.and_eq_true _ _).mp hB
   obtain⟨hB3,hB4⟩:=(Bool.and_eq_true _ _).mp hB1
   simp only[Bool.and_eq_true,Bool.not_eq_true',beq_eq_false_iff_ne] at hB3
   obtain⟨⟨hkf,hkf2⟩,hkg⟩:=hB3
   rw[List.map_cons] at h
   rcases tag with _|tag
   ·
    obtain⟨v,hy,h⟩:=h
    intro n b b2 u u2 w hp hc hV h1 h2 hne
    have hck:=List.all_eq_true.1 hB4 _ (zfC b b2)
    simp only[Bool.and_eq_true] at hck
    obtain⟨⟨⟨h3,h4⟩,h6⟩,h7⟩:=hck
    rw[hi] at h6 h7
    simp only[Option.map_some,Option.getD_some,Bool.and_eq_true,decide_eq_true_eq] at h7
    have h4':k∈Region.ready md ops (zfA f f2 b b2 base):=List.contains_iff_mem.1 h4
    rw[show n+((k,0)::ts).length+ts2.length=(n+ts.length+ts2.length)+1 by simp;omega]
    refine zbH hi (Region.noSelect_spec hsel) (fun c a w h=>hQ c _ _ _ w h) hkg V (fun _ _ _ _ hA=>hA.1) _ _ _ w hc (Region.free_spec hi h3) h4' (Or.inl ⟨zbI h6,hy u u2⟩) ⟨hV,fun _=>trivial⟩ ?_
    have hc':=hc.set h4'
    rw[ziN] at hc' ⊢
    rw[ziO h7.1 h7.2]
    exact ih rs os V _ _ hl' hB2 hS hH hR h n b b2 u u2 w hp hc' hV h1 h2 hne
   ·
    intro n
    induction n with
    | zero =>
     intro b b2 u u2 w hp hc hV h1 h2 hne
     have hck:=List.all_eq_true.1 hB4 _ (zfC b b2)
     simp only[Bool.and_eq_true] at hck
     obtain⟨⟨h4,h5⟩,h7⟩:=hck
     rw[hi] at h7
     simp only[Option.map_some,Option.getD_some,Bool.and_eq_true,decide_eq_true_eq] at h7
     have h4':k∈Region.ready md ops (zfA f f2 b b2 base):=List.contains_iff_mem.1 h4
     obtain⟨rfl,rfl⟩:b=true∧b2=true:=by cases b <;> cases b2 <;> simp[zoI] at hp ⊢
     rw[show 0+((k,tag+1)::ts).length+ts2.length=(0+ts.length+ts2.length)+1 by simp;omega]
     refine⟨fun e=>(by rw[e] at h4';cases h4'),fun i hir=>?_⟩
     have hi2:=List.all_eq_true.1 h5 i hir
     simp at hi2
     subst hi2
     refine zdf hi fun K HK=>h u u2 w hV K (hid fun v w' V' hS' hw' hsz hV' hb hseq=>HK.out _ _ ⟨⟨hw' _ hV',fun _=>trivial⟩,zdO hw' _ _ _ _ ?_⟩)
     have hc':=hc.set h4'
     rw[ziN] at hc' ⊢
     rw[ziO h7.1 h7.2]
     exact ih _ os V' _ _ hl' hB2 hS' (fun w h=>hH w (hw' w h)) (fun W hW r hr=>by
      rcases List.mem_cons.1 hr with rfl|hr
      ·
       exact hsz W hW
      ·
       exact hR W (hw' W hW) r hr) hseq 0 true true u u2 w' rfl hc' hV' (h1.call hb) (h2.call hb) hne
    | succ n ihn =>
     intro b b2 u u2 w hp hc hV h1 h2 hne
     have hck:=List.all_eq_true.1 hB4 _ (zfC b b2)
     simp only[Bool.and_eq_true] at hck
     obtain⟨⟨h4,h5⟩,h7⟩:=hck
     rw[hi] at h7
     simp only[Option.map_some,Option.getD_some,Bool.and_eq_true,decide_eq_true_eq] at h7
     have h4':k∈Region.ready md ops (zfA f f2 b b2 base):=List.contains_iff_mem.1 h4
     rw[show n+1+((k,tag+1)::ts).length+ts2.length=(n+1+ts.length+ts2.length)+1 by simp;omega]
     refine⟨fun e=>(by rw[e] at h4';cases h4'),fun i hir=>?_⟩
     have hi2:=List.all_eq_true.1 h5 i hir
     simp only[Bool.or_eq_true] at hi2
     rcases hi2 with (hi2|hi2)|hi2
     ·
      have hi2:i=k:=by simpa using hi2
      subst hi2
      refine zdf hi fun K HK=>h u u2 w hV K (hid fun v w' V' hS' hw' hsz hV' hb hseq=>HK.out _ _ ⟨⟨hw' _ hV',fun _=>trivial⟩,zdO hw' _ _ _ _ ?_⟩)
      have hc':=hc.set h4'
      rw[ziN] at hc' ⊢
      rw[ziO h7.1 h7.2]
      exact ih _ os V' _ _ hl' hB2 hS' (fun w h=>hH w (hw' w h)) (fun W hW r hr=>by
      rcases List.mem_cons.1 hr with rfl|hr
      ·
       exact hsz W hW
      ·
       exact hR W (hw' W hW) r hr) hseq (n+1) b b2 u u2 w' hp hc' hV' (h1.call hb) (h2.call hb) hne
     ·
      rw[show n+1+ts.length+ts2.length=n+((k,tag+1)::ts).length+ts2.length by simp;omega]
      exact ziP hf hf2 hd hS hH hR (fun b b2 u u2 w hp hc hV h1 h2 hne=>ihn b b2 u u2 w hp hc hV h1 h2 hne) hp hc hV h1 h2 hir (.inl hi2)
     ·
      rw[show n+1+ts.length+ts2.length=n+((k,tag+1)::ts).length+ts2.length by simp;omega]
      exact ziP hf hf2 hd hS hH hR (fun b b2 u u2 w hp hc hV h1 h2 hne=>ihn b b2 u u2 w hp hc hV h1 h2 hne) hp hc hV h1 h2 hir (.inr hi2)
theorem zgs (a:Act)(d:Nat):a.put (some d) (a.tmps.getD d undef)=a:=by
 have h:a.tmps.setIfInBounds d (a.tmps.getD d undef)=a.tmps:=by
  apply Array.ext
  ·
   simp
  ·
   intro i h1 h2
   rw[Array.getElem_setIfInBounds]
   split
   ·
    rename_i e
    subst e
    simp[Array.getD,h2]
   ·
    rfl
 show { a with tmps:=a.tmps.setIfInBounds d (a.tmps.getD d undef) }=a
 rw[h]
theorem znR (f f2:Flo)(a:Act):zf8 f f2 a (a.tmps.getD f.d undef) (a.tmps.getD f2.d undef)=a:=by
 unfold zf8
 rw[zgs,zgs]
theorem zpB {l:List Oper}:∀ ts:List (Nat × Nat),(ts.all fun t=>decide (t.1<l.length))=true→(ts.filterMap fun t=>l[t.1]?).map some=ts.map fun t=>l.toArray[t.1]?:=zp2
theorem zha {id:Nat}{l:List Oper}{a:Act}{w:World}(V:World→Prop)(g:Nat)(f f2:Flo)(ts:List (Nat × Nat))(ts2:List (Nat × Nat × Nat))(hm:P.follows .mixedOrders=true)(hlen:2+ts.length+ts2.length=l.length)
  (hin:(ts.all fun t=>decide (t.1<l.length))=true) (hin2:(ts2.all fun t=>decide (t.1<l.length))=true) (hB:(Region.noSelect l.toArray&&plF .any l.toArray g f f2 ts2 ts (Array.replicate l.length false))=true)
  (hQ:∀ c (a:Act) dst v w,Q (.panic c) (a.put dst v) w→Q (.panic c) a w) (hf:f.Ok P l.toArray) (hf2:f2.Ok P l.toArray) (hd:f.d≠f2.d) (hS:zpz V) (H:Nat) (hH:∀ w,V w→H≤w.heap.size) (hV:V w.drew)
  (h0:∀ ops',Hid (ops'=l.toArray)→seqF P ops' Q H f f2 (ts2.map (·.2)) (ts2.filterMap fun t=>l[t.1]?) [] (ts.map (·.2)) (ts.filterMap fun t=>l[t.1]?) V a):(Code.region id l.toArray true).wp P Q a w:=by
 have h:=h0 l.toArray (hid rfl)
 rw[Bool.and_eq_true] at hB
 refine wp_region_any hm (zcK (V:=V) (X:=fun _=>True) (g:=g) _ _ _ _ ?_)
 have:=zjW (md:=.any) (Q:=Q) (P:=P) (g:=g) hB.1 hQ hf hf2 hd ts2 _ (zjV ts2 hin2) ts [] _ V a (Array.replicate l.length false) (zpB ts hin) hB.2 hS hH (fun _ _ r hr=>by cases hr) h 2 false false (a.tmps.getD f.d undef) (a.tmps.getD f2.d undef) w.drew rfl
  (show zbe _ _ (Array.replicate l.length false) from fun j oj _ hl=>by
   rw[Array.getD_eq_getD_getElem?,Array.getElem?_replicate] at hl
   split at hl <;> cases hl) hV (fun e=>by cases e) (fun e=>by cases e) (fun e=>by cases e)
 rw[znR,hlen] at this
 have e:l.toArray.size=l.length:=by simp
 rw[e]
 exact this
end
section
open Go.RowKit
variable {P:Program} {ops:Array Oper} {md:Region.Mode} {Q:Exit→Act→World→Prop}
def zcc (n0 lo hi:Nat)(w:World)(P:World→Prop):Prop:=∀ w',(∀ b,(b<n0∨(lo≤b∧b<hi))→w'.heap[b]?=w.heap[b]?)→P w'
theorem zcc.here {n0 lo hi:Nat}{w:World}{P:World→Prop}(h:zcc n0 lo hi w P):P w:=h w fun _ _=>rfl
theorem zcc.below {n0 lo hi:Nat}{w w':World}{P:World→Prop}(h:zcc n0 lo hi w P)(h0:n0≤w.heap.size)(h1:hi≤w.heap.size)(hb:Below w.heap.size w w'):zcc n0 lo hi w' P:=fun w2 hw2=>h w2 fun b hc=>(hw2 b hc).trans (hb.block b (by omega))
theorem zcc.set {n0 lo hi p j:Nat}{w:World}{P:World→Prop}(h:zcc n0 lo hi w P)(h0:n0≤p)(h1:p<lo∨hi≤p)(u:Value):zcc n0 lo hi (w.setCell ⟨p,j,none⟩ u) P:=fun w2 hw2=>h w2 fun b hc=>(hw2 b hc).trans (Below.heap_setCell _ _ _ b (by show b≠p;omega))
theorem zgt {n0 lo:Nat}{w:World}{P:World→Prop}(h:zap n0 lo w P):zcc n0 lo w.heap.size w P:=fun w' hw'=>h w' fun b hb hc=>hw' b (hc.imp id fun h=>⟨h,hb⟩)
def zbw (f:Flo)(a:Act)(u:Value):Act:=a.put (some f.d) u
def zmk (P:Program)(ops:Array Oper)(Q:Exit→Act→World→Prop)(H:Nat)(f:Flo)(ts2:List (Nat × Nat))(os2:List Oper):List (Nat × Nat)→List Nat→List Oper→(World→Prop)→Act→Prop
 | rs,0::ts,o::os,V,a0=>∃ v,(∀ u w,V w→(execOp (zbw f a0 u).eval o).run P w= .ok (.value v) w)∧zmk P ops Q H f ts2 os2 rs ts os V (a0.put o.dst v)
 | rs,_::ts,o::os,V,a0=>∀ u w,V w→∀ K:Exit→Act→World→Prop,Hid (∀ v w' (V':World→Prop),zpz V'→(∀ w,V' w→V w)→(∀ W,V' W→w'.heap.size≤W.heap.size)→V' w'→Below w.heap.size w w'→zmk P ops Q H f ts2 os2 ((w.heap.size,w'.heap.size)::rs) ts os V' (a0.put o.dst v)→K .normal ((zbw f a0 u).put o.dst v) w')→wpList P ops K [o] (zbw f a0 u) w
 | rs,_,_,V,a0=>∀ p w,V w→H≤p→(∀ r∈rs,p<r.1∨r.2≤p)→Blk w p f.z f.T→zf6 P ops Q V (fun _=>True) ts2 os2 (zbw f a0 (zlB p)) w
theorem zcz {H:Nat}{f:Flo}{ts2:List (Nat × Nat)}{os2:List Oper}{rs:List (Nat × Nat)}{ts:List Nat}{o:Oper}{os:List Oper}{V:World→Prop}{a0:Act}{v:Value}(hy:∀ u w,V w→(execOp (zbw f a0 u).eval o).run P w= .ok (.value v) w)(h:zmk P ops Q H f ts2 os2 rs ts os V (a0.put o.dst v)):zmk P ops Q H f ts2 os2 rs (0::ts) (o::os) V a0:=⟨v,hy,h⟩
def zce (f:Flo)(b:Bool)(base:Array Bool):Array Bool:=if b then base.setIfInBounds f.j true else base
def plF1 (md:Region.Mode)(ops:Array Oper)(g:Nat)(f:Flo)(ts2:List (Nat × Nat × Nat)):List (Nat × Nat)→Array Bool→Bool
 | [],base=>ziL md ops g ts2 (zce f true base)&&((Region.ready md ops (zce f false base)).all (fun i=>i == f.j) && !(Region.ready md ops (zce f false base)).isEmpty)
 | (k,t)::ts,base=>(!(k == f.j) && !(k == g)&&[false,true].all fun b=>match t with
   | 0=>Region.free md ops (zce f b base) k&&(Region.ready md ops (zce f b base)).contains k&&((ops[k]?).map fun o=>o.guard.isNone).getD false&&((ops[k]?).map fun o=>decide (o.dst≠some f.d)).getD false
   | _=>(Region.ready md ops (zce f b base)).contains k&&(Region.ready md ops (zce f b base)).all (fun i=>i == k||(!b&&i == f.j))&&((ops[k]?).map fun o=>decide (o.dst≠some f.d)).getD false)&&plF1 md ops g f ts2 ts (base.setIfInBounds k true)
theorem zjX {f:Flo}{b:Bool}{base:Array Bool}(k:Nat):(zce f b base).setIfInBounds k true=zce f b (base.setIfInBounds k true):=by
 cases b
 ·
  rfl
 ·
  show (base.setIfInBounds f.j true).setIfInBounds k true=(base.setIfInBounds k true).setIfInBounds f.j true
  by_cases h:f.j=k
  ·
   rw[h]
  ·
   rw[Array.setIfInBounds_comm _ _ h]
theorem zjY {f:Flo}{a:Act}{u v:Value}{dst:Option Nat}(h:dst≠some f.d):(zbw f a u).put dst v=zbw f (a.put dst v) u:=by
 cases dst with
 | none=>rfl
 | some e =>
  have h:e≠f.d:=fun e2=>h (by rw[e2])
  unfold zbw
  rw[zfe _ (Ne.symm h)]
theorem zp5 {f:Flo}{a:Act}{u v:Value}:(zbw f a u).put (some f.d) v=zbw f a v:=ziM _ _ _ _
theorem zjZ {f:Flo}(hf:f.Ok P ops){V:World→Prop}(hS:zpz V){H:Nat}{rs:List (Nat × Nat)}(hH:∀ w,V w→H≤w.heap.size)(hR:∀ w,V w→∀ r∈rs,r.2≤w.heap.size){g:Nat}{base:Array Bool}{a0:Act}{fuel:Nat}
  (ih:∀ u w,zbe md ops (zce f true base)→V w→f.At H rs true u w→zba P md ops Q V (fun _=>True) g fuel (zce f true base) (zbw f a0 u) w)
  {u:Value} {w:World} (hc:zbe md ops (zce f false base)) (hV:V w) {i:Nat} (hr:i∈Region.ready md ops (zce f false base)) (hi:i=f.j) :
  wpOp P ops Q i (fun a' w'=>AtG V (fun _=>True) g ((zce f false base).setIfInBounds i true) w'∧zba P md ops Q V (fun _=>True) g fuel ((zce f false base).setIfInBounds i true) a' w') (zbw f a0 u) w:=by
 subst hi
 have hb:Below w.heap.size w (w.alloc (.cells f.z.toArray f.T)):=(Below.refl _ _).alloc (Nat.le_refl _) _
 refine zfB hf ⟨⟨hS _ _ hV hb,fun _=>trivial⟩,?_⟩
 have hc':=hc.set hr
 rw[zp5]
 exact ih _ _ hc' (hS _ _ hV hb) (fun _=>⟨_,rfl,hH w hV,fun r hr=> .inr (hR w hV r hr),Blk.new w f.z f.T⟩)
def zhJ (b:Bool):Nat:=if b then 0 else 1
theorem zj0 (b:Bool):b∈[false,true]:=by cases b <;> decide
theorem ziQ (hsel:Region.noSelect ops=true)(hQ:∀ c (a:Act) dst v w,Q (.panic c) (a.put dst v) w→Q (.panic c) a w){f:Flo}(hf:f.Ok P ops){g H:Nat}
  (ts2:List (Nat × Nat × Nat)) (os2:List Oper) (hos2:os2.map some=ts2.map (fun t=>ops[t.1]?)) (ts:List (Nat × Nat)):∀ (rs:List (Nat × Nat)) (os:List Oper) (V:World→Prop) (a0:Act) (base:Array Bool),
  os.map some=ts.map (fun t=>ops[t.1]?)→plF1 md ops g f ts2 ts base=true→zpz V→(∀ w,V w→H≤w.heap.size)→(∀ w,V w→∀ r∈rs,r.2≤w.heap.size)→zmk P ops Q H f (ts2.map (·.2)) os2 rs (ts.map (·.2)) os V a0 →
  ∀ b u w,zbe md ops (zce f b base)→V w→f.At H rs b u w →
   zba P md ops Q V (fun _=>True) g (zhJ b+ts.length+ts2.length) (zce f b base) (zbw f a0 u) w:=by
 induction ts with
 | nil =>
  intro rs os V a0 base hl hB hS hH hR h
  unfold plF1 at hB
  obtain⟨hB1,hB2⟩:=(Bool.and_eq_true _ _).mp hB
  have hup:∀ u w,zbe md ops (zce f true base)→V w→f.At H rs true u w→zba P md ops Q V (fun _=>True) g (0+([]:List (Nat × Nat)).length+ts2.length) (zce f true base) (zbw f a0 u) w:=by
   intro u w hc hV h1
   obtain⟨p,rfl,hq1,hr1,hp1⟩:=h1 rfl
   have hs:zf6 P ops Q V (fun _=>True) (ts2.map (·.2)) os2 (zbw f a0 (zlB p)) w:=by
    cases os with
    | nil=>exact h p w hV hq1 hr1 hp1
    | cons o os=>simp at hl
   have:=zde (md:=md) (g:=g) hsel hQ ts2 os2 _ (zbw f a0 (zlB p)) w hos2 hc hB1 hV (fun _=>trivial) hs
   simpa [zlB] using this
  intro b u w hc hV h1
  cases b with
  | true=>exact hup u w hc hV h1
  | false =>
   obtain⟨hall,hne2⟩:=(Bool.and_eq_true _ _).mp hB2
   show zba P md ops Q V (fun _=>True) g (1+([]:List (Nat × Nat)).length+ts2.length) _ _ _
   rw[show 1+([]:List (Nat × Nat)).length+ts2.length=(0+([]:List (Nat × Nat)).length+ts2.length)+1 by simp;omega]
   refine⟨fun e=>?_,fun i hi=>?_⟩
   ·
    rw[e] at hne2;simp at hne2
   ·
    have hi2:=List.all_eq_true.1 hall i hi
    exact zjZ hf hS hH hR hup hc hV hi (by simpa using hi2)
 | cons t ts ih =>
  intro rs os V a0 base hl hB hS hH hR h
  obtain⟨k,tag⟩:=t
  cases os with
  | nil=>simp at hl
  | cons o os =>
   rw[List.map_cons,List.map_cons] at hl
   obtain⟨hi0,hl'⟩:=List.cons.inj hl
   have hi:ops[k]?=some o:=hi0.symm
   clear hl hi0
   unfold plF1 at hB
   obtain⟨hB1,hB2⟩:=(Bool.and_eq_true _ _).mp hB
   obtain⟨hB3,hB4⟩:=(Bool.and_eq_true _ _).mp hB1
   simp only[Bool.and_eq_true,Bool.not_eq_true',beq_eq_false_iff_ne] at hB3
   obtain⟨hkf,hkg⟩:=hB3
   rw[List.map_cons] at h
   rcases tag with _|tag
   ·
    obtain⟨v,hy,h⟩:=h
    intro b u w hc hV h1
    have hck:=List.all_eq_true.1 hB4 _ (zj0 b)
    simp only[Bool.and_eq_true] at hck
    obtain⟨⟨⟨h3,h4⟩,h6⟩,h7⟩:=hck
    rw[hi] at h6 h7
    simp only[Option.map_some,Option.getD_some,decide_eq_true_eq] at h7
    have h4':k∈Region.ready md ops (zce f b base):=List.contains_iff_mem.1 h4
    rw[show zhJ b+((k,0)::ts).length+ts2.length=(zhJ b+ts.length+ts2.length)+1 by simp;omega]
    refine zbH hi (Region.noSelect_spec hsel) (fun c a w h=>hQ c _ _ _ w h) hkg V (fun _ _ _ _ hA=>hA.1) _ _ _ w hc (Region.free_spec hi h3) h4' (Or.inl ⟨zbI h6,hy u⟩) ⟨hV,fun _=>trivial⟩ ?_
    have hc':=hc.set h4'
    rw[zjX] at hc' ⊢
    rw[zjY h7]
    exact ih rs os V _ _ hl' hB2 hS hH hR h b u w hc' hV h1
   ·
    have hstep:∀ b u w (n:Nat),n=zhJ b→zbe md ops (zce f b base)→V w→f.At H rs b u w→k∈Region.ready md ops (zce f b base)→o.dst≠some f.d →
      wpOp P ops Q k (fun a' w'=>AtG V (fun _=>True) g ((zce f b base).setIfInBounds k true) w'∧zba P md ops Q V (fun _=>True) g (zhJ b+ts.length+ts2.length) ((zce f b base).setIfInBounds k true) a' w') (zbw f a0 u) w:=by
     intro b u w n _ hc hV h1 h4' h7
     refine zdf hi fun K HK=>h u w hV K (hid fun v w' V' hS' hw' hsz hV' hb hseq=>HK.out _ _ ⟨⟨hw' _ hV',fun _=>trivial⟩,zdO hw' _ _ _ _ ?_⟩)
     have hc':=hc.set h4'
     rw[zjX] at hc' ⊢
     rw[zjY h7]
     exact ih _ os V' _ _ hl' hB2 hS' (fun w h=>hH w (hw' w h)) (fun W hW r hr=>by
      rcases List.mem_cons.1 hr with rfl|hr
      ·
       exact hsz W hW
      ·
       exact hR W (hw' W hW) r hr) hseq b u w' hc' hV' (h1.call hb)
    have hfacts:∀ b,(k∈Region.ready md ops (zce f b base))∧(∀ i∈Region.ready md ops (zce f b base),(i == k||(!b&&i == f.j))=true)∧o.dst≠some f.d:=by
     intro b
     have hck:=List.all_eq_true.1 hB4 _ (zj0 b)
     simp only[Bool.and_eq_true] at hck
     obtain⟨⟨h4,h5⟩,h7⟩:=hck
     rw[hi] at h7
     simp only[Option.map_some,Option.getD_some,decide_eq_true_eq] at h7
     exact⟨List.contains_iff_mem.1 h4,List.all_eq_true.1 h5,h7⟩
    have hup:∀ u w,zbe md ops (zce f true base)→V w→f.At H rs true u w→zba P md ops Q V (fun _=>True) g (0+ts.length+ts2.length+1) (zce f true base) (zbw f a0 u) w:=by
     intro u w hc hV h1
     obtain⟨h4',h5,h7⟩:=hfacts true
     refine⟨fun e=>(by rw[e] at h4';cases h4'),fun i hir=>?_⟩
     have hi2:=h5 i hir
     simp at hi2
     subst hi2
     exact hstep true u w 0 rfl hc hV h1 h4' h7
    intro b u w hc hV h1
    cases b with
    | true =>
     rw[show zhJ true+((k,tag+1)::ts).length+ts2.length=0+ts.length+ts2.length+1 by simp[zhJ];omega]
     exact hup u w hc hV h1
    | false =>
     obtain⟨h4',h5,h7⟩:=hfacts false
     rw[show zhJ false+((k,tag+1)::ts).length+ts2.length=(1+ts.length+ts2.length)+1 by simp[zhJ];omega]
     refine⟨fun e=>(by rw[e] at h4';cases h4'),fun i hir=>?_⟩
     have hi2:=h5 i hir
     simp only[Bool.or_eq_true] at hi2
     rcases hi2 with hi2|hi2
     ·
      have hi2:i=k:=by simpa using hi2
      subst hi2
      exact hstep false u w 1 rfl hc hV h1 h4' h7
     ·
      rw[show 1+ts.length+ts2.length=0+ts.length+ts2.length+1 by omega]
      exact zjZ hf hS hH hR hup hc hV hir (by simpa using hi2)
theorem zml (f:Flo)(a:Act):zbw f a (a.tmps.getD f.d undef)=a:=zgs _ _
theorem zd1 {id:Nat}{l:List Oper}{a:Act}{w:World}(V:World→Prop)(g:Nat)(f:Flo)(ts:List (Nat × Nat))(ts2:List (Nat × Nat × Nat))(hm:P.follows .mixedOrders=true)(hlen:1+ts.length+ts2.length=l.length)
  (hin:(ts.all fun t=>decide (t.1<l.length))=true) (hin2:(ts2.all fun t=>decide (t.1<l.length))=true) (hB:(Region.noSelect l.toArray&&plF1 .any l.toArray g f ts2 ts (Array.replicate l.length false))=true)
  (hQ:∀ c (a:Act) dst v w,Q (.panic c) (a.put dst v) w→Q (.panic c) a w) (hf:f.Ok P l.toArray) (hS:zpz V) (H:Nat) (hH:∀ w,V w→H≤w.heap.size) (hV:V w.drew)
  (h0:∀ ops',Hid (ops'=l.toArray)→zmk P ops' Q H f (ts2.map (·.2)) (ts2.filterMap fun t=>l[t.1]?) [] (ts.map (·.2)) (ts.filterMap fun t=>l[t.1]?) V a):(Code.region id l.toArray true).wp P Q a w:=by
 have h:=h0 l.toArray (hid rfl)
 rw[Bool.and_eq_true] at hB
 refine wp_region_any hm (zcK (V:=V) (X:=fun _=>True) (g:=g) _ _ _ _ ?_)
 have:=ziQ (md:=.any) (Q:=Q) (P:=P) (g:=g) hB.1 hQ hf ts2 _ (zjV ts2 hin2) ts [] _ V a (Array.replicate l.length false) (zpB ts hin) hB.2 hS hH (fun _ _ r hr=>by cases hr) h false (a.tmps.getD f.d undef) w.drew
  (show zbe _ _ (Array.replicate l.length false) from fun j oj _ hl=>by
   rw[Array.getD_eq_getD_getElem?,Array.getElem?_replicate] at hl
   split at hl <;> cases hl) hV (fun e=>by cases e)
 have hp:zhJ false+ts.length+ts2.length=l.length:=hlen
 rw[zml,hp] at this
 have e:l.toArray.size=l.length:=by simp
 rw[e]
 exact this
end
end Go.Proofs.YtdpnmdkbdibkpaaGreatDoor
