/- A region that draws its order, with stores and guards: walked in an order of one's own choice (ts: an operation's place, its tag, the slot of its guard). No condition. -/
import Derived.Test.YtpckoeicbjfnhaaGreatDoorZ33
namespace Go.Proofs.YtpckoeicbjfnhaaGreatDoor
set_option maxRecDepth 100000
set_option maxHeartbeats 16000000
section
open Go.RowKit
variable {P:Program} {ops:Array Oper} {md:Region.Mode} {w:World} {V X:World→Prop} {g:Nat} {Q:Exit→Act→World→Prop}
def zeI (ops:Array Oper)(k d:Nat):Bool:=match (ops[k]?).bind (·.guard) with
 | some (j,_)=>decide ((ops[j]?).bind (·.dst)=some d)
 | none=>false
def zdT (o:Oper):Bool:=match o.guard with
 | some (_,b)=>b
 | none=>true
theorem zfw {k d:Nat}{o:Oper}{a:Act}{b:Bool}(hk:ops[k]?=some o)(h:zeI ops k d=true)(ht:a.tmps[d]?=some (.bool b)):Region.wanted o (yielded ops a.tmps)=decide (b=zdT o):=by
 unfold zeI at h
 rw[hk] at h
 simp only[Option.bind_some] at h
 cases hg:o.guard with
 | none=>rw[hg] at h;cases h
 | some p =>
  obtain⟨j,c⟩:=p
  rw[hg] at h
  have h2:(ops[j]?).bind (·.dst)=some d:=of_decide_eq_true h
  have hy:yielded ops a.tmps j=some b:=by
   unfold yielded
   rw[h2]
   simp only[Option.bind_some,ht]
  unfold Region.wanted zdT
  rw[hg]
  simp only[hy]
  cases b <;> cases c <;> rfl
def zop (md:Region.Mode)(ops:Array Oper)(g:Nat):List (Nat × Nat × Nat)→Array Bool→Bool
 | [],listed=>(Region.ready md ops listed).isEmpty
 | (k,t,d)::ts,listed=>(match t with
   | 0=>Region.free md ops listed k&&(Region.ready md ops listed).contains k && !(k == g)&&((ops[k]?).map fun o=>o.guard.isNone).getD false
   | 1=>Region.free md ops listed k&&(Region.ready md ops listed).contains k && !(k == g)&&((ops[k]?).map fun o=>o.guard.isNone).getD false&&zjg md ops 60 k g
   | 4=>Region.free md ops listed k&&(Region.ready md ops listed).contains k && !(k == g)&&zeI ops k d
   | 5=>Region.free md ops listed k&&(Region.ready md ops listed).contains k && !(k == g)&&zeI ops k d
   | 6=>decide (Region.ready md ops listed=[k])&&(listed.setIfInBounds k true).getD g false&&zeI ops k d
   | _=>decide (Region.ready md ops listed=[k])&&(listed.setIfInBounds k true).getD g false)&&zop md ops g ts (listed.setIfInBounds k true)
def ziB (P:Program)(ops:Array Oper)(Q:Exit→Act→World→Prop)(V X:World→Prop):List (Nat × Nat)→List Oper→Act→World→Prop
 | (0,_)::ts,o::os,a,w=>∃ v,(∀ w,V w→(execOp a.eval o).run P w= .ok (.value v) w)∧ziB P ops Q V X ts os (a.put o.dst v) w
 | (1,_)::ts,o::os,a,w=>∃ v,(∀ w,X w→(execOp a.eval o).run P w= .ok (.value v) w)∧ziB P ops Q V X ts os (a.put o.dst v) w
 | (4,d)::ts,o::os,a,w=>a.tmps[d]?=some (.bool (zdT o))∧∃ v,(∀ w,V w→(execOp a.eval o).run P w= .ok (.value v) w)∧ziB P ops Q V X ts os (a.put o.dst v) w
 | (5,d)::ts,o::os,a,w=>a.tmps[d]?=some (.bool (!zdT o))∧ziB P ops Q V X ts os (a.put o.dst undef) w
 | (6,d)::ts,o::os,a,w=>a.tmps[d]?=some (.bool (zdT o))∧∀ K:Exit→Act→World→Prop,Hid (∀ a' w',V w'→(V w'→ziB P ops Q V X ts os a' w')→K .normal a' w')→wpList P ops K [{ o with guard:=none }] a w
 | _::ts,o::os,a,w=>∀ K:Exit→Act→World→Prop,Hid (∀ a' w',V w'→(V w'→ziB P ops Q V X ts os a' w')→K .normal a' w')→wpList P ops K [o] a w
 | _,_,a,w=>Q .normal a w
theorem zsa {o:Oper}{K:Exit→Act→World→Prop}{a:Act}{w:World}(h:wpList P ops K [{ o with guard:=none }] a w)(hw:Region.wanted o (yielded ops a.tmps)=true):wpList P ops K [o] a w:=by
 unfold wpList at h ⊢
 rw[if_pos hw]
 rw[if_pos (by rfl)] at h
 exact h
theorem zmu {k:Nat}{o:Oper}{fuel:Nat}{listed:Array Bool}{a:Act}{w:World}{T:Act→World→Prop}(hr:Region.ready md ops listed=[k])(hk:ops[k]?=some o)
  (hg:(listed.setIfInBounds k true).getD g false=true) (h:∀ K:Exit→Act→World→Prop,Hid (∀ a' w',V w'→(V w'→T a' w')→K .normal a' w')→wpList P ops K [o] a w)
  (hT:∀ a' w',V w'→T a' w'→zcq P md ops Q V X g fuel (listed.setIfInBounds k true) a' w'):zcq P md ops Q V X g (fuel+1) listed a w:=
 zgq hr hk hg fun K HK=>h K (hid fun a' w' hV hK=>HK.out a' w' hV fun hV''=>hT a' w' hV'' (hK hV''))
theorem zgN (hsel:Region.noSelect ops=true)(hQ:∀ c (a:Act) dst v w,Q (.panic c) (a.put dst v) w→Q (.panic c) a w)(ts:List (Nat × Nat × Nat)):∀ (os:List Oper) (listed:Array Bool) (a:Act) (w:World),
  os.map some=ts.map (fun t=>ops[t.1]?)→zcC md ops listed→zop md ops g ts listed=true→V w→(listed.getD g false=false→X w)→ziB P ops Q V X (ts.map (·.2)) os a w →
  zcq P md ops Q V X g ts.length listed a w:=by
 induction ts with
 | nil =>
  intro os listed a w hl _ hB _ _ h
  cases os with
  | nil=>exact⟨by simpa [zop] using hB,h⟩
  | cons o os=>simp at hl
 | cons t ts ih =>
  intro os listed a w hl hc hB hV hX h
  cases os with
  | nil=>simp at hl
  | cons o os =>
   rw[List.map_cons,List.map_cons] at hl
   obtain⟨hi0,hl'⟩:=List.cons.inj hl
   clear hl
   obtain⟨k,tag,d⟩:=t
   have hi:ops[k]?=some o:=hi0.symm
   clear hi0
   rw[List.length_cons]
   rw[List.map_cons] at h
   unfold zop at hB
   obtain⟨hB1,hB2⟩:=(Bool.and_eq_true _ _).mp hB
   clear hB
   have quiet:∀ v,Region.free md ops listed k=true→(Region.ready md ops listed).contains k=true→k≠g→YieldsIf P ops V o v a→ziB P ops Q V X (ts.map (·.2)) os (a.put o.dst v) w→zcq P md ops Q V X g (ts.length+1) listed a w:=fun v h3 h4 h5 hy h=>by
    have h4':k∈Region.ready md ops listed:=List.contains_iff_mem.1 h4
    refine zbL hi (Region.noSelect_spec hsel) (fun c a w h=>hQ c _ _ _ w h) h5 V (fun _ _ _ _ hA=>hA.1) ts.length listed a w hc (Region.free_spec hi h3) h4' hy ⟨hV,hX⟩ ?_
    exact ih os _ _ w hl' (hc.set h4') hB2 hV (fun h0=>hX (by rw[getD_set_ne false h5] at h0;exact h0)) h
   have alone:Region.ready md ops listed=[k]→(listed.setIfInBounds k true).getD g false=true→(∀ K:Exit→Act→World→Prop,Hid (∀ a' w',V w'→(V w'→ziB P ops Q V X (ts.map (·.2)) os a' w')→K .normal a' w')→wpList P ops K [o] a w)→zcq P md ops Q V X g (ts.length+1) listed a w:=fun h3 h4 h=>by
    have h4':k∈Region.ready md ops listed:=by rw[h3];exact List.mem_singleton.2 rfl
    exact zmu h3 hi h4 h fun a' w' hV' hT=>ih os _ a' w' hl' (hc.set h4') hB2 hV' (fun h0=>by rw[h4] at h0;cases h0) hT
   match tag,hB1,h with
   | 0,hB1,h =>
    obtain⟨v,hy,h⟩:=h
    simp only[Bool.and_eq_true,Bool.not_eq_true',beq_eq_false_iff_ne] at hB1
    obtain⟨⟨⟨h3,h4⟩,h5⟩,h6⟩:=hB1
    rw[hi] at h6
    exact quiet v h3 h4 h5 (Or.inl ⟨zbM h6,hy⟩) h
   | 1,hB1,h =>
    obtain⟨v,hy,h⟩:=h
    simp only[Bool.and_eq_true,Bool.not_eq_true',beq_eq_false_iff_ne] at hB1
    obtain⟨⟨⟨⟨h3,h4⟩,h5⟩,h6⟩,h8⟩:=hB1
    have h4':k∈Region.ready md ops listed:=List.contains_iff_mem.1 h4
    rw[hi] at h6
    refine zbL hi (Region.noSelect_spec hsel) (fun c a w h=>hQ c _ _ _ w h) h5 X (fun _ _ hc hl hA=>hA.2 (zeY hc 60 k g h8 hl).2) ts.length listed a w hc (Region.free_spec hi h3) h4' (Or.inl ⟨zbM h6,hy⟩) ⟨hV,hX⟩ ?_
    exact ih os _ _ w hl' (hc.set h4') hB2 hV (fun h0=>hX (by rw[getD_set_ne false h5] at h0;exact h0)) h
   | 4,hB1,h =>
    obtain⟨ht,v,hy,h⟩:=h
    simp only[Bool.and_eq_true,Bool.not_eq_true',beq_eq_false_iff_ne] at hB1
    obtain⟨⟨⟨h3,h4⟩,h5⟩,h6⟩:=hB1
    exact quiet v h3 h4 h5 (Or.inl ⟨by rw[zfw hi h6 ht];simp,hy⟩) h
   | 5,hB1,h =>
    obtain⟨ht,h⟩:=h
    simp only[Bool.and_eq_true,Bool.not_eq_true',beq_eq_false_iff_ne] at hB1
    obtain⟨⟨⟨h3,h4⟩,h5⟩,h6⟩:=hB1
    exact quiet undef h3 h4 h5 (Or.inr ⟨by rw[zfw hi h6 ht];simp,rfl⟩) h
   | 6,hB1,h =>
    obtain⟨ht,h⟩:=h
    simp only[Bool.and_eq_true,decide_eq_true_eq] at hB1
    obtain⟨⟨h3,h4⟩,h6⟩:=hB1
    exact alone h3 h4 fun K HK=>zsa (h K HK) (by rw[zfw hi h6 ht];simp)
   | 2,hB1,h =>
    simp only[Bool.and_eq_true,decide_eq_true_eq] at hB1
    exact alone hB1.1 hB1.2 h
   | 3,hB1,h =>
    simp only[Bool.and_eq_true,decide_eq_true_eq] at hB1
    exact alone hB1.1 hB1.2 h
   | n+7,hB1,h =>
    simp only[Bool.and_eq_true,decide_eq_true_eq] at hB1
    exact alone hB1.1 hB1.2 h
theorem zqj {l:List Oper}:∀ ts:List (Nat × Nat × Nat),(ts.all fun t=>decide (t.1<l.length))=true→(ts.filterMap fun t=>l[t.1]?).map some=ts.map fun t=>l.toArray[t.1]?
 | [],_=>rfl
 | t::ts,h=>by
  rw[List.all_cons,Bool.and_eq_true] at h
  have h1:t.1<l.length:=of_decide_eq_true h.1
  have h2:l[t.1]?=some (l[t.1]'h1):=List.getElem?_eq_getElem h1
  rw[List.filterMap_cons,h2]
  simp only[List.map_cons]
  rw[zqj ts h.2,List.getElem?_toArray,h2]
theorem zeJ {id:Nat}{l:List Oper}{a:Act}{w:World}(V X:World→Prop)(g:Nat)(ts:List (Nat × Nat × Nat))(hm:P.follows .mixedOrders=true)(hlen:ts.length=l.length)
  (hin:(ts.all fun t=>decide (t.1<l.length))=true) (hB:(Region.noSelect l.toArray&&zop .any l.toArray g ts (Array.replicate l.length false))=true) (hQ:∀ c (a:Act) dst v w,Q (.panic c) (a.put dst v) w→Q (.panic c) a w)
  (hV:V w.drew) (hX:X w.drew) (h0:∀ ops',Hid (ops'=l.toArray)→ziB P ops' Q V X (ts.map (·.2)) (ts.filterMap fun t=>l[t.1]?) a w.drew):(Code.region id l.toArray true).wp P Q a w:=by
 have h:=h0 l.toArray (hid rfl)
 rw[Bool.and_eq_true] at hB
 refine wp_region_any hm (zdN (V:=V) (X:=X) (g:=g) _ _ _ _ ?_)
 have:=zgN (md:=.any) (Q:=Q) (V:=V) (X:=X) (P:=P) (g:=g) hB.1 hQ ts _ (Array.replicate l.length false) a w.drew (zqj ts hin) (fun j oj _ hl=>by
  rw[Array.getD_eq_getD_getElem?,Array.getElem?_replicate] at hl
  split at hl <;> cases hl) hB.2 hV (fun _=>hX) h
 rw[hlen] at this
 have e:l.toArray.size=l.length:=by simp
 rw[e]
 exact this
theorem zfx {d:Nat}{ts:List (Nat × Nat)}{o:Oper}{os:List Oper}{a:Act}{w:World}{v:Value}(hy:∀ w,V w→(execOp a.eval o).run P w= .ok (.value v) w)(h:ziB P ops Q V X ts os (a.put o.dst v) w):ziB P ops Q V X ((0,d)::ts) (o::os) a w:=⟨v,hy,h⟩
theorem seqH2 {d:Nat}{ts:List (Nat × Nat)}{o:Oper}{os:List Oper}{a:Act}{w:World}(h:∀ K:Exit→Act→World→Prop,Hid (∀ a' w',V w'→(V w'→ziB P ops Q V X ts os a' w')→K .normal a' w')→wpList P ops K [o] a w):ziB P ops Q V X ((2,d)::ts) (o::os) a w:=h
theorem zdF {d:Nat}{ts:List (Nat × Nat)}{o:Oper}{os:List Oper}{a:Act}{w:World}{v:Value}(ht:a.tmps[d]?=some (.bool (zdT o)))(hy:∀ w,V w→(execOp a.eval o).run P w= .ok (.value v) w)(h:ziB P ops Q V X ts os (a.put o.dst v) w):ziB P ops Q V X ((4,d)::ts) (o::os) a w:=⟨ht,v,hy,h⟩
theorem zrn {d:Nat}{ts:List (Nat × Nat)}{o:Oper}{os:List Oper}{a:Act}{w:World}(ht:a.tmps[d]?=some (.bool (zdT o)))(h:∀ K:Exit→Act→World→Prop,Hid (∀ a' w',V w'→(V w'→ziB P ops Q V X ts os a' w')→K .normal a' w')→wpList P ops K [{ o with guard:=none }] a w):ziB P ops Q V X ((6,d)::ts) (o::os) a w:=⟨ht,h⟩
theorem zkf {a:Act}{w:World}(h:Q .normal a w):ziB P ops Q V X [] [] a w:=h
end
end Go.Proofs.YtpckoeicbjfnhaaGreatDoor
