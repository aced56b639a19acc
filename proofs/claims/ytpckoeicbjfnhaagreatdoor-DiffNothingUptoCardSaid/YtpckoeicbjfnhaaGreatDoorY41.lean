/- Parts of a proof: texts of the author, merged. No condition of their own. -/
import Derived.Test.YtpckoeicbjfnhaaGreatDoorY07
import Derived.Test.YtpckoeicbjfnhaaGreatDoorY13
import Derived.Test.YtpckoeicbjfnhaaGreatDoorY16
import Derived.Test.YtpckoeicbjfnhaaGreatDoorY17
import Derived.Test.YtpckoeicbjfnhaaGreatDoorY40
namespace Go.Proofs.YtpckoeicbjfnhaaGreatDoor
set_option maxRecDepth 100000
set_option maxHeartbeats 16000000
section
open Go.RowKit
variable {P:Program} {ops:Array Oper} {md:Region.Mode} {Q:Exit→Act→World→Prop}
theorem zji {V V' X:World→Prop}{g:Nat}(h:∀ w,V' w→V w):∀ (fuel:Nat) (listed:Array Bool) (a:Act) (w:World),zbV P md ops Q V' X g fuel listed a w→zbV P md ops Q V X g fuel listed a w
 | 0,_,_,_,h0=>h0
 | fuel+1,_,_,_,h0=>⟨h0.1,fun i hi=>wpOp_mono (fun a' w' h'=>⟨⟨h _ h'.1.1,h'.1.2⟩,zji h fuel _ a' w' h'.2⟩) (h0.2 i hi)⟩
theorem ztz (a:Act)(d:Nat)(u v:Value):(a.put (some d) u).put (some d) v=a.put (some d) v:=by
 simp[Act.put]
theorem zsQ (a:Act){d e:Nat}(h:d≠e)(u v:Value):(a.put (some d) u).put (some e) v=(a.put (some e) v).put (some d) u:=by
 simp only[Act.put]
 rw[Array.setIfInBounds_comm _ _ h]
def Stab (V:World→Prop):Prop:=∀ w w',V w→Below w.heap.size w w'→V w'
structure Flo where
 j:Nat
 d:Nat
 z:List Value
 T:TypeId
def Flo.Ok (P:Program)(ops:Array Oper)(f:Flo):Prop:=∃ o,ops[f.j]?=some o∧o.dst=some f.d∧o.guard=none∧∀ (a:Act) (w:World),(execOp a.eval o).run P w= .ok (.value (.pointer (some ⟨w.heap.size,0,none⟩))) (w.alloc (.cells f.z.toArray f.T))
def Flo.At (f:Flo)(H:Nat)(rs:List (Nat × Nat))(b:Bool)(u:Value)(w:World):Prop:=b=true→∃ p,u= .pointer (some ⟨p,0,none⟩)∧H≤p∧(∀ r∈rs,p<r.1∨r.2≤p)∧Blk w p f.z f.T
theorem Flo.At.call {f:Flo}{H:Nat}{rs:List (Nat × Nat)}{b:Bool}{u:Value}{w w':World}(h:f.At H rs b u w)(hb:Below w.heap.size w w'):f.At H ((w.heap.size,w'.heap.size)::rs) b u w':=fun e=>by
 obtain⟨p,h1,h0,h3,h2⟩:=h e
 refine⟨p,h1,h0,fun r hr=>?_,h2.below hb⟩
 rcases List.mem_cons.1 hr with rfl|hr
 ·
  exact .inl h2.lt
 ·
  exact h3 r hr
theorem zqe {f:Flo}{K:Act→World→Prop}{a:Act}{w:World}(hf:f.Ok P ops)(h:K (a.put (some f.d) (.pointer (some ⟨w.heap.size,0,none⟩))) (w.alloc (.cells f.z.toArray f.T))):wpOp P ops Q f.j K a w:=by
 obtain⟨o,h1,h2,h3,h4⟩:=hf
 unfold wpOp
 rw[h1]
 simp only
 rw[if_pos (zbX (by rw[h3];rfl))]
 refine Or.inl ?_
 unfold Oper.wp
 rw[h4]
 show K (a.put o.dst _) _
 rw[h2]
 exact h
theorem zmY {k:Nat}{o:Oper}{a:Act}{w:World}(hk:ops[k]?=some o){T:Act→World→Prop}(h:∀ K:Exit→Act→World→Prop,Hid (∀ a' w',T a' w'→K .normal a' w')→wpList P ops K [o] a w):wpOp P ops Q k T a w:=by
 have h2:=h (fun e a' w'=>match e with | .normal=>T a' w'|e=>Q e a' w') (hid fun a' w' h=>h)
 unfold wpOp
 simp only[hk]
 rw[wpList] at h2
 split at h2
 ·
  rename_i hw
  simp only[hw,if_true]
  exact h2.imp (zrn (fun _ _ h=>h) (fun _ _ _ h=>h) (fun h=>h)) (fun h=>⟨h.1,h.2⟩)
 ·
  rename_i hw
  simp only[hw]
  exact h2
def ptrF (p:Nat):Value:=.pointer (some ⟨p,0,none⟩)
theorem zsR (a:Act)(d:Nat):a.put (some d) (a.tmps.getD d undef)=a:=by
 have h:a.tmps.setIfInBounds d (a.tmps.getD d undef)=a.tmps:=by
  apply Array.ext
  ·
   simp
  ·
   intro i h1 h2
   rw[Array.getElem_setIfInBounds]
   split
   ·
    rename_i e
    subst e
    simp[Array.getD,h2]
   ·
    rfl
 show { a with tmps:=a.tmps.setIfInBounds d (a.tmps.getD d undef) }=a
 rw[h]
theorem picksF {l:List Oper}:∀ ts:List (Nat × Nat),(ts.all fun t=>decide (t.1<l.length))=true→(ts.filterMap fun t=>l[t.1]?).map some=ts.map fun t=>l.toArray[t.1]?:=ztu
end
section
open Go.RowKit
variable {P:Program} {ops:Array Oper} {md:Region.Mode} {Q:Exit→Act→World→Prop}
def zhn (n0 lo hi:Nat)(w:World)(P:World→Prop):Prop:=∀ w',(∀ b,(b<n0∨(lo≤b∧b<hi))→w'.heap[b]?=w.heap[b]?)→P w'
theorem zhn.below {n0 lo hi:Nat}{w w':World}{P:World→Prop}(h:zhn n0 lo hi w P)(h0:n0≤w.heap.size)(h1:hi≤w.heap.size)(hb:Below w.heap.size w w'):zhn n0 lo hi w' P:=fun w2 hw2=>h w2 fun b hc=>(hw2 b hc).trans (hb.block b (by omega))
def zcG (f:Flo)(a:Act)(u:Value):Act:=a.put (some f.d) u
def zqf (P:Program)(ops:Array Oper)(Q:Exit→Act→World→Prop)(H:Nat)(f:Flo)(ts2:List (Nat × Nat))(os2:List Oper):List (Nat × Nat)→List Nat→List Oper→(World→Prop)→Act→Prop
 | rs,0::ts,o::os,V,a0=>∃ v,(∀ u w,V w→(execOp (zcG f a0 u).eval o).run P w= .ok (.value v) w)∧zqf P ops Q H f ts2 os2 rs ts os V (a0.put o.dst v)
 | rs,_::ts,o::os,V,a0=>∀ u w,V w→∀ K:Exit→Act→World→Prop,Hid (∀ v w' (V':World→Prop),Stab V'→(∀ w,V' w→V w)→(∀ W,V' W→w'.heap.size≤W.heap.size)→V' w'→Below w.heap.size w w'→zqf P ops Q H f ts2 os2 ((w.heap.size,w'.heap.size)::rs) ts os V' (a0.put o.dst v)→K .normal ((zcG f a0 u).put o.dst v) w')→wpList P ops K [o] (zcG f a0 u) w
 | rs,_,_,V,a0=>∀ p w,V w→H≤p→(∀ r∈rs,p<r.1∨r.2≤p)→Blk w p f.z f.T→zo2 P ops Q V (fun _=>True) ts2 os2 (zcG f a0 (ptrF p)) w
theorem zge {H:Nat}{f:Flo}{ts2:List (Nat × Nat)}{os2:List Oper}{rs:List (Nat × Nat)}{ts:List Nat}{o:Oper}{os:List Oper}{V:World→Prop}{a0:Act}{v:Value}(hy:∀ u w,V w→(execOp (zcG f a0 u).eval o).run P w= .ok (.value v) w)(h:zqf P ops Q H f ts2 os2 rs ts os V (a0.put o.dst v)):zqf P ops Q H f ts2 os2 rs (0::ts) (o::os) V a0:=⟨v,hy,h⟩
def zcJ (f:Flo)(b:Bool)(base:Array Bool):Array Bool:=if b then base.setIfInBounds f.j true else base
def plF1 (md:Region.Mode)(ops:Array Oper)(g:Nat)(f:Flo)(ts2:List (Nat × Nat × Nat)):List (Nat × Nat)→Array Bool→Bool
 | [],base=>zrW md ops g ts2 (zcJ f true base)&&((Region.ready md ops (zcJ f false base)).all (fun i=>i == f.j) && !(Region.ready md ops (zcJ f false base)).isEmpty)
 | (k,t)::ts,base=>(!(k == f.j) && !(k == g)&&[false,true].all fun b=>match t with
   | 0=>Region.free md ops (zcJ f b base) k&&(Region.ready md ops (zcJ f b base)).contains k&&((ops[k]?).map fun o=>o.guard.isNone).getD false&&((ops[k]?).map fun o=>decide (o.dst≠some f.d)).getD false
   | _=>(Region.ready md ops (zcJ f b base)).contains k&&(Region.ready md ops (zcJ f b base)).all (fun i=>i == k||(!b&&i == f.j))&&((ops[k]?).map fun o=>decide (o.dst≠some f.d)).getD false)&&plF1 md ops g f ts2 ts (base.setIfInBounds k true)
theorem zmZ {f:Flo}{b:Bool}{base:Array Bool}(k:Nat):(zcJ f b base).setIfInBounds k true=zcJ f b (base.setIfInBounds k true):=by
 cases b
 ·
  rfl
 ·
  show (base.setIfInBounds f.j true).setIfInBounds k true=(base.setIfInBounds k true).setIfInBounds f.j true
  by_cases h:f.j=k
  ·
   rw[h]
  ·
   rw[Array.setIfInBounds_comm _ _ h]
theorem zm0 {f:Flo}{a:Act}{u v:Value}{dst:Option Nat}(h:dst≠some f.d):(zcG f a u).put dst v=zcG f (a.put dst v) u:=by
 cases dst with
 | none=>rfl
 | some e =>
  have h:e≠f.d:=fun e2=>h (by rw[e2])
  unfold zcG
  rw[zsQ _ (Ne.symm h)]
theorem ztA {f:Flo}{a:Act}{u v:Value}:(zcG f a u).put (some f.d) v=zcG f a v:=ztz _ _ _ _
theorem zm1 {f:Flo}(hf:f.Ok P ops){V:World→Prop}(hS:Stab V){H:Nat}{rs:List (Nat × Nat)}(hH:∀ w,V w→H≤w.heap.size)(hR:∀ w,V w→∀ r∈rs,r.2≤w.heap.size){g:Nat}{base:Array Bool}{a0:Act}{fuel:Nat}
  (ih:∀ u w,zb5 md ops (zcJ f true base)→V w→f.At H rs true u w→zbV P md ops Q V (fun _=>True) g fuel (zcJ f true base) (zcG f a0 u) w)
  {u:Value} {w:World} (hc:zb5 md ops (zcJ f false base)) (hV:V w) {i:Nat} (hr:i∈Region.ready md ops (zcJ f false base)) (hi:i=f.j) :
  wpOp P ops Q i (fun a' w'=>AtG V (fun _=>True) g ((zcJ f false base).setIfInBounds i true) w'∧zbV P md ops Q V (fun _=>True) g fuel ((zcJ f false base).setIfInBounds i true) a' w') (zcG f a0 u) w:=by
 subst hi
 have hb:Below w.heap.size w (w.alloc (.cells f.z.toArray f.T)):=(Below.refl _ _).alloc (Nat.le_refl _) _
 refine zqe hf ⟨⟨hS _ _ hV hb,fun _=>trivial⟩,?_⟩
 have hc':=hc.set hr
 rw[ztA]
 exact ih _ _ hc' (hS _ _ hV hb) (fun _=>⟨_,rfl,hH w hV,fun r hr=> .inr (hR w hV r hr),Blk.new w f.z f.T⟩)
def zjI (b:Bool):Nat:=if b then 0 else 1
theorem zm2 (b:Bool):b∈[false,true]:=by cases b <;> decide
theorem zlE (hsel:Region.noSelect ops=true)(hQ:∀ c (a:Act) dst v w,Q (.panic c) (a.put dst v) w→Q (.panic c) a w){f:Flo}(hf:f.Ok P ops){g H:Nat}
  (ts2:List (Nat × Nat × Nat)) (os2:List Oper) (hos2:os2.map some=ts2.map (fun t=>ops[t.1]?)) (ts:List (Nat × Nat)):∀ (rs:List (Nat × Nat)) (os:List Oper) (V:World→Prop) (a0:Act) (base:Array Bool),
  os.map some=ts.map (fun t=>ops[t.1]?)→plF1 md ops g f ts2 ts base=true→Stab V→(∀ w,V w→H≤w.heap.size)→(∀ w,V w→∀ r∈rs,r.2≤w.heap.size)→zqf P ops Q H f (ts2.map (·.2)) os2 rs (ts.map (·.2)) os V a0 →
  ∀ b u w,zb5 md ops (zcJ f b base)→V w→f.At H rs b u w →
   zbV P md ops Q V (fun _=>True) g (zjI b+ts.length+ts2.length) (zcJ f b base) (zcG f a0 u) w:=by
 induction ts with
 | nil =>
  intro rs os V a0 base hl hB hS hH hR h
  unfold plF1 at hB
  obtain⟨hB1,hB2⟩:=(Bool.and_eq_true _ _).mp hB
  have hup:∀ u w,zb5 md ops (zcJ f true base)→V w→f.At H rs true u w→zbV P md ops Q V (fun _=>True) g (0+([]:List (Nat × Nat)).length+ts2.length) (zcJ f true base) (zcG f a0 u) w:=by
   intro u w hc hV h1
   obtain⟨p,rfl,hq1,hr1,hp1⟩:=h1 rfl
   have hs:zo2 P ops Q V (fun _=>True) (ts2.map (·.2)) os2 (zcG f a0 (ptrF p)) w:=by
    cases os with
    | nil=>exact h p w hV hq1 hr1 hp1
    | cons o os=>simp at hl
   have:=zmX (md:=md) (g:=g) hsel hQ ts2 os2 _ (zcG f a0 (ptrF p)) w hos2 hc hB1 hV (fun _=>trivial) hs
   simpa [ptrF] using this
  intro b u w hc hV h1
  cases b with
  | true=>exact hup u w hc hV h1
  | false =>
   obtain⟨hall,hne2⟩:=(Bool.and_eq_true _ _).mp hB2
   show zbV P md ops Q V (fun _=>True) g (1+([]:List (Nat × Nat)).length+ts2.length) _ _ _
   rw[show 1+([]:List (Nat × Nat)).length+ts2.length=(0+([]:List (Nat × Nat)).length+ts2.length)+1 by simp;omega]
   refine⟨fun e=>?_,fun i hi=>?_⟩
   ·
    rw[e] at hne2;simp at hne2
   ·
    have hi2:=List.all_eq_true.1 hall i hi
    exact zm1 hf hS hH hR hup hc hV hi (by simpa using hi2)
 | cons t ts ih =>
  intro rs os V a0 base hl hB hS hH hR h
  obtain⟨k,tag⟩:=t
  cases os with
  | nil=>simp at hl
  | cons o os =>
   rw[List.map_cons,List.map_cons] at hl
   obtain⟨hi0,hl'⟩:=List.cons.inj hl
   have hi:ops[k]?=some o:=hi0.symm
   clear hl hi0
   unfold plF1 at hB
   obtain⟨hB1,hB2⟩:=(Bool.and_eq_true _ _).mp hB
   obtain⟨hB3,hB4⟩:=(Bool.and_eq_true _ _).mp hB1
   simp only[Bool.and_eq_true,Bool.not_eq_true',beq_eq_false_iff_ne] at hB3
   obtain⟨hkf,hkg⟩:=hB3
   rw[List.map_cons] at h
   rcases tag with _|tag
   ·
    obtain⟨v,hy,h⟩:=h
    intro b u w hc hV h1
    have hck:=List.all_eq_true.1 hB4 _ (zm2 b)
    simp only[Bool.and_eq_true] at hck
    obtain⟨⟨⟨h3,h4⟩,h6⟩,h7⟩:=hck
    rw[hi] at h6 h7
    simp only[Option.map_some,Option.getD_some,decide_eq_true_eq] at h7
    have h4':k∈Region.ready md ops (zcJ f b base):=List.contains_iff_mem.1 h4
    rw[show zjI b+((k,0)::ts).length+ts2.length=(zjI b+ts.length+ts2.length)+1 by simp;omega]
    refine zbW hi (Region.noSelect_spec hsel) (fun c a w h=>hQ c _ _ _ w h) hkg V (fun _ _ _ _ hA=>hA.1) _ _ _ w hc (Region.free_spec hi h3) h4' (Or.inl ⟨zbX h6,hy u⟩) ⟨hV,fun _=>trivial⟩ ?_
    have hc':=hc.set h4'
    rw[zmZ] at hc' ⊢
    rw[zm0 h7]
    exact ih rs os V _ _ hl' hB2 hS hH hR h b u w hc' hV h1
   ·
    have hstep:∀ b u w (n:Nat),n=zjI b→zb5 md ops (zcJ f b base)→V w→f.At H rs b u w→k∈Region.ready md ops (zcJ f b base)→o.dst≠some f.d →
      wpOp P ops Q k (fun a' w'=>AtG V (fun _=>True) g ((zcJ f b base).setIfInBounds k true) w'∧zbV P md ops Q V (fun _=>True) g (zjI b+ts.length+ts2.length) ((zcJ f b base).setIfInBounds k true) a' w') (zcG f a0 u) w:=by
     intro b u w n _ hc hV h1 h4' h7
     refine zmY hi fun K HK=>h u w hV K (hid fun v w' V' hS' hw' hsz hV' hb hseq=>HK.out _ _ ⟨⟨hw' _ hV',fun _=>trivial⟩,zji hw' _ _ _ _ ?_⟩)
     have hc':=hc.set h4'
     rw[zmZ] at hc' ⊢
     rw[zm0 h7]
     exact ih _ os V' _ _ hl' hB2 hS' (fun w h=>hH w (hw' w h)) (fun W hW r hr=>by
      rcases List.mem_cons.1 hr with rfl|hr
      ·
       exact hsz W hW
      ·
       exact hR W (hw' W hW) r hr) hseq b u w' hc' hV' (h1.call hb)
    have hfacts:∀ b,(k∈Region.ready md ops (zcJ f b base))∧(∀ i∈Region.ready md ops (zcJ f b base),(i == k||(!b&&i == f.j))=true)∧o.dst≠some f.d:=by
     intro b
     have hck:=List.all_eq_true.1 hB4 _ (zm2 b)
     simp only[Bool.and_eq_true] at hck
     obtain⟨⟨h4,h5⟩,h7⟩:=hck
     rw[hi] at h7
     simp only[Option.map_some,Option.getD_some,decide_eq_true_eq] at h7
     exact⟨List.contains_iff_mem.1 h4,List.all_eq_true.1 h5,h7⟩
    have hup:∀ u w,zb5 md ops (zcJ f true base)→V w→f.At H rs true u w→zbV P md ops Q V (fun _=>True) g (0+ts.length+ts2.length+1) (zcJ f true base) (zcG f a0 u) w:=by
     intro u w hc hV h1
     obtain⟨h4',h5,h7⟩:=hfacts true
     refine⟨fun e=>(by rw[e] at h4';cases h4'),fun i hir=>?_⟩
     have hi2:=h5 i hir
     simp at hi2
     subst hi2
     exact hstep true u w 0 rfl hc hV h1 h4' h7
    intro b u w hc hV h1
    cases b with
    | true =>
     rw[show zjI true+((k,tag+1)::ts).length+ts2.length=0+ts.length+ts2.length+1 by simp[zjI];omega]
     exact hup u w hc hV h1
    | false =>
     obtain⟨h4',h5,h7⟩:=hfacts false
     rw[show zjI false+((k,tag+1)::ts).length+ts2.length=(1+ts.length+ts2.length)+1 by simp[zjI];omega]
     refine⟨fun e=>(by rw[e] at h4';cases h4'),fun i hir=>?_⟩
     have hi2:=h5 i hir
     simp only[Bool.or_eq_true] at hi2
     rcases hi2 with hi2|hi2
     ·
      have hi2:i=k:=by simpa using hi2
      subst hi2
      exact hstep false u w 1 rfl hc hV h1 h4' h7
     ·
      rw[show 1+ts.length+ts2.length=0+ts.length+ts2.length+1 by omega]
      exact zm1 hf hS hH hR hup hc hV hir (by simpa using hi2)
theorem zqg (f:Flo)(a:Act):zcG f a (a.tmps.getD f.d undef)=a:=zsR _ _
theorem zhU {id:Nat}{l:List Oper}{a:Act}{w:World}(V:World→Prop)(g:Nat)(f:Flo)(ts:List (Nat × Nat))(ts2:List (Nat × Nat × Nat))(hm:P.follows .mixedOrders=true)(hlen:1+ts.length+ts2.length=l.length)
  (hin:(ts.all fun t=>decide (t.1<l.length))=true) (hin2:(ts2.all fun t=>decide (t.1<l.length))=true) (hB:(Region.noSelect l.toArray&&plF1 .any l.toArray g f ts2 ts (Array.replicate l.length false))=true)
  (hQ:∀ c (a:Act) dst v w,Q (.panic c) (a.put dst v) w→Q (.panic c) a w) (hf:f.Ok P l.toArray) (hS:Stab V) (H:Nat) (hH:∀ w,V w→H≤w.heap.size) (hV:V w.drew)
  (h0:∀ ops',Hid (ops'=l.toArray)→zqf P ops' Q H f (ts2.map (·.2)) (ts2.filterMap fun t=>l[t.1]?) [] (ts.map (·.2)) (ts.filterMap fun t=>l[t.1]?) V a):(Code.region id l.toArray true).wp P Q a w:=by
 have h:=h0 l.toArray (hid rfl)
 rw[Bool.and_eq_true] at hB
 refine wp_region_any hm (zfx (V:=V) (X:=fun _=>True) (g:=g) _ _ _ _ ?_)
 have:=zlE (md:=.any) (Q:=Q) (P:=P) (g:=g) hB.1 hQ hf ts2 _ (ztg ts2 hin2) ts [] _ V a (Array.replicate l.length false) (picksF ts hin) hB.2 hS hH (fun _ _ r hr=>by cases hr) h false (a.tmps.getD f.d undef) w.drew
  (show zb5 _ _ (Array.replicate l.length false) from fun j oj _ hl=>by
   rw[Array.getD_eq_getD_getElem?,Array.getElem?_replicate] at hl
   split at hl <;> cases hl) hV (fun e=>by cases e)
 have hp:zjI false+ts.length+ts2.length=l.length:=hlen
 rw[zqg,hp] at this
 have e:l.toArray.size=l.length:=by simp
 rw[e]
 exact this
end
section
open Go.RowKit
theorem But.later {b:Nat}{w w1 w2:World}(h:But b w w1)(g:Below w.heap.size w1 w2):But b w w2:=
 ⟨g.os.trans h.os,g.tape.trans h.tape,g.output.trans h.output,Nat.le_trans h.size g.size,fun c hc hn=>(g.block c hc).trans (h.block c hc hn)⟩
theorem zhn.but {lo hi O:Nat}{w w':World}{P:World→Prop}(h:zhn 0 lo hi w P)(hb:But O w w')(h1:hi≤w.heap.size)(h2:O<lo∨hi≤O):zhn 0 lo hi w' P:=
 fun w2 hw2=>h w2 fun b hc=>(hw2 b hc).trans (hb.block b (by omega) (by omega))
structure zlF {α:Type}(P:World→List Value→α→Prop)(T:TypeId)(k n0:Nat)(TO:TypeId)(O:Nat)(pre post:List Value)(w3 w:World)(v:Value)(l:List α):Prop where
 but:But O w3 w
 lt3:O<w3.heap.size
 blk:Blk w O (pre++v::post) TO
 rows:zaf P T k n0 w3.heap.size w v l
variable {α:Type} {P:World→List Value→α→Prop} {T:TypeId} {k n0:Nat} {TO:TypeId} {O:Nat} {pre post:List Value} {w3 w w1:World} {v:Value} {l:List α}
theorem zlF.start (hb:Blk w O (pre ++ .slice none 0 0::post) TO):zlF P T k n0 TO O pre post w w (.slice none 0 0) []:=
 ⟨But.refl _ _,hb.lt,hb,zaf.nil _ _ _ _ _ _⟩
theorem zlF.lt (h:zlF P T k n0 TO O pre post w3 w v l):O<w.heap.size:=h.blk.lt
theorem zlF.cell (h:zlF P T k n0 TO O pre post w3 w v l)(j:Nat)(u:Value)(hu:(pre++v::post)[j]?=some u):w.cell? ⟨O,j,none⟩=some u:=h.blk.cell j u hu
theorem zlF.free (h:zlF P T k n0 TO O pre post w3 w v l)(j:Nat):w.frozen? ⟨O,j,none⟩=false:=h.blk.free j
theorem zlF.later (h:zlF P T k n0 TO O pre post w3 w v l)(hb:Below w.heap.size w w1):zlF P T k n0 TO O pre post w3 w1 v l:=
 ⟨h.but.later (hb.mono h.but.size),h.lt3,h.blk.below hb,h.rows.below hb⟩
theorem zlF.step {i:Nat}{oa:Option Addr}{oc:Nat}(h:zlF P T k n0 TO O pre post w3 w (.slice oa i oc) l)(hb:Below w.heap.size w w1)(hk:0<k)(hn0:n0≤O)(hil:l.length=i)
  {G:Program} (t:TypeId) (z:Value) (bytes:Nat) (ht:G.underlying t=some (.slice T)) (hinfo:(G.info? T).map (fun i=>(i.zero,i.size,i.bytes))=some (some z,k,bytes)) (hzs:z.cells.size=k)
  (cells:Array Value) (hr:cells.size=k) (h1:∀ u∈cells.toList,u.oneCell'=true) (x:α) (hP:zc8 n0 w.heap.size w1 fun w'=>P w' cells.toList x) (hlen:i≤1099511627776) (hby:bytes≤120) (j:Nat) (hj:j=pre.length) :
  ∃ a' c' w5,(Builtin.append_ #[t,t] t #[.slice oa i oc,.slice (some ⟨w1.heap.size,0,none⟩) 1 1]).run G (w1.alloc (.cells cells T))= .ok (.slice a' (i+1) c') w5 ∧
   Below w3.heap.size w w5∧(w5.cell? ⟨O,j,none⟩=some (.slice oa i oc)∧w5.frozen? ⟨O,j,none⟩=false∧O<w5.heap.size) ∧
   zlF P T k n0 TO O pre post w3 (w5.setCell ⟨O,j,none⟩ (.slice a' (i+1) c')) (.slice a' (i+1) c') (l++[x]):=by
 subst hj
 have hs:=hb.size
 have hE:=h.but.size
 have hO:=h.lt3
 have hB1:Below w3.heap.size w (w1.alloc (.cells cells T)):=(hb.mono hE).alloc (by omega) _
 obtain⟨v',w5,hrun,hR,hg,-⟩:=(h.rows.below hb).append hk (by omega) t z bytes ht hinfo hzs cells hr h1 x w.heap.size (fun b e=>(h.rows.own b e).2) hE hP (by omega) hby (by omega)
 obtain⟨a',c',rfl⟩:=hR.form
 rw[List.length_append,List.length_singleton,hil] at *
 have hB5:Below w3.heap.size w w5:=hB1.grown hg (by have:=hB1.size;omega) fun q e=>(h.rows.own q e).1
 have hO5:Blk w5 O (pre ++ .slice oa i oc::post) TO:=(hB5.block O hO).trans h.blk
 refine⟨a',c',w5,hrun,hB5,⟨hO5.cell _ _ (by simp),hO5.free _,hO5.lt⟩,(h.but.later hB5).trans (But.set hO5 _ _),hO,?_,?_⟩
 ·
  have:=hO5.set pre.length (.slice a' (i+1) c')
  rwa [List.set_append_right _ _ (Nat.le_refl _),Nat.sub_self,List.set_cons_zero] at this
 ·
  refine hR.later (fun b' _ hc=>Below.heap_setCell w5 _ _ b' ?_) (by simp)
  show b'≠O
  omega
theorem zlF.at (h:zlF P T k n0 TO O pre post w3 w v l)(hl:l.length≤140737488355328){w':World}(hw:∀ b,b<w.heap.size→(b<n0∨w3.heap.size≤b)→w'.heap[b]?=w.heap[b]?):zcL P k w' v l:=h.rows.at hl hw
end
section
open Go.RowKit
theorem zan.formC {w:World}{base:Nat}{v:Value}{l:List Nat}(h:zan w base v l):∃ a c,v= .slice a l.length c:=by
 rcases h.2 with ⟨h1,h2⟩|⟨g,cap,cur,hv,-⟩
 ·
  exact⟨none,0,by rw[h1,h2]⟩
 ·
  exact⟨_,_,hv⟩
theorem zjj {w:World}{ad:Addr}{n c:Nat}{l:List Nat}(h:zby w (.slice (some ad) n c) l)(hn:n=l.length)(hl:n≤1099511627776) :
  ∃ a' c' w',(Builtin.append_ #[62,62] 62 #[.slice (some ⟨w.heap.size,0,none⟩) 0 0,.slice (some ad) n c]).run Tryz.prog (w.alloc (.cells #[] 107))= .ok (.slice a' n c') w'∧zan w' w.heap.size (.slice a' n c') l∧Below w.heap.size w w':=by
 have hb0:Below w.heap.size w (w.alloc (.cells #[] 107)):=(Below.refl _ _).alloc (Nat.le_refl _) _
 have h0:(w.alloc (.cells #[] 107)).ownsRow w.heap.size 107 1 (.slice (some ⟨w.heap.size,0,none⟩) 0 0) 0 []:=World.ownsRow_made (base:=w.heap.size) (e:=107) (size:=1) w #[] 0 (Nat.le_refl _) (by unfold maxLen;omega) rfl
 have hs:Seg (w.alloc (.cells #[] 107)) (.slice (some ad) n c) 1 n (l.map zkV):=by have:=h.1.keep (zaa hb0);rw[←hn] at this;exact this
 obtain⟨v',w',hr,hO,hg,-⟩:=zba (P:=Tryz.prog) _ w.heap.size 62 62 107 (.int .u64 0) 1 8 zev zhZ rfl (by decide) _ _ 0 n [] _ h0 hs
  (by intro u hu;obtain⟨c,-,rfl⟩:=List.mem_map.1 hu;rfl) (by omega) (by omega) hb0.size
 rw[Nat.zero_add,List.nil_append] at hO
 have hO':zan w' w.heap.size v' l:=by unfold zan;rw[←hn];exact hO
 obtain⟨a',c',rfl⟩:=hO'.formC
 rw[←hn] at hO' hr
 exact⟨a',c',w',hr,hO',hb0.grown hg hb0.size (by intro q e;simp[Value.ownBlock] at e;omega)⟩
theorem zn4 {w:World}{a:Option Addr}{n c:Nat}{l:List Nat}(h:zby w (.slice a n c) l)(hn:n=l.length)(hl:n≤1099511627776) :
  Calls Tryz.prog 173 #[.slice a n c] w fun e w'=>∃ a' c',e= .returned (.slice a' n c')∧zan w' w.heap.size (.slice a' n c') l∧Below w.heap.size w w':=by
 cases a with
 | none =>
  have h0:n=0:=by
   rcases Nat.eq_zero_or_pos n with h0|h0
   ·
    exact h0
   ·
    obtain⟨-,a',c',he,-,hat⟩:=h.open
    obtain⟨x,hx⟩:∃ x,l[0]?=some x:=⟨_,List.getElem?_eq_getElem (by omega)⟩
    obtain⟨-,b,o,ha,-⟩:=hat 0 x hx
    cases he
    cases ha
  obtain⟨Q,HQ⟩:∃ Q:Ending→World→Prop,Hid (Q=fun e w'=>∃ a' c',e= .returned (.slice a' n c')∧zan w' w.heap.size (.slice a' n c') l∧Below w.heap.size w w'):=⟨_,rfl⟩
  rw[←HQ.out]
  have HE:Hid (Q (.returned (.slice none 0 0)) w):=by
   rw[HQ.out]
   subst h0
   refine⟨none,0,rfl,?_,Below.refl _ _⟩
   rw[List.length_eq_zero_iff.1 hn.symm]
   exact World.ownsRow_nil _ _ _ _
  have heq:∀ w,(binOp .eql 62 (.slice none n c) (.slice none 0 0)).run Tryz.prog w= .ok (.bool true) w:=fun w=>rfl
  clear h hn hl h0
  go_enter Tryz.func173,Tryz.ntmps173
  go_wp2_with fail
  exact HE.out
 | some ad =>
  obtain⟨a',c',w',hr,hO,hb⟩:=zjj h hn hl
  obtain⟨Q,HQ⟩:∃ Q:Ending→World→Prop,Hid (Q=fun e w'=>∃ a' c',e= .returned (.slice a' n c')∧zan w' w.heap.size (.slice a' n c') l∧Below w.heap.size w w'):=⟨_,rfl⟩
  rw[←HQ.out]
  have HE:Hid (Q (.returned (.slice a' n c')) w'):=by rw[HQ.out];exact⟨a',c',rfl,hO,hb⟩
  have heq:∀ w,(binOp .eql 62 (.slice (some ad) n c) (.slice none 0 0)).run Tryz.prog w= .ok (.bool false) w:=fun w=>rfl
  clear h hn hl hO hb
  go_enter Tryz.func173,Tryz.ntmps173
  go_wp2_with (at_builtin;refine zad rfl _ _ _ rfl _ _ rfl rfl hr ?_)
  exact HE.out
theorem zar.formC {w:World}{base:Nat}{v:Value}{l:List (List UInt8)}(h:zar w base v l):∃ a c,v= .slice a l.length c:=by
 rcases h.2 with ⟨h1,h2⟩|⟨g,cap,cur,hv,-⟩
 ·
  exact⟨none,0,by rw[h1,h2]⟩
 ·
  exact⟨_,_,hv⟩
theorem zjJ {w:World}{ad:Addr}{n c:Nat}{l:List (List UInt8)}(h:zbe w (.slice (some ad) n c) l)(hn:n=l.length)(hl:n≤1099511627776) :
  ∃ a' c' w',(Builtin.append_ #[25,25] 25 #[.slice (some ⟨w.heap.size,0,none⟩) 0 0,.slice (some ad) n c]).run Tryz.prog (w.alloc (.cells #[] 9))= .ok (.slice a' n c') w'∧zar w' w.heap.size (.slice a' n c') l∧Below w.heap.size w w':=by
 have hb0:Below w.heap.size w (w.alloc (.cells #[] 9)):=(Below.refl _ _).alloc (Nat.le_refl _) _
 have h0:(w.alloc (.cells #[] 9)).ownsRow w.heap.size 9 1 (.slice (some ⟨w.heap.size,0,none⟩) 0 0) 0 []:=World.ownsRow_made (base:=w.heap.size) (e:=9) (size:=1) w #[] 0 (Nat.le_refl _) (by unfold maxLen;omega) rfl
 have hs:Seg (w.alloc (.cells #[] 9)) (.slice (some ad) n c) 1 n (l.map zb3):=by have:=h.1.keep (zaa hb0);rw[←hn] at this;exact this
 obtain⟨v',w',hr,hO,hg,-⟩:=zba (P:=Tryz.prog) _ w.heap.size 25 25 9 (.string ⟨#[]⟩) 1 16 zg7 zf5 rfl (by decide) _ _ 0 n [] _ h0 hs
  (by intro u hu;obtain⟨c,-,rfl⟩:=List.mem_map.1 hu;rfl) (by omega) (by omega) hb0.size
 rw[Nat.zero_add,List.nil_append] at hO
 have hO':zar w' w.heap.size v' l:=by unfold zar;rw[←hn];exact hO
 obtain⟨a',c',rfl⟩:=hO'.formC
 rw[←hn] at hO' hr
 exact⟨a',c',w',hr,hO',hb0.grown hg hb0.size (by intro q e;simp[Value.ownBlock] at e;omega)⟩
theorem zkC {w:World}{a:Option Addr}{n c:Nat}{l:List (List UInt8)}(h:zbe w (.slice a n c) l)(hn:n=l.length)(hl:n≤1099511627776) :
  Calls Tryz.prog 172 #[.slice a n c] w fun e w'=>∃ a' c',e= .returned (.slice a' n c')∧zar w' w.heap.size (.slice a' n c') l∧Below w.heap.size w w':=by
 cases a with
 | none =>
  have h0:n=0:=by
   rcases Nat.eq_zero_or_pos n with h0|h0
   ·
    exact h0
   ·
    obtain⟨-,a',c',he,-,hat⟩:=h.open
    obtain⟨x,hx⟩:∃ x,l[0]?=some x:=⟨_,List.getElem?_eq_getElem (by omega)⟩
    obtain⟨-,b,o,ha,-⟩:=hat 0 x hx
    cases he
    cases ha
  obtain⟨Q,HQ⟩:∃ Q:Ending→World→Prop,Hid (Q=fun e w'=>∃ a' c',e= .returned (.slice a' n c')∧zar w' w.heap.size (.slice a' n c') l∧Below w.heap.size w w'):=⟨_,rfl⟩
  rw[←HQ.out]
  have HE:Hid (Q (.returned (.slice none 0 0)) w):=by
   rw[HQ.out]
   subst h0
   refine⟨none,0,rfl,?_,Below.refl _ _⟩
   rw[List.length_eq_zero_iff.1 hn.symm]
   exact World.ownsRow_nil _ _ _ _
  have heq:∀ w,(binOp .eql 25 (.slice none n c) (.slice none 0 0)).run Tryz.prog w= .ok (.bool true) w:=fun w=>rfl
  clear h hn hl h0
  go_enter Tryz.func172,Tryz.ntmps172
  go_wp2_with fail
  exact HE.out
 | some ad =>
  obtain⟨a',c',w',hr,hO,hb⟩:=zjJ h hn hl
  obtain⟨Q,HQ⟩:∃ Q:Ending→World→Prop,Hid (Q=fun e w'=>∃ a' c',e= .returned (.slice a' n c')∧zar w' w.heap.size (.slice a' n c') l∧Below w.heap.size w w'):=⟨_,rfl⟩
  rw[←HQ.out]
  have HE:Hid (Q (.returned (.slice a' n c')) w'):=by rw[HQ.out];exact⟨a',c',rfl,hO,hb⟩
  have heq:∀ w,(binOp .eql 25 (.slice (some ad) n c) (.slice none 0 0)).run Tryz.prog w= .ok (.bool false) w:=fun w=>rfl
  clear h hn hl hO hb
  go_enter Tryz.func172,Tryz.ntmps172
  go_wp2_with (at_builtin;refine zad rfl _ _ _ rfl _ _ rfl rfl hr ?_)
  exact HE.out
end
end Go.Proofs.YtpckoeicbjfnhaaGreatDoor
