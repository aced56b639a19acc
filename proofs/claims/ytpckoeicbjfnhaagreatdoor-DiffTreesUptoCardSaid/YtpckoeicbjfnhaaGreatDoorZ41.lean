/- Parts of a proof: texts of the author, merged. No condition of their own. -/
import Derived.Test.YtpckoeicbjfnhaaGreatDoorZ07
import Derived.Test.YtpckoeicbjfnhaaGreatDoorZ13
import Derived.Test.YtpckoeicbjfnhaaGreatDoorZ28
import Derived.Test.YtpckoeicbjfnhaaGreatDoorZ39
import Derived.Test.YtpckoeicbjfnhaaGreatDoorZ40
namespace Go.Proofs.YtpckoeicbjfnhaaGreatDoor
set_option maxRecDepth 100000
set_option maxHeartbeats 16000000
section
open Go.RowKit
theorem zor {s:List Mes}(hs:zar s=true):∀ a b,zmv s a b:=by
 intro a
 induction a with
 | zero=>exact fun _ _ _ _ _ _ _ _ _ h=>h.elim
 | succ a ih =>
  intro b
  cases b with
  | zero=>exact fun _ _ _ _ _ _ _ _ _ h=>h.elim
  | succ b=>exact zib hs a b (ih b)
def zb2 (s:List Mes)(root:Int)(a b:Nat)(x:M a)(y:M b):Nat:=
 if zar s=false then 9 else if root<0∨(s.length:Int)≤root then 2 else if (zak s a root x&&zak s b root y)=false then 12 else 0
theorem zos {w:World}{sv v1 v2 u1 u2:Value}{s:List Mes}{d e g:Nat}{x:M d}{y:M e}(hS:zal w sv s)(root:Int)(h:zan d w (.agg #[v1,v2]) x)(h':zan e w (.agg #[u1,u2]) y)(hw:mwt d x≤1099511627776)(hw':mwt e y≤1099511627776)
  (g0:w.cell? ⟨g,0,none⟩=some v1) (g1:w.cell? ⟨g,1,none⟩=some v2) (g2:w.cell? ⟨g,2,none⟩=some u1) (g3:w.cell? ⟨g,3,none⟩=some u2) :
  Calls Tryz.prog 12 #[sv,.int .i64 root,.slice (some ⟨g,0,none⟩) 2 2] w fun e' w'=>e'= .returned (.int .i64 (zb2 s root d e x y))∧Below w.heap.size w w':=by
 have HS:=hid hS
 have HM:=hid h
 have HW:=hid hw
 have HM':=hid h'
 have HW':=hid hw'
 have HA:=hid (znW hS root)
 obtain⟨hsl,sa,sc,rfl,-⟩:=hS.open
 obtain⟨a1,n1,c1,a2,n2,c2,he⟩:=h.form
 cases he
 obtain⟨a3,n3,c3,a4,n4,c4,he⟩:=h'.form
 cases he
 obtain⟨m,HMC⟩:∃ m,Hid (m=zb2 s root d e x y):=⟨_,rfl⟩
 rw[←HMC.out]
 by_cases hb:zar s=false
 ·
  have HE:Hid (m=9):=by rw[Hid,HMC.out,zb2,if_pos hb]
  rw[if_pos hb] at HA
  clear hS h h' hw hw' hb HMC
  go_enter Tryz.func12,Tryz.ntmps12
  go_wp2_with (go_at_call 34;refine HA.out.mono ?_;rintro e w1 ⟨rfl,hb1⟩)
  go_ret
  exact⟨by rw[HE.out];rfl,hb1⟩
 by_cases hr:root<0∨(s.length:Int)≤root
 ·
  have HE:Hid (m=2):=by rw[Hid,HMC.out,zb2,if_neg hb,if_pos hr]
  rw[if_neg hb,if_pos hr] at HA
  clear hS h h' hw hw' hb HMC hr
  go_enter Tryz.func12,Tryz.ntmps12
  go_wp2_with (go_at_call 34;refine HA.out.mono ?_;rintro e w1 ⟨rfl,hb1⟩)
  go_ret
  exact⟨by rw[HE.out];rfl,hb1⟩
 ·
  rw[if_neg hb,if_neg hr] at HA
  have hok:=zeb (s:=s) (by simpa using hb) d
  have hok':=zeb (s:=s) (by simpa using hb) e
  unfold zha at hok hok'
  have HOK:=hid hok
  have HOK':=hid hok'
  obtain⟨r,HR⟩:∃ r,Hid (zak s d root x=r):=⟨_,rfl⟩
  obtain⟨r',HR'⟩:∃ r,Hid (zak s e root y=r):=⟨_,rfl⟩
  have HE:Hid (m=if (r&&r')=false then 12 else 0):=by rw[Hid,HMC.out,zb2,if_neg hb,if_neg hr,HR.out,HR'.out]
  have hix:∀ W:World,(Instr.indexAt 42 (.slice (some ⟨g,0,none⟩) 2 2) (.int .i64 0)).run Tryz.prog W= .ok (.pointer (some ⟨g,0,none⟩)) W:=fun W=>by
   have:=zae Tryz.underlying42 zhP (a:=some ⟨g,0,none⟩) rfl 0 (len:=2) (by decide) (cap:=2) W
   simpa using this
  have hix2:∀ W:World,(Instr.indexAt 42 (.slice (some ⟨g,0,none⟩) 2 2) (.int .i64 1)).run Tryz.prog W= .ok (.pointer (some ⟨g,2,none⟩)) W:=fun W=>by
   have:=zae Tryz.underlying42 zhP (a:=some ⟨g,0,none⟩) rfl 1 (len:=2) (by decide) (cap:=2) W
   simpa using this
  clear hS h h' hw hw' hb HMC hr hok hok'
  go_enter Tryz.func12,Tryz.ntmps12
  go_wp2_with (go_at_call 34;refine HA.out.mono ?_;rintro e w1 ⟨rfl,hb1⟩)
  have HB1:=hid hb1
  have k0:=zaa hb1 _ _ g0
  have k1:=zaa hb1 _ _ g1
  have k2:=zaa hb1 _ _ g2
  have k3:=zaa hb1 _ _ g3
  have lg:g<w1.heap.size:=World.block_lt_of_cell? w1 _ k0
  clear hb1
  go_loopw [8] (fun v8 wr=>∃ i:Nat,v8= .int .i64 i∧i≤2∧Hid (1≤i→r=true)∧Hid (i=2→r'=true)∧Hid (Below w1.heap.size w1 wr)) (fun v8 _=>2 - (intOf v8).toNat)
  case atStart=>exact⟨0,rfl,by omega,fun h=>absurd h (by decide),fun h=>absurd h (by decide),Below.refl _ _⟩
  case round =>
   obtain⟨i,rfl,hi,HI,HI2,HB⟩:=hrel
   have HBW:=hid (HB1.out.trans (HB.out.mono HB1.out.size))
   replace k0:=zaa HB.out _ _ k0
   replace k1:=zaa HB.out _ _ k1
   replace k2:=zaa HB.out _ _ k2
   replace k3:=zaa HB.out _ _ k3
   have lg:g<wr.heap.size:=World.block_lt_of_cell? wr _ k0
   have hi3:i=0∨i=1∨i=2:=by omega
   rcases hi3 with rfl|rfl|rfl
   ·
    go_wp2_with fail
    refine (HOK.out _ root _ _ x (HS.out.below HBW.out) (HM.out.below HBW.out) HW.out).mono ?_
    rintro e w2 ⟨rfl,hb2⟩
    rw[HR.out]
    have HB2:=hid (HB.out.trans (hb2.mono HB.out.size))
    clear hb2
    cases r with
    | false =>
     go_wp2_with fail
     go_ret
     exact⟨by rw[HE.out];rfl,HB1.out.trans (HB2.out.mono HB1.out.size)⟩
    | true =>
     go_wp2_with fail
     go_roundw
     case rel=>exact⟨1,by first|rfl|go_num,by omega,by simp[Hid],by simp[Hid],HB2.out⟩
     case measure=>simp[intOf]
   ·
    have hr1:=HI.out (by omega)
    subst hr1
    go_wp2_with fail
    refine (HOK'.out _ root _ _ y (HS.out.below HBW.out) (HM'.out.below HBW.out) HW'.out).mono ?_
    rintro e w2 ⟨rfl,hb2⟩
    rw[HR'.out]
    have HB2:=hid (HB.out.trans (hb2.mono HB.out.size))
    clear hb2
    cases r' with
    | false =>
     go_wp2_with fail
     go_ret
     exact⟨by rw[HE.out];rfl,HB1.out.trans (HB2.out.mono HB1.out.size)⟩
    | true =>
     go_wp2_with fail
     go_roundw
     case rel=>exact⟨2,by first|rfl|go_num,by omega,by simp[Hid],by simp[Hid],HB2.out⟩
     case measure=>simp[intOf]
   ·
    have hr1:=HI.out (by omega)
    have hr2:=HI2.out rfl
    subst hr1
    subst hr2
    go_wp2_with fail
    go_ret
    exact⟨by rw[HE.out];rfl,HBW.out⟩
end
section
open Go.RowKit
variable {P:Program} {ops:Array Oper} {md:Region.Mode} {Q:Exit→Act→World→Prop}
theorem zfy {V V' X:World→Prop}{g:Nat}(h:∀ w,V' w→V w):∀ (fuel:Nat) (listed:Array Bool) (a:Act) (w:World),zcq P md ops Q V' X g fuel listed a w→zcq P md ops Q V X g fuel listed a w
 | 0,_,_,_,h0=>h0
 | fuel+1,_,_,_,h0=>⟨h0.1,fun i hi=>wpOp_mono (fun a' w' h'=>⟨⟨h _ h'.1.1,h'.1.2⟩,zfy h fuel _ a' w' h'.2⟩) (h0.2 i hi)⟩
theorem zqk (a:Act)(d:Nat)(u v:Value):(a.put (some d) u).put (some d) v=a.put (some d) v:=by
 simp[Act.put]
theorem zkg (a:Act){d e:Nat}(h:d≠e)(u v:Value):(a.put (some d) u).put (some e) v=(a.put (some e) v).put (some d) u:=by
 simp only[Act.put]
 rw[Array.setIfInBounds_comm _ _ h]
def Stab (V:World→Prop):Prop:=∀ w w',V w→Below w.heap.size w w'→V w'
structure Flo where
 j:Nat
 d:Nat
 z:List Value
 T:TypeId
def Flo.Ok (P:Program)(ops:Array Oper)(f:Flo):Prop:=∃ o,ops[f.j]?=some o∧o.dst=some f.d∧o.guard=none∧∀ (a:Act) (w:World),(execOp a.eval o).run P w= .ok (.value (.pointer (some ⟨w.heap.size,0,none⟩))) (w.alloc (.cells f.z.toArray f.T))
def Flo.At (f:Flo)(H:Nat)(rs:List (Nat × Nat))(b:Bool)(u:Value)(w:World):Prop:=b=true→∃ p,u= .pointer (some ⟨p,0,none⟩)∧H≤p∧(∀ r∈rs,p<r.1∨r.2≤p)∧Blk w p f.z f.T
theorem Flo.At.below {f:Flo}{H:Nat}{rs:List (Nat × Nat)}{b:Bool}{u:Value}{w w':World}(h:f.At H rs b u w)(hb:Below w.heap.size w w'):f.At H rs b u w':=fun e=>let ⟨p,h1,h0,h3,h2⟩:=h e;⟨p,h1,h0,h3,h2.below hb⟩
theorem Flo.At.call {f:Flo}{H:Nat}{rs:List (Nat × Nat)}{b:Bool}{u:Value}{w w':World}(h:f.At H rs b u w)(hb:Below w.heap.size w w'):f.At H ((w.heap.size,w'.heap.size)::rs) b u w':=fun e=>by
 obtain⟨p,h1,h0,h3,h2⟩:=h e
 refine⟨p,h1,h0,fun r hr=>?_,h2.below hb⟩
 rcases List.mem_cons.1 hr with rfl|hr
 ·
  exact .inl h2.lt
 ·
  exact h3 r hr
def zgx (f f2:Flo)(b b2:Bool)(base:Array Bool):Array Bool:=(if b then (fun x:Array Bool=>x.setIfInBounds f.j true) else id) ((if b2 then (fun x:Array Bool=>x.setIfInBounds f2.j true) else id) base)
theorem zju {f:Flo}{K:Act→World→Prop}{a:Act}{w:World}(hf:f.Ok P ops)(h:K (a.put (some f.d) (.pointer (some ⟨w.heap.size,0,none⟩))) (w.alloc (.cells f.z.toArray f.T))):wpOp P ops Q f.j K a w:=by
 obtain⟨o,h1,h2,h3,h4⟩:=hf
 unfold wpOp
 rw[h1]
 simp only
 rw[if_pos (zbM (by rw[h3];rfl))]
 refine Or.inl ?_
 unfold Oper.wp
 rw[h4]
 show K (a.put o.dst _) _
 rw[h2]
 exact h
theorem zgO {k:Nat}{o:Oper}{a:Act}{w:World}(hk:ops[k]?=some o){T:Act→World→Prop}(h:∀ K:Exit→Act→World→Prop,Hid (∀ a' w',T a' w'→K .normal a' w')→wpList P ops K [o] a w):wpOp P ops Q k T a w:=by
 have h2:=h (fun e a' w'=>match e with | .normal=>T a' w'|e=>Q e a' w') (hid fun a' w' h=>h)
 unfold wpOp
 simp only[hk]
 rw[wpList] at h2
 split at h2
 ·
  rename_i hw
  simp only[hw,if_true]
  exact h2.imp (zpK (fun _ _ h=>h) (fun _ _ _ h=>h) (fun h=>h)) (fun h=>⟨h.1,h.2⟩)
 ·
  rename_i hw
  simp only[hw]
  exact h2
def zrG (p:Nat):Value:=.pointer (some ⟨p,0,none⟩)
def zg3 (f f2:Flo)(a:Act)(u u2:Value):Act:=(a.put (some f.d) u).put (some f2.d) u2
def seqF (P:Program)(ops:Array Oper)(Q:Exit→Act→World→Prop)(H:Nat)(f f2:Flo)(ts2:List (Nat × Nat))(os2:List Oper):List (Nat × Nat)→List Nat→List Oper→(World→Prop)→Act→Prop
 | rs,0::ts,o::os,V,a0=>∃ v,(∀ u u2 w,V w→(execOp (zg3 f f2 a0 u u2).eval o).run P w= .ok (.value v) w)∧seqF P ops Q H f f2 ts2 os2 rs ts os V (a0.put o.dst v)
 | rs,_::ts,o::os,V,a0=>∀ u u2 w,V w→∀ K:Exit→Act→World→Prop,Hid (∀ v w' (V':World→Prop),Stab V'→(∀ w,V' w→V w)→(∀ W,V' W→w'.heap.size≤W.heap.size)→V' w'→Below w.heap.size w w'→seqF P ops Q H f f2 ts2 os2 ((w.heap.size,w'.heap.size)::rs) ts os V' (a0.put o.dst v)→K .normal ((zg3 f f2 a0 u u2).put o.dst v) w')→wpList P ops K [o] (zg3 f f2 a0 u u2) w
 | rs,_,_,V,a0=>∀ p p2 w,V w→p≠p2→H≤p→H≤p2→(∀ r∈rs,p<r.1∨r.2≤p)→(∀ r∈rs,p2<r.1∨r.2≤p2)→Blk w p f.z f.T→Blk w p2 f2.z f2.T→ziB P ops Q V (fun _=>True) ts2 os2 (zg3 f f2 a0 (zrG p) (zrG p2)) w
def zrH:List (Bool × Bool):=[(false,false),(false,true),(true,false),(true,true)]
def plF (md:Region.Mode)(ops:Array Oper)(g:Nat)(f f2:Flo)(ts2:List (Nat × Nat × Nat)):List (Nat × Nat)→Array Bool→Bool
 | [],base=>zop md ops g ts2 (zgx f f2 true true base)&&[(false,false),(false,true),(true,false)].all fun b =>
   (Region.ready md ops (zgx f f2 b.1 b.2 base)).all (fun i=>(!b.1&&i == f.j)||(!b.2&&i == f2.j)) && !(Region.ready md ops (zgx f f2 b.1 b.2 base)).isEmpty
 | (k,t)::ts,base=>(!(k == f.j) && !(k == f2.j) && !(k == g)&&zrH.all fun b=>match t with
   | 0=>Region.free md ops (zgx f f2 b.1 b.2 base) k&&(Region.ready md ops (zgx f f2 b.1 b.2 base)).contains k&&((ops[k]?).map fun o=>o.guard.isNone).getD false&&((ops[k]?).map fun o=>decide (o.dst≠some f.d)&&decide (o.dst≠some f2.d)).getD false
   | _=>(Region.ready md ops (zgx f f2 b.1 b.2 base)).contains k&&(Region.ready md ops (zgx f f2 b.1 b.2 base)).all (fun i=>i == k||(!b.1&&i == f.j)||(!b.2&&i == f2.j))&&((ops[k]?).map fun o=>decide (o.dst≠some f.d)&&decide (o.dst≠some f2.d)).getD false)&&plF md ops g f f2 ts2 ts (base.setIfInBounds k true)
def znb (b b2:Bool):Nat:=(if b then 0 else 1)+(if b2 then 0 else 1)
theorem zkh {f f2:Flo}{b b2:Bool}{base:Array Bool}(k:Nat):(zgx f f2 b b2 base).setIfInBounds k true=zgx f f2 b b2 (base.setIfInBounds k true):=by
 have hc:∀ (x:Array Bool) (i j:Nat),(x.setIfInBounds i true).setIfInBounds j true=(x.setIfInBounds j true).setIfInBounds i true:=fun x i j=>by
  by_cases h:i=j
  ·
   subst h;rfl
  ·
   rw[Array.setIfInBounds_comm _ _ h]
 unfold zgx
 cases b <;> cases b2 <;> simp only[if_true,if_false,Bool.false_eq_true,id]
 ·
  rw[hc]
 ·
  rw[hc]
 ·
  rw[hc,hc base]
theorem mark1 {f f2:Flo}{b2:Bool}{base:Array Bool}:(zgx f f2 false b2 base).setIfInBounds f.j true=zgx f f2 true b2 base:=by
 unfold zgx;cases b2 <;> rfl
theorem mark2 {f f2:Flo}{b:Bool}{base:Array Bool}:(zgx f f2 b false base).setIfInBounds f2.j true=zgx f f2 b true base:=by
 have hc:∀ (x:Array Bool) (i j:Nat),(x.setIfInBounds i true).setIfInBounds j true=(x.setIfInBounds j true).setIfInBounds i true:=fun x i j=>by
  by_cases h:i=j
  ·
   subst h;rfl
  ·
   rw[Array.setIfInBounds_comm _ _ h]
 unfold zgx
 cases b <;> simp only[if_true,if_false,Bool.false_eq_true,id]
 rw[hc]
theorem zki {f f2:Flo}{a:Act}{u u2 v:Value}{dst:Option Nat}(h:dst≠some f.d)(h2:dst≠some f2.d):(zg3 f f2 a u u2).put dst v=zg3 f f2 (a.put dst v) u u2:=by
 cases dst with
 | none=>rfl
 | some e =>
  have h:e≠f.d:=fun e2=>h (by rw[e2])
  have h2:e≠f2.d:=fun e2=>h2 (by rw[e2])
  unfold zg3
  rw[zkg _ (Ne.symm h2),zkg _ (Ne.symm h)]
theorem actF_d {f f2:Flo}{a:Act}{u u2 v:Value}(h:f.d≠f2.d):(zg3 f f2 a u u2).put (some f.d) v=zg3 f f2 a v u2:=by
 unfold zg3
 rw[zkg _ (Ne.symm h),zqk]
theorem zsb {f f2:Flo}{a:Act}{u u2 v:Value}:(zg3 f f2 a u u2).put (some f2.d) v=zg3 f f2 a u v:=by
 unfold zg3
 rw[zqk]
theorem zkj {f f2:Flo}(hf:f.Ok P ops)(hf2:f2.Ok P ops)(hd:f.d≠f2.d){V:World→Prop}(hS:Stab V){H:Nat}{rs:List (Nat × Nat)}(hH:∀ w,V w→H≤w.heap.size)(hR:∀ w,V w→∀ r∈rs,r.2≤w.heap.size){g:Nat}{base:Array Bool}{a0:Act}{n fuel:Nat}
  (ih:∀ b b2 u u2 w,znb b b2=n→zcC md ops (zgx f f2 b b2 base)→V w→f.At H rs b u w→f2.At H rs b2 u2 w→(b=true→b2=true→u≠u2)→zcq P md ops Q V (fun _=>True) g fuel (zgx f f2 b b2 base) (zg3 f f2 a0 u u2) w)
  {b b2:Bool} {u u2:Value} {w:World} (hn:znb b b2=n+1) (hc:zcC md ops (zgx f f2 b b2 base)) (hV:V w) (h1:f.At H rs b u w) (h2:f2.At H rs b2 u2 w) {i:Nat} (hr:i∈Region.ready md ops (zgx f f2 b b2 base)) (hi:(!b&&i == f.j)=true∨(!b2&&i == f2.j)=true) :
  wpOp P ops Q i (fun a' w'=>AtG V (fun _=>True) g ((zgx f f2 b b2 base).setIfInBounds i true) w'∧zcq P md ops Q V (fun _=>True) g fuel ((zgx f f2 b b2 base).setIfInBounds i true) a' w') (zg3 f f2 a0 u u2) w:=by
 rcases hi with hi|hi
 ·
  simp only[Bool.and_eq_true,Bool.not_eq_true',beq_iff_eq] at hi
  obtain⟨rfl,rfl⟩:=hi
  have hb:Below w.heap.size w (w.alloc (.cells f.z.toArray f.T)):=(Below.refl _ _).alloc (Nat.le_refl _) _
  refine zju hf ⟨⟨hS _ _ hV hb,fun _=>trivial⟩,?_⟩
  have hc':=hc.set hr
  rw[mark1] at hc' ⊢
  rw[actF_d hd]
  refine ih true b2 _ u2 _ ?_ hc' (hS _ _ hV hb) (fun _=>⟨_,rfl,hH w hV,fun r hr=> .inr (hR w hV r hr),Blk.new w f.z f.T⟩) (h2.below hb) fun _ e=>?_
  ·
   cases b2 <;> simp[znb] at hn ⊢ <;> omega
  ·
   obtain⟨p,rfl,-,-,hp⟩:=h2 e
   intro e2
   have:=hp.lt
   injection e2 with e2;injection e2 with e2;injection e2 with e2
   omega
 ·
  simp only[Bool.and_eq_true,Bool.not_eq_true',beq_iff_eq] at hi
  obtain⟨rfl,rfl⟩:=hi
  have hb:Below w.heap.size w (w.alloc (.cells f2.z.toArray f2.T)):=(Below.refl _ _).alloc (Nat.le_refl _) _
  refine zju hf2 ⟨⟨hS _ _ hV hb,fun _=>trivial⟩,?_⟩
  have hc':=hc.set hr
  rw[mark2] at hc' ⊢
  rw[zsb]
  refine ih b true u _ _ ?_ hc' (hS _ _ hV hb) (h1.below hb) (fun _=>⟨_,rfl,hH w hV,fun r hr=> .inr (hR w hV r hr),Blk.new w f2.z f2.T⟩) fun e _=>?_
  ·
   cases b <;> simp[znb] at hn ⊢ <;> omega
  ·
   obtain⟨p,rfl,-,-,hp⟩:=h1 e
   intro e2
   have:=hp.lt
   injection e2 with e2;injection e2 with e2;injection e2 with e2
   omega
theorem zgy (b b2:Bool):(b,b2)∈zrH:=by cases b <;> cases b2 <;> decide
theorem zlr (hsel:Region.noSelect ops=true)(hQ:∀ c (a:Act) dst v w,Q (.panic c) (a.put dst v) w→Q (.panic c) a w){f f2:Flo}(hf:f.Ok P ops)(hf2:f2.Ok P ops)(hd:f.d≠f2.d){g H:Nat}
  (ts2:List (Nat × Nat × Nat)) (os2:List Oper) (hos2:os2.map some=ts2.map (fun t=>ops[t.1]?)) (ts:List (Nat × Nat)):∀ (rs:List (Nat × Nat)) (os:List Oper) (V:World→Prop) (a0:Act) (base:Array Bool),
  os.map some=ts.map (fun t=>ops[t.1]?)→plF md ops g f f2 ts2 ts base=true→Stab V→(∀ w,V w→H≤w.heap.size)→(∀ w,V w→∀ r∈rs,r.2≤w.heap.size)→seqF P ops Q H f f2 (ts2.map (·.2)) os2 rs (ts.map (·.2)) os V a0 →
  ∀ (n:Nat) b b2 u u2 w,znb b b2=n→zcC md ops (zgx f f2 b b2 base)→V w→f.At H rs b u w→f2.At H rs b2 u2 w→(b=true→b2=true→u≠u2) →
   zcq P md ops Q V (fun _=>True) g (n+ts.length+ts2.length) (zgx f f2 b b2 base) (zg3 f f2 a0 u u2) w:=by
 induction ts with
 | nil =>
  intro rs os V a0 base hl hB hS hH hR h n
  unfold plF at hB
  obtain⟨hB1,hB2⟩:=(Bool.and_eq_true _ _).mp hB
  induction n with
  | zero =>
   intro b b2 u u2 w hp hc hV h1 h2 hne
   obtain⟨rfl,rfl⟩:b=true∧b2=true:=by cases b <;> cases b2 <;> simp[znb] at hp ⊢
   obtain⟨p,rfl,hq1,hr1,hp1⟩:=h1 rfl
   obtain⟨p2,rfl,hq2,hr2,hp2⟩:=h2 rfl
   have hpp:p≠p2:=fun e=>hne rfl rfl (by rw[e])
   have hs:ziB P ops Q V (fun _=>True) (ts2.map (·.2)) os2 (zg3 f f2 a0 (zrG p) (zrG p2)) w:=by
    cases os with
    | nil=>exact h p p2 w hV hpp hq1 hq2 hr1 hr2 hp1 hp2
    | cons o os=>simp at hl
   have:=zgN (md:=md) (g:=g) hsel hQ ts2 os2 _ (zg3 f f2 a0 (zrG p) (zrG p2)) w hos2 hc hB1 hV (fun _=>trivial) hs
   simpa [zrG] using this
  | succ n ihn =>
   intro b b2 u u2 w hp hc hV h1 h2 hne
   have hbb:(b,b2)∈[(false,false),(false,true),(true,false)]:=by cases b <;> cases b2 <;> simp[znb] at hp ⊢
   have hck:=List.all_eq_true.1 hB2 _ hbb
   simp only[Bool.and_eq_true] at hck
   obtain⟨hall,hne2⟩:=hck
   rw[show n+1+([]:List (Nat × Nat)).length+ts2.length=(n+([]:List (Nat × Nat)).length+ts2.length)+1 by simp;omega]
   refine⟨fun e=>?_,fun i hi=>?_⟩
   ·
    rw[e] at hne2;simp at hne2
   ·
    have hi2:=List.all_eq_true.1 hall i hi
    rw[Bool.or_eq_true] at hi2
    exact zkj hf hf2 hd hS hH hR (fun b b2 u u2 w hp hc hV h1 h2 hne=>ihn b b2 u u2 w hp hc hV h1 h2 hne) hp hc hV h1 h2 hi hi2
 | cons t ts ih =>
  intro rs os V a0 base hl hB hS hH hR h
  obtain⟨k,tag⟩:=t
  cases os with
  | nil=>simp at hl
  | cons o os =>
   rw[List.map_cons,List.map_cons] at hl
   obtain⟨hi0,hl'⟩:=List.cons.inj hl
   have hi:ops[k]?=some o:=hi0.symm
   clear hl hi0
   unfold plF at hB
   obtain⟨hB1,hB2⟩:=(Bool.and_eq_true _ _).mp hB
   obtain⟨hB3,hB4⟩:=(Bool.and_eq_true _ _).mp hB1
   simp only[Bool.and_eq_true,Bool.not_eq_true',beq_eq_false_iff_ne] at hB3
   obtain⟨⟨hkf,hkf2⟩,hkg⟩:=hB3
   rw[List.map_cons] at h
   rcases tag with _|tag
   ·
    obtain⟨v,hy,h⟩:=h
    intro n b b2 u u2 w hp hc hV h1 h2 hne
    have hck:=List.all_eq_true.1 hB4 _ (zgy b b2)
    simp only[Bool.and_eq_true] at hck
    obtain⟨⟨⟨h3,h4⟩,h6⟩,h7⟩:=hck
    rw[hi] at h6 h7
    simp only[Option.map_some,Option.getD_some,Bool.and_eq_true,decide_eq_true_eq] at h7
    have h4':k∈Region.ready md ops (zgx f f2 b b2 base):=List.contains_iff_mem.1 h4
    rw[show n+((k,0)::ts).length+ts2.length=(n+ts.length+ts2.length)+1 by simp;omega]
    refine zbL hi (Region.noSelect_spec hsel) (fun c a w h=>hQ c _ _ _ w h) hkg V (fun _ _ _ _ hA=>hA.1) _ _ _ w hc (Region.free_spec hi h3) h4' (Or.inl ⟨zbM h6,hy u u2⟩) ⟨hV,fun _=>trivial⟩ ?_
    have hc':=hc.set h4'
    rw[zkh] at hc' ⊢
    rw[zki h7.1 h7.2]
    exact ih rs os V _ _ hl' hB2 hS hH hR h n b b2 u u2 w hp hc' hV h1 h2 hne
   ·
    intro n
    induction n with
    | zero =>
     intro b b2 u u2 w hp hc hV h1 h2 hne
     have hck:=List.all_eq_true.1 hB4 _ (zgy b b2)
     simp only[Bool.and_eq_true] at hck
     obtain⟨⟨h4,h5⟩,h7⟩:=hck
     rw[hi] at h7
     simp only[Option.map_some,Option.getD_some,Bool.and_eq_true,decide_eq_true_eq] at h7
     have h4':k∈Region.ready md ops (zgx f f2 b b2 base):=List.contains_iff_mem.1 h4
     obtain⟨rfl,rfl⟩:b=true∧b2=true:=by cases b <;> cases b2 <;> simp[znb] at hp ⊢
     rw[show 0+((k,tag+1)::ts).length+ts2.length=(0+ts.length+ts2.length)+1 by simp;omega]
     refine⟨fun e=>(by rw[e] at h4';cases h4'),fun i hir=>?_⟩
     have hi2:=List.all_eq_true.1 h5 i hir
     simp at hi2
     subst hi2
     refine zgO hi fun K HK=>h u u2 w hV K (hid fun v w' V' hS' hw' hsz hV' hb hseq=>HK.out _ _ ⟨⟨hw' _ hV',fun _=>trivial⟩,zfy hw' _ _ _ _ ?_⟩)
     have hc':=hc.set h4'
     rw[zkh] at hc' ⊢
     rw[zki h7.1 h7.2]
     exact ih _ os V' _ _ hl' hB2 hS' (fun w h=>hH w (hw' w h)) (fun W hW r hr=>by
      rcases List.mem_cons.1 hr with rfl|hr
      ·
       exact hsz W hW
      ·
       exact hR W (hw' W hW) r hr) hseq 0 true true u u2 w' rfl hc' hV' (h1.call hb) (h2.call hb) hne
    | succ n ihn =>
     intro b b2 u u2 w hp hc hV h1 h2 hne
     have hck:=List.all_eq_true.1 hB4 _ (zgy b b2)
     simp only[Bool.and_eq_true] at hck
     obtain⟨⟨h4,h5⟩,h7⟩:=hck
     rw[hi] at h7
     simp only[Option.map_some,Option.getD_some,Bool.and_eq_true,decide_eq_true_eq] at h7
     have h4':k∈Region.ready md ops (zgx f f2 b b2 base):=List.contains_iff_mem.1 h4
     rw[show n+1+((k,tag+1)::ts).length+ts2.length=(n+1+ts.length+ts2.length)+1 by simp;omega]
     refine⟨fun e=>(by rw[e] at h4';cases h4'),fun i hir=>?_⟩
     have hi2:=List.all_eq_true.1 h5 i hir
     simp only[Bool.or_eq_true] at hi2
     rcases hi2 with (hi2|hi2)|hi2
     ·
      have hi2:i=k:=by simpa using hi2
      subst hi2
      refine zgO hi fun K HK=>h u u2 w hV K (hid fun v w' V' hS' hw' hsz hV' hb hseq=>HK.out _ _ ⟨⟨hw' _ hV',fun _=>trivial⟩,zfy hw' _ _ _ _ ?_⟩)
      have hc':=hc.set h4'
      rw[zkh] at hc' ⊢
      rw[zki h7.1 h7.2]
      exact ih _ os V' _ _ hl' hB2 hS' (fun w h=>hH w (hw' w h)) (fun W hW r hr=>by
      rcases List.mem_cons.1 hr with rfl|hr
      ·
       exact hsz W hW
      ·
       exact hR W (hw' W hW) r hr) hseq (n+1) b b2 u u2 w' hp hc' hV' (h1.call hb) (h2.call hb) hne
     ·
      rw[show n+1+ts.length+ts2.length=n+((k,tag+1)::ts).length+ts2.length by simp;omega]
      exact zkj hf hf2 hd hS hH hR (fun b b2 u u2 w hp hc hV h1 h2 hne=>ihn b b2 u u2 w hp hc hV h1 h2 hne) hp hc hV h1 h2 hir (.inl hi2)
     ·
      rw[show n+1+ts.length+ts2.length=n+((k,tag+1)::ts).length+ts2.length by simp;omega]
      exact zkj hf hf2 hd hS hH hR (fun b b2 u u2 w hp hc hV h1 h2 hne=>ihn b b2 u u2 w hp hc hV h1 h2 hne) hp hc hV h1 h2 hir (.inr hi2)
theorem znc (a:Act)(d:Nat):a.put (some d) (a.tmps.getD d undef)=a:=by
 have h:a.tmps.setIfInBounds d (a.tmps.getD d undef)=a.tmps:=by
  apply Array.ext
  ·
   simp
  ·
   intro i h1 h2
   rw[Array.getElem_setIfInBounds]
   split
   ·
    rename_i e
    subst e
    simp[Array.getD,h2]
   ·
    rfl
 show { a with tmps:=a.tmps.setIfInBounds d (a.tmps.getD d undef) }=a
 rw[h]
theorem zql (f f2:Flo)(a:Act):zg3 f f2 a (a.tmps.getD f.d undef) (a.tmps.getD f2.d undef)=a:=by
 unfold zg3
 rw[znc,znc]
theorem picksF {l:List Oper}:∀ ts:List (Nat × Nat),(ts.all fun t=>decide (t.1<l.length))=true→(ts.filterMap fun t=>l[t.1]?).map some=ts.map fun t=>l.toArray[t.1]?:=zr5
theorem zic {id:Nat}{l:List Oper}{a:Act}{w:World}(V:World→Prop)(g:Nat)(f f2:Flo)(ts:List (Nat × Nat))(ts2:List (Nat × Nat × Nat))(hm:P.follows .mixedOrders=true)(hlen:2+ts.length+ts2.length=l.length)
  (hin:(ts.all fun t=>decide (t.1<l.length))=true) (hin2:(ts2.all fun t=>decide (t.1<l.length))=true) (hB:(Region.noSelect l.toArray&&plF .any l.toArray g f f2 ts2 ts (Array.replicate l.length false))=true)
  (hQ:∀ c (a:Act) dst v w,Q (.panic c) (a.put dst v) w→Q (.panic c) a w) (hf:f.Ok P l.toArray) (hf2:f2.Ok P l.toArray) (hd:f.d≠f2.d) (hS:Stab V) (H:Nat) (hH:∀ w,V w→H≤w.heap.size) (hV:V w.drew)
  (h0:∀ ops',Hid (ops'=l.toArray)→seqF P ops' Q H f f2 (ts2.map (·.2)) (ts2.filterMap fun t=>l[t.1]?) [] (ts.map (·.2)) (ts.filterMap fun t=>l[t.1]?) V a):(Code.region id l.toArray true).wp P Q a w:=by
 have h:=h0 l.toArray (hid rfl)
 rw[Bool.and_eq_true] at hB
 refine wp_region_any hm (zdN (V:=V) (X:=fun _=>True) (g:=g) _ _ _ _ ?_)
 have:=zlr (md:=.any) (Q:=Q) (P:=P) (g:=g) hB.1 hQ hf hf2 hd ts2 _ (zqj ts2 hin2) ts [] _ V a (Array.replicate l.length false) (picksF ts hin) hB.2 hS hH (fun _ _ r hr=>by cases hr) h 2 false false (a.tmps.getD f.d undef) (a.tmps.getD f2.d undef) w.drew rfl
  (show zcC _ _ (Array.replicate l.length false) from fun j oj _ hl=>by
   rw[Array.getD_eq_getD_getElem?,Array.getElem?_replicate] at hl
   split at hl <;> cases hl) hV (fun e=>by cases e) (fun e=>by cases e) (fun e=>by cases e)
 rw[zql,hlen] at this
 have e:l.toArray.size=l.length:=by simp
 rw[e]
 exact this
end
section
open Go.RowKit
variable {P:Program} {ops:Array Oper} {md:Region.Mode} {Q:Exit→Act→World→Prop}
def ze6 (n0 lo hi:Nat)(w:World)(P:World→Prop):Prop:=∀ w',(∀ b,(b<n0∨(lo≤b∧b<hi))→w'.heap[b]?=w.heap[b]?)→P w'
theorem ze6.here {n0 lo hi:Nat}{w:World}{P:World→Prop}(h:ze6 n0 lo hi w P):P w:=h w fun _ _=>rfl
theorem ze6.below {n0 lo hi:Nat}{w w':World}{P:World→Prop}(h:ze6 n0 lo hi w P)(h0:n0≤w.heap.size)(h1:hi≤w.heap.size)(hb:Below w.heap.size w w'):ze6 n0 lo hi w' P:=fun w2 hw2=>h w2 fun b hc=>(hw2 b hc).trans (hb.block b (by omega))
theorem ze6.set {n0 lo hi p j:Nat}{w:World}{P:World→Prop}(h:ze6 n0 lo hi w P)(h0:n0≤p)(h1:p<lo∨hi≤p)(u:Value):ze6 n0 lo hi (w.setCell ⟨p,j,none⟩ u) P:=fun w2 hw2=>h w2 fun b hc=>(hw2 b hc).trans (Below.heap_setCell _ _ _ b (by show b≠p;omega))
theorem znd {n0 lo:Nat}{w:World}{P:World→Prop}(h:zej n0 lo w P):ze6 n0 lo w.heap.size w P:=fun w' hw'=>h w' fun b hb hc=>hw' b (hc.imp id fun h=>⟨h,hb⟩)
end
end Go.Proofs.YtpckoeicbjfnhaaGreatDoor
