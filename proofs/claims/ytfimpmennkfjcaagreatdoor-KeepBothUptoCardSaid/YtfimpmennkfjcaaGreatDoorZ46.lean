/- Parts of a proof: texts of the author, merged. No condition of their own. -/
import Derived.Test.YtfimpmennkfjcaaGreatDoorZ15
import Derived.Test.YtfimpmennkfjcaaGreatDoorZ16
import Derived.Test.YtfimpmennkfjcaaGreatDoorZ19
import Derived.Test.YtfimpmennkfjcaaGreatDoorZ22
import Derived.Test.YtfimpmennkfjcaaGreatDoorZ24
import Derived.Test.YtfimpmennkfjcaaGreatDoorZ41
import Derived.Test.YtfimpmennkfjcaaGreatDoorZ42
import Derived.Test.YtfimpmennkfjcaaGreatDoorZ43
import Derived.Test.YtfimpmennkfjcaaGreatDoorZ44
import Derived.Test.YtfimpmennkfjcaaGreatDoorZ45
import Derived.Deep.CutBlock
import Derived.Deep.CutRange
namespace Go.Proofs.YtfimpmennkfjcaaGreatDoor
open Go.RowKit
def orC (a b:Nat):Nat:=if a = 0 then b else a
theorem orC_zero {a b:Nat}:orC a b = 0 ↔ a = 0 ∧ b = 0:=by
 unfold orC
 by_cases h:a = 0
 ·
  rw [if_pos h];exact ⟨fun hb => ⟨h,hb⟩,fun hb => hb.2⟩
 ·
  rw [if_neg h];exact ⟨fun hb => absurd hb h,fun hb => hb.1⟩
theorem orC_lt {a b n:Nat} (ha:a < n) (hb:b < n):orC a b < n:=by
 unfold orC
 split
 ·
  exact hb
 ·
  exact ha
def pathsCode1 (s:List Mes) (root d:Int) (ps:List (List UInt8)):Nat:=orC (argsCode s root d) (makeC s root ps).1
def pathsCode (s:List Mes) (root d:Int) (b:List UInt8) (ps:List (List UInt8)):Nat:=orC (pathsCode1 s root d ps) (vcheck s root b d).2
theorem code_ok {s:List Mes} {root d:Int} {b:List UInt8} {ps:List (List UInt8)} (h:pathsCode s root d b ps = 0):argsCode s root d = 0 ∧ (makeC s root ps).1 = 0 ∧ (vcheck s root b d).2 = 0:=by
 unfold pathsCode pathsCode1 at h
 obtain ⟨h1,h3⟩:=orC_zero.1 h
 obtain ⟨h1,h2⟩:=orC_zero.1 h1
 exact ⟨h1,h2,h3⟩
theorem named_by_code (s:List Mes) (root d:Int) (b:List UInt8) (ps:List (List UInt8)) (keep:Bool) :
  namedC s root d b ps keep = if pathsCode s root d b ps ≠ 0 then (pathsCode s root d b ps,[]) else (0,kpart s keep d.toNat root.toNat (makeC s root ps).2 b):=by
 unfold namedC
 by_cases h1:argsCode s root d = 0
 ·
  rw [if_neg (fun h => h h1)]
  by_cases h2:(makeC s root ps).1 = 0
  ·
   rw [if_neg (fun h => h h2)]
   obtain ⟨-,-,a,-,h5⟩:=make_ok h2
   obtain ⟨l,hp,-⟩:=names_law h5
   have hc:pathsCode s root d b ps = (vcheck s root b d).2:=by unfold pathsCode pathsCode1 orC;rw [h1,h2];rfl
   rw [hc]
   unfold partsC
   by_cases h6:(vcheck s root b d).2 = 0
   ·
    rw [if_neg (fun h => h h6),h5]
    simp only
    rw [hp,if_neg (fun h => h rfl),if_neg (fun h => h h6),mOf_self]
   ·
    rw [if_pos h6,if_pos h6]
  ·
   have hc:pathsCode s root d b ps = (makeC s root ps).1:=by unfold pathsCode pathsCode1 orC;rw [h1,if_pos rfl,if_neg h2]
   rw [if_pos h2,hc,if_pos h2]
 ·
  have hc:pathsCode s root d b ps = argsCode s root d:=by unfold pathsCode pathsCode1 orC;rw [if_neg h1,if_neg h1]
  rw [if_pos h1,hc,if_pos h1]
theorem maskArgs_lt (s:List Mes) (root:Int):maskArgs s root < 256:=by
 rcases maskArgs_cases s root with e | e | e
 ·
  omega
 ·
  omega
 ·
  omega
theorem make_code (s:List Mes) (root:Int) (ps:List (List UInt8)):(makeC s root ps).1 < 256:=by
 unfold makeC
 split
 ·
  exact maskArgs_lt s root
 ·
  split
  ·
   show 13 < 256;decide
  ·
   split
   ·
    show 0 < 256;decide
   ·
    show 10 < 256;decide
theorem args_code (s:List Mes) (root d:Int):argsCode s root d < 256:=by have:=args_cases s root d;omega
theorem pathsCode_lt (s:List Mes) (root d:Int) (b:List UInt8) (ps:List (List UInt8)):pathsCode s root d b ps < 256 ∧ pathsCode1 s root d ps < 256:=
 ⟨orC_lt (orC_lt (args_code s root d) (make_code s root ps)) (vcheck_code s root b d),orC_lt (args_code s root d) (make_code s root ps)⟩
theorem twt_memP {l:List (List UInt8)} {t:List UInt8} (h:t ∈ l):t.length < twt l:=by
 have h1:=mem_sum_le (fun t:List UInt8 => 1 + t.length) l t h
 unfold twt
 omega
end Go.Proofs.YtfimpmennkfjcaaGreatDoor
namespace Go.Proofs.YtfimpmennkfjcaaGreatDoor
open Go.RowKit
theorem all2_same {α:Type} {S:α → α → Bool} (h:∀ x y,S x y = true → x = y):∀ {a b:List α},all2 S a b = true → a = b
 | [],[],_ => rfl
 | [],_ :: _,h2 => by simp [all2] at h2
 | _ :: _,[],h2 => by simp [all2] at h2
 | x :: r,y :: t,h2 => by
  unfold all2 at h2
  rw [Bool.and_eq_true] at h2
  rw [h x y h2.1,all2_same h h2.2]
theorem sameB_eq:∀ (d:Nat) (x y:M d),sameB d d x y = true → x = y
 | 0,x,_,_ => x.elim
 | d + 1,x,y,h => by
  unfold sameB at h
  rw [Bool.and_eq_true] at h
  have h1:M.unk x = M.unk y:=of_decide_eq_true h.1
  have h2:=all2_same (S:=sameV (sameB d d)) (fun u v hs => by
   unfold sameV at hs
   rw [Bool.and_eq_true] at hs
   obtain ⟨e1,e2,e3⟩:u.num = v.num ∧ u.words = v.words ∧ u.texts = v.texts:=of_decide_eq_true hs.1
   have e4:=all2_same (sameB_eq d) hs.2
   cases u;cases v
   simp only at e1 e2 e3 e4
   rw [e1,e2,e3,e4]) h.2
  show (⟨M.vals x,M.unk x⟩:Msgd (M d)) = ⟨M.vals y,M.unk y⟩
  rw [h1,h2]
theorem depth_max:∀ (d:Nat) (x:M (d + 1)),depthM (d + 1) x ≤ d
 | 0,x => by
  show ((M.vals x).map (depthV (depthM 0))).foldl max 0 ≤ 0
  refine foldl_le _ _ (Nat.le_refl _) fun n hn => ?_
  obtain ⟨v,-,rfl⟩:=List.mem_map.1 hn
  unfold depthV
  cases e:v.subs with
  | nil => exact Nat.le_refl _
  | cons y r => exact Empty.elim y
 | d + 1,x => by
  show ((M.vals x).map (depthV (depthM (d + 1)))).foldl max 0 ≤ d + 1
  refine foldl_le _ _ (Nat.zero_le _) fun n hn => ?_
  obtain ⟨v,-,rfl⟩:=List.mem_map.1 hn
  unfold depthV
  refine foldl_le _ _ (Nat.zero_le _) fun n hn => ?_
  obtain ⟨y,-,rfl⟩:=List.mem_map.1 hn
  have:=depth_max d y
  omega
theorem nform_means {s:List Mes} (hs:sright s = true) {d m:Nat} {l:List UInt8} (hm:m < s.length) (h:(vmsg s d m l).2 = 0) (hl:l.length ≤ 1073741824) {w:World} {v:Value} (hv:MsgAt (d + 1) w v (tof s d m l)) :
  (vmsg s d m (nform s d m l)).2 = 0 ∧ tof s d m (nform s d m l) = tof s d m l:=by
 have hw:=tof_weight s d m l
 have hr:=tof_right hs d m l hm h
 have hd:=depth_max d (tof s d m l)
 exact ⟨vmsg_enc hs d d m v _ hv (by omega) hm hr hd,sameB_eq (d + 1) _ _ (tof_enc hs d d m v _ hv (by omega) hm hr hd)⟩
theorem ways_of_path {s:List Mes} {root:Int} {ps:List (List UInt8)} {a:List (List Int)} (h:waysOf s root ps = some a) {p:List UInt8} (hp:p ∈ ps):∃ w,w ∈ a ∧ resolveW s root p = some w:=by
 obtain ⟨i,hi⟩:=List.mem_iff_getElem?.1 hp
 obtain ⟨w,h1,h2⟩:=waysOf_get h i p hi
 exact ⟨w,List.mem_of_getElem? h1,h2⟩
structure BothL (s:List Mes) (root d:Int) (b:List UInt8) (ps:List (List UInt8)) (X Y N:List UInt8):Prop where
 right:sright s = true
 range:0 ≤ root ∧ root < s.length
 xl:X.length ≤ b.length
 yl:Y.length ≤ b.length
 nl:N.length ≤ b.length
 again:namedC s root d X ps true = (0,X)
 none:namedC s root d Y ps true = (0,N)
 has:∀ p ∈ ps,hasC s root d N p = (0,false)
 vb:(vcheck s root b d).2 = 0
 vxy:(vcheck s root (X ++ Y) d).2 = 0
 mb:(vmsg s d.toNat root.toNat b).2 = 0
 mxy:(vmsg s d.toNat root.toNat (X ++ Y)).2 = 0
 means:plainM (d.toNat + 1) (tof s d.toNat root.toNat (X ++ Y)) = plainM (d.toNat + 1) (tof s d.toNat root.toNat b)
theorem both_law {s:List Mes} {root d:Int} {b:List UInt8} {ps:List (List UInt8)} (hb:b.length < 2 ^ 60) (h:pathsCode s root d b ps = 0) :
  BothL s root d b ps (kpart s true d.toNat root.toNat (makeC s root ps).2 b) (kpart s false d.toNat root.toNat (makeC s root ps).2 b) (kpart s true d.toNat root.toNat (makeC s root ps).2 (kpart s false d.toNat root.toNat (makeC s root ps).2 b)):=by
 obtain ⟨h1,h2,h3⟩:=code_ok h
 obtain ⟨g1,⟨g2,g3⟩,-,g4⟩:=vcheck_ok h3
 obtain ⟨-,hp200,a,ha,hmk⟩:=make_ok h2
 have hma:maskArgs s root = 0:=by
  unfold maskArgs
  rw [if_neg (by rw [g1];decide),if_neg (by omega)]
 obtain ⟨K,hK⟩:∃ K,K = (makeC s root ps).2:=⟨_,rfl⟩
 have hKa:K = mOf a:=by rw [hK,hmk]
 rw [← hK]
 obtain ⟨X,hX⟩:∃ X,X = kpart s true d.toNat root.toNat K b:=⟨_,rfl⟩
 obtain ⟨Y,hY⟩:∃ Y,Y = kpart s false d.toNat root.toNat K b:=⟨_,rfl⟩
 have lx:=kpart_le (keep:=true) (ws:=K) g4
 have ly:=kpart_le (keep:=false) (ws:=K) g4
 obtain ⟨vx,-⟩:=kpart_both_facts (keep:=true) (ws:=K) g4 (by omega)
 obtain ⟨vy,-⟩:=kpart_both_facts (keep:=false) (ws:=K) g4 (by omega)
 have ln:=kpart_le (keep:=true) (ws:=K) vy
 obtain ⟨vn,-⟩:=kpart_both_facts (keep:=true) (ws:=K) vy (by omega)
 have hvc:∀ l,(vcheck s root l d).2 = (vmsg s d.toNat root.toNat l).2:=fun l => vcheck_of h1
 have hnm:∀ l keep,(vmsg s d.toNat root.toNat l).2 = 0 → namedC s root d l ps keep = (0,kpart s keep d.toNat root.toNat K l):=fun l keep hv => by
  rw [named_by_code]
  have hc:pathsCode s root d l ps = 0:=by
   unfold pathsCode pathsCode1
   rw [hvc,hv,h1,h2];rfl
  rw [hc,if_neg (by decide),hK]
 have hr:∀ p ∈ ps,hasC s root d (kpart s true d.toNat root.toNat K (kpart s false d.toNat root.toNat K b)) p = (0,false):=fun p hp => by
  obtain ⟨w,hw,hres⟩:=ways_of_path ha hp
  obtain ⟨-,-,hw0⟩:=resolveW_names g1 hres
  have hrc:resolveC s root p = (0,w):=by
   unfold resolveC
   rw [if_neg (by omega),hres]
  have hhas:hasW K w = true:=by
   rw [hKa,mOf_has]
   exact (hasW_iff _ _).2 ⟨w,hw,hw0,List.prefix_refl _⟩
  unfold hasC
  rw [if_neg (by omega),hrc,if_neg (fun h => h rfl),hvc,if_neg (by rw [vn];decide),kpart_none g4 (by omega) hhas]
 have hag:=hnm _ true vx
 rw [kpart_again g4 (by omega)] at hag
 exact ⟨g1,⟨g2,g3⟩,lx,ly,by omega,hag,hnm _ true vy,hr,h3,by rw [hvc];exact vmsg_app vx vy,g4,vmsg_app vx vy,both_plain g1 (by omega) g4 (by omega)⟩
end Go.Proofs.YtfimpmennkfjcaaGreatDoor
namespace Go.Proofs.YtfimpmennkfjcaaGreatDoor
open Go.RowKit
structure OutB {α:Type} (P:World → List Value → α → Prop) (T:TypeId) (k n0:Nat) (TO:TypeId) (O:Nat) (pre post:List Value) (w3 w:World) (v:Value) (l:List α):Prop where
 below:Below O w3 w
 blk:Blk w O (pre ++ v :: post) TO
 rows:RowsOwn P T k n0 (O + 1) w v l
variable {α:Type} {P:World → List Value → α → Prop} {T:TypeId} {k n0:Nat} {TO:TypeId} {O:Nat} {pre post:List Value} {w3 w w1:World} {v:Value} {l:List α}
theorem OutB.start (hb:Blk w O (pre ++ .slice none 0 0 :: post) TO):OutB P T k n0 TO O pre post w w (.slice none 0 0) []:=
 ⟨Below.refl _ _,hb,RowsOwn.nil _ _ _ _ _ _⟩
theorem OutB.lt (h:OutB P T k n0 TO O pre post w3 w v l):O < w.heap.size:=h.blk.lt
theorem OutB.cell (h:OutB P T k n0 TO O pre post w3 w v l) (j:Nat) (u:Value) (hu:(pre ++ v :: post)[j]? = some u):w.cell? ⟨O,j,none⟩ = some u:=h.blk.cell j u hu
theorem OutB.free (h:OutB P T k n0 TO O pre post w3 w v l) (j:Nat):w.frozen? ⟨O,j,none⟩ = false:=h.blk.free j
theorem OutB.later (h:OutB P T k n0 TO O pre post w3 w v l) (hb:Below w.heap.size w w1):OutB P T k n0 TO O pre post w3 w1 v l:=
 ⟨h.below.trans (hb.mono (Nat.le_of_lt h.lt)),h.blk.below hb,h.rows.below hb⟩
theorem OutB.step {i:Nat} {oa:Option Addr} {oc:Nat} (h:OutB P T k n0 TO O pre post w3 w (.slice oa i oc) l) (hb:Below w.heap.size w w1) (hk:0 < k) (hn0:n0 ≤ O) (hil:l.length = i)
  {G:Program} (t:TypeId) (z:Value) (bytes:Nat) (ht:G.underlying t = some (.slice T)) (hinfo:(G.info? T).map (fun i => (i.zero,i.size,i.bytes)) = some (some z,k,bytes)) (hzs:z.cells.size = k)
  (cells:Array Value) (hr:cells.size = k) (h1:∀ u ∈ cells.toList,u.oneCell' = true) (x:α) (hP:Apart n0 w.heap.size w1 fun w' => P w' cells.toList x) (hlen:i ≤ 1099511627776) (hby:bytes ≤ 120) (j:Nat) (hj:j = pre.length) :
  ∃ a' c' w5,(Builtin.append_ #[t,t] t #[.slice oa i oc,.slice (some ⟨w1.heap.size,0,none⟩) 1 1]).run G (w1.alloc (.cells cells T)) = .ok (.slice a' (i + 1) c') w5 ∧
   Below (O + 1) w (w1.alloc (.cells cells T)) ∧ Below (O + 1) w w5 ∧
   (w5.cell? ⟨O,j,none⟩ = some (.slice oa i oc) ∧ w5.frozen? ⟨O,j,none⟩ = false ∧ O < w5.heap.size ∧ ∀ b,b < (w1.alloc (.cells cells T)).heap.size → (b < O + 1 ∨ w.heap.size ≤ b) → w5.heap[b]? = (w1.alloc (.cells cells T)).heap[b]?) ∧
   OutB P T k n0 TO O pre post w3 (w5.setCell ⟨O,j,none⟩ (.slice a' (i + 1) c')) (.slice a' (i + 1) c') (l ++ [x]):=by
 subst hj
 have hs:=hb.size
 have hlt:=h.lt
 have hB1:Below (O + 1) w (w1.alloc (.cells cells T)):=(hb.mono hlt).alloc (by omega) _
 obtain ⟨v',w5,hrun,hR,hg,-⟩:=(h.rows.below hb).append hk (by omega) t z bytes ht hinfo hzs cells hr h1 x w.heap.size (fun b e => (h.rows.own b e).2) hlt hP (by omega) hby (by omega)
 obtain ⟨a',c',rfl⟩:=hR.form
 rw [List.length_append,List.length_singleton,hil] at *
 have hB5:Below (O + 1) w w5:=hB1.grown hg (by have:=hB1.size;omega) fun q e => (h.rows.own q e).1
 have hkp:∀ b,b < (w1.alloc (.cells cells T)).heap.size → (b < O + 1 ∨ w.heap.size ≤ b) → w5.heap[b]? = (w1.alloc (.cells cells T)).heap[b]?:=fun b hb' hc => hg.block b hb' fun e => by
  have h1:=h.rows.own b e.symm
  omega
 have hO5:Blk w5 O (pre ++ .slice oa i oc :: post) TO:=(hB5.block O (by omega)).trans h.blk
 refine ⟨a',c',w5,hrun,hB1,hB5,⟨hO5.cell _ _ (by simp),hO5.free _,hO5.lt,hkp⟩,(h.below.trans (hB5.mono (by omega))).setCell (Nat.le_refl _) _,?_,?_⟩
 ·
  have:=hO5.set pre.length (.slice a' (i + 1) c')
  rwa [List.set_append_right _ _ (Nat.le_refl _),Nat.sub_self,List.set_cons_zero] at this
 ·
  refine hR.later (fun b' _ hc => Below.heap_setCell w5 _ _ b' ?_) (by simp)
  show b' ≠ O
  omega
theorem OutB.at (h:OutB P T k n0 TO O pre post w3 w v l) (hl:l.length ≤ 140737488355328) {w':World} (hw:∀ b,b < w.heap.size → (b < n0 ∨ O + 1 ≤ b) → w'.heap[b]? = w.heap[b]?):RowsAt P k w' v l:=h.rows.at hl hw
theorem strs_none (w:World):StrsAt w (.slice none 0 0) []:=⟨⟨rfl,by simp,_,_,rfl,Nat.le_refl _,by omega,fun _ => rfl,fun j u hu => by simp at hu⟩,by simp⟩
end Go.Proofs.YtfimpmennkfjcaaGreatDoor
