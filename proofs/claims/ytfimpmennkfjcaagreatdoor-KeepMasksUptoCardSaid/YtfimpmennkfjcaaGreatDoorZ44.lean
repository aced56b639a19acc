/- A block of the call's own in which a list is built: 'out.F = append(out.F, x)'. No condition. A region that draws its order and whose operation L waits for whatever is taken first: a condition on the world that holds behind each operation but L lets loads be taken first, though L writes what they read. No condition. Plain laws: what a mask keeps, or leaves, of bytes means what it keeps, or leaves, of the meaning (tof_part). No condition but lengths below 2^64. -/
import Derived.Test.YtfimpmennkfjcaaGreatDoorZ01
import Derived.Test.YtfimpmennkfjcaaGreatDoorZ20
import Derived.Test.YtfimpmennkfjcaaGreatDoorZ24
import Derived.Test.YtfimpmennkfjcaaGreatDoorZ25
import Derived.Test.YtfimpmennkfjcaaGreatDoorZ28
import Derived.Deep.RegionHeld3
import Derived.StillTail
namespace Go.Proofs.YtfimpmennkfjcaaGreatDoor
open Go.RowKit
/-- the block O, laid behind all that w3 holds below it, holds the cells pre, a list under way, the cells post -/
structure OutB {α : Type} (P : World → List Value → α → Prop) (T : TypeId) (k n0 : Nat) (TO : TypeId) (O : Nat) (pre post : List Value) (w3 w : World) (v : Value) (l : List α) : Prop where
  below : Below O w3 w
  blk : Blk w O (pre ++ v :: post) TO
  rows : RowsOwn P T k n0 (O + 1) w v l
variable {α : Type} {P : World → List Value → α → Prop} {T : TypeId} {k n0 : Nat} {TO : TypeId} {O : Nat} {pre post : List Value} {w3 w w1 : World} {v : Value} {l : List α}
theorem OutB.start (hb : Blk w O (pre ++ .slice none 0 0 :: post) TO) : OutB P T k n0 TO O pre post w w (.slice none 0 0) [] :=
  ⟨Below.refl _ _, hb, RowsOwn.nil _ _ _ _ _ _⟩
theorem OutB.lt (h : OutB P T k n0 TO O pre post w3 w v l) : O < w.heap.size := h.blk.lt
theorem OutB.cell (h : OutB P T k n0 TO O pre post w3 w v l) (j : Nat) (u : Value) (hu : (pre ++ v :: post)[j]? = some u) : w.cell? ⟨O, j, none⟩ = some u := h.blk.cell j u hu
theorem OutB.free (h : OutB P T k n0 TO O pre post w3 w v l) (j : Nat) : w.frozen? ⟨O, j, none⟩ = false := h.blk.free j
theorem OutB.form (h : OutB P T k n0 TO O pre post w3 w v l) : ∃ a c, v = .slice a l.length c := h.rows.form
/-- what else is laid or drawn -/
theorem OutB.later (h : OutB P T k n0 TO O pre post w3 w v l) (hb : Below w.heap.size w w1) : OutB P T k n0 TO O pre post w3 w1 v l :=
  ⟨h.below.trans (hb.mono (Nat.le_of_lt h.lt)), h.blk.below hb, h.rows.below hb⟩
/-- the element's block, the append, the store -/
theorem OutB.step {i : Nat} {oa : Option Addr} {oc : Nat} (h : OutB P T k n0 TO O pre post w3 w (.slice oa i oc) l) (hb : Below w.heap.size w w1) (hk : 0 < k) (hn0 : n0 ≤ O) (hil : l.length = i)
    {G : Program} (t : TypeId) (z : Value) (bytes : Nat) (ht : G.underlying t = some (.slice T)) (hinfo : (G.info? T).map (fun i => (i.zero, i.size, i.bytes)) = some (some z, k, bytes)) (hzs : z.cells.size = k)
    (cells : Array Value) (hr : cells.size = k) (h1 : ∀ u ∈ cells.toList, u.oneCell' = true) (x : α) (hP : Apart n0 w.heap.size w1 fun w' => P w' cells.toList x) (hlen : i ≤ 1099511627776) (hby : bytes ≤ 120) (j : Nat) (hj : j = pre.length) :
    ∃ a' c' w5, (Builtin.append_ #[t, t] t #[.slice oa i oc, .slice (some ⟨w1.heap.size, 0, none⟩) 1 1]).run G (w1.alloc (.cells cells T)) = .ok (.slice a' (i + 1) c') w5 ∧
      Below (O + 1) w (w1.alloc (.cells cells T)) ∧ Below (O + 1) w w5 ∧
      (w5.cell? ⟨O, j, none⟩ = some (.slice oa i oc) ∧ w5.frozen? ⟨O, j, none⟩ = false ∧ O < w5.heap.size ∧ ∀ b, b < (w1.alloc (.cells cells T)).heap.size → (b < O + 1 ∨ w.heap.size ≤ b) → w5.heap[b]? = (w1.alloc (.cells cells T)).heap[b]?) ∧
      OutB P T k n0 TO O pre post w3 (w5.setCell ⟨O, j, none⟩ (.slice a' (i + 1) c')) (.slice a' (i + 1) c') (l ++ [x]) := by
  subst hj
  have hs := hb.size
  have hlt := h.lt
  have hB1 : Below (O + 1) w (w1.alloc (.cells cells T)) := (hb.mono hlt).alloc (by omega) _
  obtain ⟨v', w5, hrun, hR, hg, -⟩ := (h.rows.below hb).append hk (by omega) t z bytes ht hinfo hzs cells hr h1 x w.heap.size (fun b e => (h.rows.own b e).2) hlt hP (by omega) hby (by omega)
  obtain ⟨a', c', rfl⟩ := hR.form
  rw [List.length_append, List.length_singleton, hil] at *
  have hB5 : Below (O + 1) w w5 := hB1.grown hg (by have := hB1.size; omega) fun q e => (h.rows.own q e).1
  have hkp : ∀ b, b < (w1.alloc (.cells cells T)).heap.size → (b < O + 1 ∨ w.heap.size ≤ b) → w5.heap[b]? = (w1.alloc (.cells cells T)).heap[b]? := fun b hb' hc => hg.block b hb' fun e => by
    have h1 := h.rows.own b e.symm
    omega
  have hO5 : Blk w5 O (pre ++ .slice oa i oc :: post) TO := (hB5.block O (by omega)).trans h.blk
  refine ⟨a', c', w5, hrun, hB1, hB5, ⟨hO5.cell _ _ (by simp), hO5.free _, hO5.lt, hkp⟩, (h.below.trans (hB5.mono (by omega))).setCell (Nat.le_refl _) _, ?_, ?_⟩
  · have := hO5.set pre.length (.slice a' (i + 1) c')
    rwa [List.set_append_right _ _ (Nat.le_refl _), Nat.sub_self, List.set_cons_zero] at this
  · refine hR.later (fun b' _ hc => Below.heap_setCell w5 _ _ b' ?_) (by simp)
    show b' ≠ O
    omega
/-- what is behind the walk: a result that is the list alone -/
theorem OutB.at (h : OutB P T k n0 TO O pre post w3 w v l) (hl : l.length ≤ 140737488355328) {w' : World} (hw : ∀ b, b < w.heap.size → (b < n0 ∨ O + 1 ≤ b) → w'.heap[b]? = w.heap[b]?) : RowsAt P k w' v l := h.rows.at hl hw
theorem drop_step {α β : Type} {f : α → List β} {l : List α} {k : Nat} {x : α} (h : l[k]? = some x) : (l.drop k).flatMap f = f x ++ (l.drop (k + 1)).flatMap f := by
  obtain ⟨h1, h2⟩ := List.getElem?_eq_some_iff.1 h
  rw [← h2, List.drop_eq_getElem_cons h1, List.flatMap_cons]
theorem Blk.of {w w' : World} {b B : Nat} {cs : List Value} {T : TypeId} (h : Blk w b cs T) (hb : Below B w w') (hlt : b < B) : Blk w' b cs T := (hb.block b hlt).trans h
theorem words_none (w : World) : WordsAt w (.slice none 0 0) [] := ⟨⟨rfl, by simp, _, _, rfl, Nat.le_refl _, by omega, fun _ => rfl, fun j u hu => by simp at hu⟩, by simp⟩
theorem strs_none (w : World) : StrsAt w (.slice none 0 0) [] := ⟨⟨rfl, by simp, _, _, rfl, Nat.le_refl _, by omega, fun _ => rfl, fun j u hu => by simp at hu⟩, by simp⟩
/-- one message in a block of its own -/
theorem sub_one {d : Nat} {w : World} {G : Nat} {T : TypeId} {c1 c2 : Value} {y : M d} (hb : Blk w G [c1, c2] T) (hM : MsgAt d w (.agg #[c1, c2]) y) : SubsAt (MsgAt d) w (.slice (some ⟨G, 0, none⟩) 1 1) [y] := by
  refine ⟨[[c1, c2]], rfl, by simp, seg_blk hb 2 1 rfl (by omega), fun i r x hr hx => ?_⟩
  match i, hr, hx with
  | 0, hr, hx =>
    cases hr
    cases hx
    exact hM
/-- a value that holds one message -/
theorem val_one {d : Nat} {w : World} {G : Nat} {T : TypeId} {c1 c2 : Value} {y : M d} {num : Int} (hn : -9223372036854775808 ≤ num ∧ num ≤ 9223372036854775807) (hb : Blk w G [c1, c2] T) (hM : MsgAt d w (.agg #[c1, c2]) y) :
    ValAt (MsgAt d) w (.agg #[.int .i64 num, .slice none 0 0, .slice none 0 0, .slice (some ⟨G, 0, none⟩) 1 1]) ⟨num, [], [], [y]⟩ :=
  ⟨_, _, _, rfl, hn, words_none w, strs_none w, sub_one hb hM⟩
end Go.Proofs.YtfimpmennkfjcaaGreatDoor
namespace Go.Proofs.YtfimpmennkfjcaaGreatDoor
open Go.RowKit
section
variable {P : Program} {ops : Array Oper} {Q : Exit → Act → World → Prop} {S : World → Prop} {L : Nat}
/-- whatever comes up: S holds behind it, unless it is L -/
def wpAnyE (P : Program) (ops : Array Oper) (Q : Exit → Act → World → Prop) (S : World → Prop) (L : Nat) : Nat → Array Bool → Act → World → Prop
  | 0, listed, a, w => Region.ready .any ops listed = [] ∧ Q .normal a w
  | fuel + 1, listed, a, w =>
    (Region.ready .any ops listed = [] → Q .normal a w) ∧
    ∀ i ∈ Region.ready .any ops listed, wpOp P ops Q i (fun a' w' => (i ≠ L → S w') ∧ wpAnyE P ops Q S L fuel (listed.setIfInBounds i true) a' w') a w
theorem wpAny_of_E : ∀ (fuel : Nat) (listed : Array Bool) (a : Act) (w : World), wpAnyE P ops Q S L fuel listed a w → wpAny P .any ops Q fuel listed a w
  | 0, _, _, _, h => h
  | fuel + 1, _, _, _, h => ⟨h.1, fun i hi => wpOp_mono (fun a' w' h' => wpAny_of_E fuel _ a' w' h'.2) (h.2 i hi)⟩
theorem wpAnyE_first {i : Nat} {oi : Oper} {v : Value} (hi : ops[i]? = some oi) (hsel : ∀ (j : Nat) (o : Oper) cs b, ops[j]? = some o → o.op ≠ .select cs b)
    (hQ : ∀ c a w, Q (.panic c) (a.put oi.dst v) w → Q (.panic c) a w) (hL : Region.waitsFor .any ops L i = true) :
    ∀ (fuel : Nat) (listed : Array Bool) (a : Act) (w : World),
      (∀ j oj, ops[j]? = some oj → j ≠ i → listed.getD j true = false → (∀ e ∈ oj.after, Region.binds .any e = true → e.on ≠ i) → oi.apart ops oj = true) →
      i ∈ Region.ready .any ops listed → YieldsIf P ops S oi v a → S w →
      wpAnyE P ops Q S L fuel (listed.setIfInBounds i true) (a.put oi.dst v) w → wpAnyE P ops Q S L (fuel + 1) listed a w := by
  obtain ⟨oL, hoL, eL, heL, hbL, honL⟩ := Region.waitsFor_spec hL
  have hnL : ∀ (listed : Array Bool) (j : Nat), i ∈ Region.ready .any ops listed → j ∈ Region.ready .any ops listed → j ≠ L := by
    rintro listed j hr hj rfl
    obtain ⟨-, o, ho, hall⟩ := mem_ready.1 hj
    rw [hoL] at ho
    cases ho
    have h1 := hall eL heL hbL
    rw [honL] at h1
    have h0 := (mem_ready.1 hr).1
    rw [getD_both h0] at h1
    cases h1
  intro fuel
  induction fuel with
  | zero =>
    intro listed a w _ hr hy hS H
    refine ⟨fun h => (by rw [h] at hr; cases hr), fun j hj => ?_⟩
    by_cases hji : j = i
    · subst hji; exact hy.wpOp hi hS ⟨fun _ => hS, H⟩
    · have := ready_mono hj hji
      rw [H.1] at this
      cases this
  | succ fuel ih =>
    intro listed a w hfree hr hy hS H
    refine ⟨fun h => (by rw [h] at hr; cases hr), fun j hj => ?_⟩
    by_cases hji : j = i
    · subst hji; exact hy.wpOp hi hS ⟨fun _ => hS, H⟩
    · have hjL := hnL listed j hr hj
      have h1 := H.2 j (ready_mono hj hji)
      obtain ⟨hjun, oj, hoj, hall⟩ := mem_ready.1 hj
      have hnot : ∀ e ∈ oj.after, Region.binds .any e = true → e.on ≠ i := fun e he hb heq => by
        have h1 := hall e he hb
        have h0 := (mem_ready.1 hr).1
        rw [heq, getD_both h0] at h1
        cases h1
      have h2 := wpOp_putIf hoj (hfree j oj hoj hji hjun hnot) (fun cs b => hsel i oi cs b hi) (fun cs b => hsel j oj cs b hoj) hQ hy h1
      have hfree' : ∀ k ok, ops[k]? = some ok → k ≠ i → (listed.setIfInBounds j true).getD k true = false →
          (∀ e ∈ ok.after, Region.binds .any e = true → e.on ≠ i) → oi.apart ops ok = true := fun k ok hk hki hun hno => by
        refine hfree k ok hk hki ?_ hno
        by_cases hjk : j = k
        · subst hjk; exact hjun
        · rw [getD_set_ne true hjk] at hun; exact hun
      refine wpOp_mono (fun a' w' h3 => ⟨h3.2.1, ih (listed.setIfInBounds j true) a' w' hfree' (ready_mono hr (Ne.symm hji)) h3.1 (h3.2.1 hjL) ?_⟩) h2
      rw [Array.setIfInBounds_comm _ _ hji]
      exact h3.2.2
/-- the beginning -/
theorem wp_region_E {id : Nat} {a : Act} {w : World} (L : Nat) (S : World → Prop) (hm : P.follows .mixedOrders = true)
    (h : wpAnyE P ops Q S L ops.size (Array.replicate ops.size false) a w.drew) : (Code.region id ops true).wp P Q a w :=
  wp_region_any hm (wpAny_of_E _ _ _ _ h)
/-- number i is taken first -/
theorem wpAnyE_take {i : Nat} {oi : Oper} {v : Value} {fuel : Nat} {listed : Array Bool} {a : Act} {w : World} (hi : ops[i]? = some oi)
    (hs : Region.noSelect ops = true) (hf : Region.free .any ops listed i = true) (hr : (Region.ready .any ops listed).contains i = true) (hL : Region.waitsFor .any ops L i = true)
    (hQ : ∀ c a w, Q (.panic c) (a.put oi.dst v) w → Q (.panic c) a w) (hS : S w) (hy : YieldsIf P ops S oi v a)
    (h : wpAnyE P ops Q S L fuel (listed.setIfInBounds i true) (a.put oi.dst v) w) : wpAnyE P ops Q S L (fuel + 1) listed a w :=
  wpAnyE_first hi (Region.noSelect_spec hs) hQ hL fuel listed a w (Region.free_spec hi hf) (by simpa using hr) hy hS h
/-- the only one that may come up -/
theorem wpAnyE_one {i : Nat} {oi : Oper} {fuel : Nat} {listed : Array Bool} {a : Act} {w : World} (hr : Region.ready .any ops listed = [i]) (hi : ops[i]? = some oi) (hg : oi.guard = none)
    (h : ∀ K' : Act → World → Prop, Shut (∀ a w, (i ≠ L → S w) → wpAnyE P ops Q S L fuel (listed.setIfInBounds i true) a w → K' a w) → Oper.wp P oi a w K' Q) : wpAnyE P ops Q S L (fuel + 1) listed a w := by
  refine ⟨fun h0 => (by rw [hr] at h0; cases h0), fun j hj => ?_⟩
  rw [hr] at hj
  have hji : j = i := by simpa using hj
  subst hji
  refine wpOp_step hi fun K' hK => ?_
  rw [if_pos (by simp [Region.wanted, hg])]
  exact h K' fun a w hS hW => hK a w ⟨hS, hW⟩
theorem wpAnyE_done {listed : Array Bool} {a : Act} {w : World} (hr : Region.ready .any ops listed = []) (h : Q .normal a w) : ∀ fuel, wpAnyE P ops Q S L fuel listed a w
  | 0 => ⟨hr, h⟩
  | _ + 1 => ⟨fun _ => h, by rw [hr]; simp⟩
end
/-- the blocks of w0 below O, and those from z on, are as they were -/
def Kept (O z : Nat) (w0 w' : World) : Prop := ∀ b, b < w0.heap.size → (b < O ∨ z ≤ b) → w'.heap[b]? = w0.heap[b]?
theorem Kept.refl (O z : Nat) (w : World) : Kept O z w w := fun _ _ _ => rfl
theorem Kept.cell {O z : Nat} {w0 w' : World} (h : Kept O z w0 w') {b j : Nat} {u : Value} (hb : b < O ∨ z ≤ b) (hc : w0.cell? ⟨b, j, none⟩ = some u) : w'.cell? ⟨b, j, none⟩ = some u :=
  (World.cell?_of_block (h b (World.block_lt_of_cell? w0 _ hc) hb)).trans hc
theorem Kept.below {O z : Nat} {w0 w1 w' : World} (h : Kept O z w0 w1) (hs : w0.heap.size ≤ w1.heap.size) (hb : Below w1.heap.size w1 w') : Kept O z w0 w' := fun b hlt hc => (hb.block b (Nat.lt_of_lt_of_le hlt hs)).trans (h b hlt hc)
theorem kept_below {O z : Nat} {w0 w' : World} (hb : Below w0.heap.size w0 w') : Kept O z w0 w' := fun b hlt _ => hb.block b hlt
end Go.Proofs.YtfimpmennkfjcaaGreatDoor
namespace Go.Proofs.YtfimpmennkfjcaaGreatDoor
open Go.RowKit
def pval {α : Type} (sub : Int → List (List Int) → α → α) (fs : List Fld) (keep : Bool) (ws : List (List Int)) (v : Val α) : List (Val α) :=
  if ws.any (wholeW v.num) = false ∧ underW ws v.num ≠ [] ∧ (fs.getD (fieldAt fs v.num).toNat .zero).kind = 17 ∧ (fs.getD (fieldAt fs v.num).toNat .zero).rep = false then
    [⟨v.num, [], [], (v.subs.take 1).map (sub (fs.getD (fieldAt fs v.num).toNat .zero).of (underW ws v.num))⟩]
  else if ws.any (wholeW v.num) = keep then [v] else []
/-- what a mask keeps, or leaves, of a meaning -/
def partM (s : List Mes) (keep : Bool) : (d : Nat) → Nat → List (List Int) → M d → M d
  | 0, _, _, x => x
  | d + 1, m, ws, x => (⟨(M.vals x).flatMap (pval (fun o u y => partM s keep d o.toNat u y) (s.getD m .zero).fields keep ws), if keep = true then [] else M.unk x⟩ : Msgd (M d))
theorem flat_single {α β : Type} (g : α → β) (l : List α) : (l.flatMap fun a => [g a]) = l.map g := by
  induction l with
  | nil => rfl
  | cons a r ih => rw [List.flatMap_cons, ih]; rfl
theorem fieldA_nil {α : Type} (sub : Int → List UInt8 → List α) (f : Fld) : many (fieldA sub f []) = 0 := by
  have hc : counts f ([] : List AR) = [] := by unfold counts lastOf; split <;> rfl
  unfold many fieldA
  rw [hc]
  simp
theorem filter_map_flat {α β : Type} (g : α → β) (p : β → Bool) (l : List α) : (l.map g).filter p = l.flatMap fun x => [g x].filter p := by
  induction l with
  | nil => rfl
  | cons x r ih => rw [List.map_cons, List.flatMap_cons, ← ih, ← List.filter_append]; rfl
theorem kpR_k {sub : Int → List (List Int) → List UInt8 → List UInt8} {fs : List Fld} {keep : Bool} {ws : List (List Int)} {a b : AR} (h : b ∈ kpR sub fs keep ws a) : b.k = a.k := by
  unfold kpR at h
  split at h
  · cases keep <;> simp at h; rw [h]
  · split at h
    · cases keep <;> simp at h; rw [h]
    · split at h
      · simp at h; rw [h]
      · cases keep <;> simp at h; rw [h]
theorem filter_kpR {sub : Int → List (List Int) → List UInt8 → List UInt8} {fs : List Fld} {keep : Bool} {ws : List (List Int)} (p : Int → Bool) (X : List AR) : (X.flatMap (kpR sub fs keep ws)).filter (fun b => p b.k) = (X.filter fun a => p a.k).flatMap (kpR sub fs keep ws) := by
  induction X with
  | nil => rfl
  | cons a r ih =>
    rw [List.flatMap_cons, List.filter_append, ih, List.filter_cons]
    cases hp : p a.k with
    | true =>
      have : (kpR sub fs keep ws a).filter (fun b => p b.k) = kpR sub fs keep ws a := List.filter_eq_self.2 fun b hb => by rw [kpR_k hb]; exact hp
      rw [this]; simp
    | false =>
      have : (kpR sub fs keep ws a).filter (fun b => p b.k) = [] := List.filter_eq_nil_iff.2 fun b hb => by rw [kpR_k hb, hp]; simp
      rw [this]; simp
theorem kpart_cat {s : List Mes} {keep : Bool} {d m : Nat} {ws : List (List Int)} : ∀ {ls : List (List UInt8)}, (∀ l ∈ ls, (vmsg s d m l).2 = 0) → kpart s keep d m ws ls.flatten = ls.flatMap (kpart s keep d m ws)
  | [], _ => by
    rw [List.flatten_nil, kpart_A (vmsg_nil s d m)]
    rfl
  | l :: r, h => by
    have h1 := h l (by simp)
    have h2 : ∀ x ∈ r, (vmsg s d m x).2 = 0 := fun x hx => h x (by simp [hx])
    rw [List.flatten_cons, List.flatMap_cons, ← kpart_cat h2, kpart_A (vmsg_app h1 (vmsg_flat h2)), kpart_A h1, kpart_A (vmsg_flat h2), (arecs_app (vall_ok h1).1 (vall_ok (vmsg_flat h2)).1).2, List.flatMap_append]
theorem val_le {s : List Mes} {d m : Nat} {l : List UInt8} (h : (vmsg s d m l).2 = 0) (i : Int) : (((arecs (s.getD m .zero).fields l).filter fun a => decide (a.k = i)).flatMap AR.val).length ≤ l.length := by
  have h1 := vall_ok h
  have hf := vall_flat h1.1
  have e : ((arecs (s.getD m .zero).fields l).filter fun a => decide (a.k = i)).flatMap AR.val = (((vall (s.getD m .zero).fields l).1.filter fun x => decide (x.k = i)).map (arOf l)).flatMap AR.val := by
    unfold arecs; rw [List.filter_map]; rfl
  rw [e, List.flatMap_map]
  have hs : ∀ (xs : List VW), (∀ x ∈ xs, ViewOk s d m l x) → ((xs.filter fun x => decide (x.k = i)).flatMap fun x => (arOf l x).val).length ≤ (xs.flatMap fun x => part l x.r.start x.r.to).length := by
    intro xs
    induction xs with
    | nil => intro _; simp
    | cons x r ih =>
      intro hx
      have ih' := ih fun y hy => hx y (by simp [hy])
      obtain ⟨f1, f2, f3, -⟩ := (hx x (by simp)).facts
      have hv : (arOf l x).val.length ≤ (part l x.r.start x.r.to).length := by
        show (part l x.r.at' x.r.to).length ≤ _
        rw [part_len _ _ _ (by omega) (by omega), part_len _ _ _ (by omega) (by omega)]; omega
      rw [List.filter_cons, List.flatMap_cons, List.length_append]
      split
      · rw [List.flatMap_cons, List.length_append]; omega
      · omega
  have := hs _ h1.2
  rw [hf] at this
  exact this
/-- the part of bytes means the part of the meaning -/
theorem tof_part {s : List Mes} (hs : sright s = true) (keep : Bool) : ∀ {d m : Nat} {ws : List (List Int)} {l : List UInt8}, m < s.length → (vmsg s d m l).2 = 0 → l.length < 2 ^ 64 →
    tof s d m (kpart s keep d m ws l) = partM s keep (d + 1) m ws (tof s d m l)
  | d, m, ws, l, hm, h, hl => by
    obtain ⟨fs, hfs⟩ : ∃ fs, fs = (s.getD m .zero).fields := ⟨_, rfl⟩
    have hN : Nums fs := by rw [hfs]; exact schema_Nums hs m hm
    obtain ⟨-, hY⟩ := kpart_both_facts (keep := keep) (ws := ws) h hl
    rw [tof_msg, tof_msg, ← msgA_of, ← msgA_of, hY, ← hfs]
    obtain ⟨X, hX⟩ : ∃ X, X = arecs fs l := ⟨_, rfl⟩
    rw [← hX]
    show (⟨_, _⟩ : Msgd (M d)) = (⟨(M.vals (d := d) (msgA (tsub s d) fs X)).flatMap (pval _ (s.getD m .zero).fields keep ws), if keep = true then [] else M.unk (d := d) (msgA (tsub s d) fs X)⟩ : Msgd (M d))
    rw [← hfs]
    congr 1
    · show ((sortedF fs).map fun i => fieldA (tsub s d) (fs.getD i.toNat .zero) ((X.flatMap (kpR (ksub s keep d) fs keep ws)).filter fun x => decide (x.k = i))).filter _ = (((sortedF fs).map fun i => fieldA (tsub s d) (fs.getD i.toNat .zero) (X.filter fun x => decide (x.k = i))).filter _).flatMap _
      rw [filter_map_flat, filter_map_flat, List.flatMap_assoc]
      refine flatMap_same fun i hi => ?_
      obtain ⟨hi0, hil⟩ := sortedF_mem hi
      obtain ⟨q, rfl⟩ : ∃ q : Nat, i = q := ⟨i.toNat, by omega⟩
      have hq : q < fs.length := by omega
      rw [filter_kpR (fun k => decide (k = (q : Int))), Int.toNat_natCast]
      obtain ⟨Xi, hXi⟩ : ∃ Xi, Xi = X.filter fun a => decide (a.k = (q : Int)) := ⟨_, rfl⟩
      rw [← hXi]
      obtain ⟨f, hf⟩ : ∃ f, f = fs.getD q .zero := ⟨_, rfl⟩
      rw [← hf]
      have hat : fieldAt fs f.number = q := by rw [hf]; exact hN.at hq
      have hk : ∀ a ∈ Xi, a.k = (q : Int) := fun a ha => by rw [hXi] at ha; exact of_decide_eq_true (List.mem_filter.1 ha).2
      have hview : ∀ a ∈ Xi, ∃ x, ViewOk s d m l x ∧ x.k = (q : Int) ∧ a = arOf l x := fun a ha => by
        have h1 := ha
        rw [hXi, hX] at h1
        obtain ⟨x, hx, e⟩ := List.mem_map.1 (List.mem_filter.1 h1).1
        rw [hfs] at hx
        exact ⟨x, (vall_ok h).2 x hx, by have := hk a ha; rw [← e] at this; exact this, e.symm⟩
      have unf : ∀ a ∈ Xi, kpR (ksub s keep d) fs keep ws a = if ws.any (wholeW f.number) = true then (if keep = true then [a] else []) else if underW ws f.number ≠ [] ∧ f.kind = 17 ∧ f.rep = false then
          [⟨(q : Int), false, ksub s keep d f.of (underW ws f.number) a.val, tagA a.whole ++ (vput (ksub s keep d f.of (underW ws f.number) a.val).length ++ ksub s keep d f.of (underW ws f.number) a.val)⟩] else if keep = true then [] else [a] := fun a ha => by
        unfold kpR
        rw [hk a ha, if_neg (by omega), Int.toNat_natCast, ← hf]
      have hself : Xi.flatMap (fun a => [a]) = Xi := by simp
      have hnum : (fieldA (tsub s d) f Xi).num = f.number := rfl
      -- a field that is kept, or left, whole
      have plain : ∀ (z : Bool), (∀ a ∈ Xi, kpR (ksub s keep d) fs keep ws a = if z = true then [a] else []) → ([fieldA (tsub s d) f (Xi.flatMap (kpR (ksub s keep d) fs keep ws))].filter fun v => decide (0 < many v)) = if z = true then ([fieldA (tsub s d) f Xi].filter fun v => decide (0 < many v)) else [] := fun z hz => by
        rw [flatMap_same hz]
        cases z with
        | true => simp only [if_true]; rw [hself]
        | false =>
          have : (Xi.flatMap fun a => if false = true then [a] else []) = [] := by simp
          rw [this]
          simp [fieldA_nil]
      by_cases hw : ws.any (wholeW f.number) = true
      · rw [plain keep fun a ha => by rw [unf a ha, if_pos hw]]
        have hp : ∀ v ∈ ([fieldA (tsub s d) f Xi].filter fun v => decide (0 < many v)), pval (fun o u y => partM s keep d o.toNat u y) fs keep ws v = if keep = true then [v] else [] := fun v hv => by
          have : v = fieldA (tsub s d) f Xi := by simpa using (List.mem_filter.1 hv).1
          subst this
          unfold pval
          rw [hnum, if_neg (by rw [hw]; simp), hw]
          cases keep <;> rfl
        rw [flatMap_same hp]
        cases keep <;> simp
      · have hw' : ws.any (wholeW f.number) = false := by simpa using hw
        by_cases hc : underW ws f.number ≠ [] ∧ f.kind = 17 ∧ f.rep = false
        · obtain ⟨hu, h17, hrep⟩ := hc
          cases hXe : Xi with
          | nil =>
            rw [List.flatMap_nil]
            simp [fieldA_nil]
          | cons a0 r0 =>
            rw [← hXe]
            have ha0 : a0 ∈ Xi := by rw [hXe]; simp
            obtain ⟨x0, hx0, hxk0, -⟩ := hview a0 ha0
            obtain ⟨d', rfl, -⟩ := hx0.sub hxk0 (by rw [← hfs, ← hf]; exact h17)
            have hsubv : ∀ a ∈ Xi, (vmsg s d' f.of.toNat a.val).2 = 0 ∧ a.run = false := fun a ha => by
              obtain ⟨x, hx, hxk, rfl⟩ := hview a ha
              obtain ⟨d'', e, hv⟩ := hx.sub hxk (by rw [← hfs, ← hf]; exact h17)
              have e' : d' = d'' := by omega
              subst e'
              rw [← hfs, ← hf] at hv
              refine ⟨hv, ?_⟩
              obtain ⟨-, -, -, f4⟩ := hx.facts
              show x.run = false
              cases hr : x.run with
              | false => rfl
              | true =>
                rcases f4 with ⟨f4, f5⟩ | ⟨k', f4, f5, f6, -⟩
                · rw [hr] at f5; cases f5
                · have : k' = q := by omega
                  subst this
                  have := (f6 hr).2
                  rw [← hfs, ← hf, h17] at this
                  simp [knumber] at this
            have hwords : ∀ (xs : List AR), (∀ a ∈ xs, a.run = false) → xs ≠ [] → fieldA (tsub s (d' + 1)) f xs = ⟨f.number, [], [], [tof s d' f.of.toNat (xs.flatMap AR.val)]⟩ := fun xs hx hne => by
              unfold fieldA
              have hcr : ∀ a ∈ counts f xs, a.run = false := fun a ha => by
                unfold counts lastOf at ha
                split at ha
                · exact hx a ha
                · exact hx a (List.mem_of_mem_drop ha)
              have e : (counts f xs).flatMap (arW f) = [] := by
                rw [flatMap_same (g := fun _ => ([] : List Nat)) fun a ha => by unfold arW; rw [hcr a ha, h17]; simp [knumber]]
                simp
              rw [e, if_pos h17, if_pos h17, if_neg (by rw [hrep]; decide), if_neg hne]
              rfl
            have hY : Xi.flatMap (kpR (ksub s keep (d' + 1)) fs keep ws) = Xi.map fun a => (⟨(q : Int), false, kpart s keep d' f.of.toNat (underW ws f.number) a.val, tagA a.whole ++ (vput (kpart s keep d' f.of.toNat (underW ws f.number) a.val).length ++ kpart s keep d' f.of.toNat (underW ws f.number) a.val)⟩ : AR) := by
              rw [flatMap_same (g := fun a => [(⟨(q : Int), false, kpart s keep d' f.of.toNat (underW ws f.number) a.val, tagA a.whole ++ (vput (kpart s keep d' f.of.toNat (underW ws f.number) a.val).length ++ kpart s keep d' f.of.toNat (underW ws f.number) a.val)⟩ : AR)]) fun a ha => by
                rw [unf a ha, if_neg hw, if_pos ⟨hu, h17, hrep⟩]; rfl]
              exact flat_single _ _
            have hcat : (Xi.map fun a => (⟨(q : Int), false, kpart s keep d' f.of.toNat (underW ws f.number) a.val, tagA a.whole ++ (vput (kpart s keep d' f.of.toNat (underW ws f.number) a.val).length ++ kpart s keep d' f.of.toNat (underW ws f.number) a.val)⟩ : AR)).flatMap AR.val = kpart s keep d' f.of.toNat (underW ws f.number) (Xi.flatMap AR.val) := by
              have e : Xi.flatMap AR.val = (Xi.map AR.val).flatten := flatten_map _ _
              rw [e, kpart_cat (fun t ht => by obtain ⟨a, ha, rfl⟩ := List.mem_map.1 ht; exact (hsubv a ha).1), List.flatMap_map, List.flatMap_map]
            have hvs : (vmsg s d' f.of.toNat (Xi.flatMap AR.val)).2 = 0 := by
              rw [flatten_map]
              exact vmsg_flat fun t ht => by obtain ⟨a, ha, rfl⟩ := List.mem_map.1 ht; exact (hsubv a ha).1
            have hfm : f ∈ (s.getD m .zero).fields := by
              rw [hf, ← hfs]
              have : fs.getD q .zero = fs[q] := by simp [List.getD, hq]
              rw [this]; exact List.getElem_mem hq
            have hof := (sright_field hs m hm f hfm).2.1 h17
            have ih := tof_part hs keep (d := d') (ws := underW ws f.number) (m := f.of.toNat) (l := Xi.flatMap AR.val) (by omega) hvs (by
              have := val_le h (q : Int)
              rw [← hfs, ← hX, ← hXi] at this
              omega)
            have hne : Xi ≠ [] := by rw [hXe]; simp
            rw [hY, hwords _ (fun a ha => by obtain ⟨b, -, rfl⟩ := List.mem_map.1 ha; rfl) (by simpa using hne), hcat, ih, hwords Xi (fun a ha => (hsubv a ha).2) hne]
            have e1 : ∀ y : M (d' + 1), decide (0 < many (⟨f.number, [], [], [y]⟩ : Val (M (d' + 1)))) = true := fun y => by simp [many]
            rw [List.filter_cons, List.filter_cons, e1, e1, if_pos rfl, if_pos rfl, List.filter_nil, List.flatMap_cons, List.flatMap_nil, List.append_nil]
            unfold pval
            rw [hat, Int.toNat_natCast, ← hf, if_pos ⟨hw', hu, h17, hrep⟩]
            rfl
        · have hz : ∀ a ∈ Xi, kpR (ksub s keep d) fs keep ws a = if (!keep) = true then [a] else [] := fun a ha => by
            rw [unf a ha, if_neg hw, if_neg hc]
            cases keep <;> rfl
          rw [plain (!keep) hz]
          have hp : ∀ v ∈ ([fieldA (tsub s d) f Xi].filter fun v => decide (0 < many v)), pval (fun o u y => partM s keep d o.toNat u y) fs keep ws v = if (!keep) = true then [v] else [] := fun v hv => by
            have : v = fieldA (tsub s d) f Xi := by simpa using (List.mem_filter.1 hv).1
            subst this
            unfold pval
            rw [hnum, hat, Int.toNat_natCast, ← hf, if_neg (fun h => hc h.2), hw']
            cases keep <;> rfl
          rw [flatMap_same hp]
          cases keep <;> simp
    · show ((X.flatMap (kpR (ksub s keep d) fs keep ws)).filter fun x => decide (x.k < 0)).map AR.whole = if keep = true then [] else (X.filter fun x => decide (x.k < 0)).map AR.whole
      rw [filter_kpR (fun k => decide (k < 0))]
      have : ∀ a ∈ X.filter (fun a => decide (a.k < 0)), kpR (ksub s keep d) fs keep ws a = if keep = true then [] else [a] := fun a ha => by
        unfold kpR
        rw [if_pos (of_decide_eq_true (List.mem_filter.1 ha).2)]
      rw [flatMap_same this]
      cases keep <;> simp
end Go.Proofs.YtfimpmennkfjcaaGreatDoor
