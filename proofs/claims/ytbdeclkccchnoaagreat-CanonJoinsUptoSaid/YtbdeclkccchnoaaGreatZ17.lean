/- Parts of a proof: texts of the author, merged. No condition of their own. -/
import Derived.Test.YtbdeclkccchnoaaGreatZ01
import Derived.Test.YtbdeclkccchnoaaGreatZ02
import Derived.Test.YtbdeclkccchnoaaGreatZ05
import Derived.Test.YtbdeclkccchnoaaGreatZ07
import Derived.Test.YtbdeclkccchnoaaGreatZ09
import Derived.Test.YtbdeclkccchnoaaGreatZ10
import Derived.Test.YtbdeclkccchnoaaGreatZ11
import Derived.Test.YtbdeclkccchnoaaGreatZ14
import Derived.Test.YtbdeclkccchnoaaGreatZ15
import Derived.Test.YtbdeclkccchnoaaGreatZ16
import Derived.RangeFuncNested
import Derived.RangeFuncBound
import Derived.RangeFuncCalls
import Derived.RangeFuncLeaves
import Derived.Shelf.RegionOpen
namespace Go.Proofs.YtbdeclkccchnoaaGreat
open Go.RowKit Go.Shelf
def upd {α : Type} (G : Nat → α) (q : Nat) (x : α) : Nat → α := fun i => if i = q then x else G i
theorem upd_same {α : Type} (G : Nat → α) (q : Nat) (x : α) : upd G q x q = x := by unfold upd; rw [if_pos rfl]
theorem upd_other {α : Type} (G : Nat → α) (q : Nat) (x : α) {i : Nat} (h : i ≠ q) : upd G q x i = G i := by unfold upd; rw [if_neg h]
structure Ent (n0 B : Nat) (f : Fld) (l : List UInt8) (xs : List VW) (tag : Nat → Nat) (q g : Nat) (wv vv : Value) (w : World) : Prop where
  pcs : Pcs n0 B f g wv vv (xs.flatMap (pieceW f l)) (xs.flatMap (pieceB f l)) w
  tg : tag g = q + 1
  tw : ∀ b, wv.ownBlock = some b → tag b = q + 1
  tv : ∀ b, vv.ownBlock = some b → tag b = q + 1
structure TSt (n0 B r : Nat) (fs : List Fld) (l : List UInt8) (taken : List VW) (has : Nat → Bool) (tag : Nat → Nat) (es : List (Int × Value)) (G : Nat → Nat) (WV VV : Nat → Value) (w : World) : Prop where
  map : MapIs w r intK es
  hasnt : ∀ q : Nat, q < fs.length → has q = false → getOf (q : Int) es = none ∧ viewsOf taken (q : Int) = []
  hass : ∀ q : Nat, q < fs.length → has q = true → getOf (q : Int) es = some (.pointer (some ⟨G q, 0, none⟩)) ∧ Ent n0 B (fs.getD q .zero) l (viewsOf taken (q : Int)) tag q (G q) (WV q) (VV q) w
theorem Ent.keep {n0 B : Nat} {f : Fld} {l : List UInt8} {xs : List VW} {tag tag' : Nat → Nat} {q g : Nat} {wv vv : Value} {w w' : World} (h : Ent n0 B f l xs tag q g wv vv w) (h0 : ∀ b, b < n0 → w'.heap[b]? = w.heap[b]?) (hk : ∀ b, B ≤ b → b < w.heap.size → tag b = q + 1 → w'.heap[b]? = w.heap[b]?)
    (ht : ∀ b, b < w.heap.size → tag' b = tag b) : Ent n0 B f l xs tag' q g wv vv w' := by
  have hg := h.pcs.box.lt
  refine ⟨⟨(hk g h.pcs.bg hg h.tg).trans h.pcs.box, ?_, ?_, h.pcs.wg, h.pcs.vg, h.pcs.wv, h.pcs.bg⟩, (ht g hg).trans h.tg, fun b e => (ht b (h.pcs.words.own b e).2).trans (h.tw b e), fun b e => (ht b (h.pcs.vals.own b e).2).trans (h.tv b e)⟩
  · exact h.pcs.words.keep fun b e => hk b (h.pcs.words.own b e).1 (h.pcs.words.own b e).2 (h.tw b e)
  · exact h.pcs.vals.keep (fun b e => hk b (h.pcs.vals.own b e).1 (h.pcs.vals.own b e).2 (h.tv b e)) h0
theorem viewsOf_snoc (taken : List VW) (x : VW) (q : Int) : viewsOf (taken ++ [x]) q = if x.k = q then viewsOf taken q ++ [x] else viewsOf taken q := by
  unfold viewsOf
  rw [List.filter_append]
  by_cases hq : x.k = q
  · simp [hq]
  · simp [hq]
theorem TSt.skip {n0 B r : Nat} {fs : List Fld} {l : List UInt8} {taken : List VW} {has : Nat → Bool} {tag tag' : Nat → Nat} {es : List (Int × Value)} {G : Nat → Nat} {WV VV : Nat → Value} {w w' : World} (h : TSt n0 B r fs l taken has tag es G WV VV w)
    (h0 : ∀ b, b < n0 → w'.heap[b]? = w.heap[b]?) (hr : w'.heap[r]? = w.heap[r]?) (hk : ∀ b, B ≤ b → b < w.heap.size → tag b ≠ 0 → w'.heap[b]? = w.heap[b]?) (ht : ∀ b, b < w.heap.size → tag' b = tag b) {x : VW} (hx : x.k < 0) :
    TSt n0 B r fs l (taken ++ [x]) has tag' es G WV VV w' := by
  have hv : ∀ q : Nat, viewsOf (taken ++ [x]) (q : Int) = viewsOf taken (q : Int) := fun q => by rw [viewsOf_snoc, if_neg (by omega)]
  refine ⟨hr.trans h.map, fun q hq hf => ?_, fun q hq hf => ?_⟩
  · rw [hv]; exact h.hasnt q hq hf
  · rw [hv]
    obtain ⟨g1, g2⟩ := h.hass q hq hf
    exact ⟨g1, g2.keep h0 (fun b h1 h2 h3 => hk b h1 h2 (by omega)) ht⟩
theorem TSt.later {n0 B r : Nat} {fs : List Fld} {l : List UInt8} {taken : List VW} {has : Nat → Bool} {tag : Nat → Nat} {es : List (Int × Value)} {G : Nat → Nat} {WV VV : Nat → Value} {w w' : World} (h : TSt n0 B r fs l taken has tag es G WV VV w)
    (h0 : ∀ b, b < n0 → w'.heap[b]? = w.heap[b]?) (hr : w'.heap[r]? = w.heap[r]?) (hk : ∀ b, B ≤ b → b < w.heap.size → tag b ≠ 0 → w'.heap[b]? = w.heap[b]?) : TSt n0 B r fs l taken has tag es G WV VV w' :=
  ⟨hr.trans h.map, h.hasnt, fun q hq hf => ⟨(h.hass q hq hf).1, (h.hass q hq hf).2.keep h0 (fun b h1 h2 h3 => hk b h1 h2 (by omega)) fun _ _ => rfl⟩⟩
theorem getOf_app {K : Type} [DecidableEq K] (k : K) (k' : K) (v : Value) : ∀ (es : List (K × Value)), getOf k (es ++ [(k', v)]) = match getOf k es with | some u => some u | none => if k = k' then some v else none
  | [] => by simp [getOf]
  | (k2, v2) :: r => by
    simp only [List.cons_append, getOf]
    by_cases e : k = k2
    · rw [if_pos e, if_pos e]
    · rw [if_neg e, if_neg e]; exact getOf_app k k' v r
theorem TSt.insert {n0 B r : Nat} {fs : List Fld} {l : List UInt8} {taken : List VW} {has : Nat → Bool} {tag : Nat → Nat} {es : List (Int × Value)} {G : Nat → Nat} {WV VV : Nat → Value} {w w' : World} (h : TSt n0 B r fs l taken has tag es G WV VV w) (hrB : r < B) (hB : B ≤ w.heap.size) (_hn0 : n0 ≤ B) (hr0 : n0 ≤ r)
    {q : Nat} (hq : q < fs.length) (hno : has q = false) (hm : MapIs w' r intK (es ++ [((q : Int), .pointer (some ⟨w.heap.size, 0, none⟩))])) (hb : Blk w' w.heap.size ((fs.getD q .zero).cells ++ [noneS, noneS]) 98) (hk : ∀ b, b < w.heap.size → b ≠ r → w'.heap[b]? = w.heap[b]?) :
    TSt n0 B r fs l taken (upd has q true) (upd tag w.heap.size (q + 1)) (es ++ [((q : Int), .pointer (some ⟨w.heap.size, 0, none⟩))]) (upd G q w.heap.size) (upd WV q noneS) (upd VV q noneS) w' := by
  obtain ⟨g1, g2⟩ := h.hasnt q hq hno
  refine ⟨hm, fun p hp hf => ?_, fun p hp hf => ?_⟩
  · have hne : p ≠ q := by rintro rfl; rw [upd_same] at hf; cases hf
    rw [upd_other _ _ _ hne] at hf
    obtain ⟨e1, e2⟩ := h.hasnt p hp hf
    refine ⟨?_, e2⟩
    rw [getOf_app, e1]
    simp only
    rw [if_neg (by omega)]
  · by_cases hpq : p = q
    · subst hpq
      rw [upd_same, upd_same, upd_same, getOf_app, g1, g2]
      refine ⟨by simp, ⟨⟨hb, World.ownsRow_nil _ _ _ _, PcsOwn.nil _ _ _, by simp [Value.ownBlock], by simp [Value.ownBlock], by simp [Value.ownBlock], hB⟩, upd_same _ _ _, by simp [Value.ownBlock], by simp [Value.ownBlock]⟩⟩
    · rw [upd_other _ _ _ hpq] at hf
      obtain ⟨e1, e2⟩ := h.hass p hp hf
      rw [upd_other _ _ _ hpq, upd_other _ _ _ hpq, upd_other _ _ _ hpq, getOf_app, e1]
      refine ⟨rfl, e2.keep (fun b hb => hk b (by omega) (by omega)) (fun b h1 h2 _ => hk b h2 (by omega)) fun b hb => upd_other _ _ _ (by omega)⟩
theorem TSt.add {n0 B r : Nat} {fs : List Fld} {l : List UInt8} {taken : List VW} {has : Nat → Bool} {tag : Nat → Nat} {es : List (Int × Value)} {G : Nat → Nat} {WV VV : Nat → Value} {w w' : World} (h : TSt n0 B r fs l taken has tag es G WV VV w) (hrB : r < B) (hn0 : n0 ≤ B)
    {q : Nat} (hq : q < fs.length) (hyes : has q = true) {x : VW} (hx : x.k = (q : Int)) {wv' vv' : Value} (hp : Pcs n0 B (fs.getD q .zero) (G q) wv' vv' ((viewsOf taken (q : Int)).flatMap (pieceW (fs.getD q .zero) l) ++ pieceW (fs.getD q .zero) l x) ((viewsOf taken (q : Int)).flatMap (pieceB (fs.getD q .zero) l) ++ pieceB (fs.getD q .zero) l x) w')
    (hs : PcsStep (G q) (WV q) (VV q) w wv' vv' w') : TSt n0 B r fs l (taken ++ [x]) has (fun b => if b < w.heap.size then tag b else q + 1) es G (upd WV q wv') (upd VV q vv') w' := by
  obtain ⟨e1, e2⟩ := h.hass q hq hyes
  obtain ⟨-, -, -, s4, s5, s6, s7⟩ := hs
  have hB : B ≤ w.heap.size := by have := e2.pcs.box.lt; have := e2.pcs.bg; omega
  have hsame : ∀ b, b < w.heap.size → tag b ≠ q + 1 → w'.heap[b]? = w.heap[b]? := fun b hb ht => s5 b hb (by rintro rfl; exact ht e2.tg) (fun e => ht (e2.tw b e)) (fun e => ht (e2.tv b e))
  have hlow : ∀ b, b < B → w'.heap[b]? = w.heap[b]? := fun b hb => s5 b (by omega) (by have := e2.pcs.bg; omega) (fun e => by have := (e2.pcs.words.own b e).1; omega) (fun e => by have := (e2.pcs.vals.own b e).1; omega)
  refine ⟨(hlow r hrB).trans h.map, fun p hp' hf => ?_, fun p hp' hf => ?_⟩
  · obtain ⟨g1, g2⟩ := h.hasnt p hp' hf
    have hne : p ≠ q := by rintro rfl; rw [hyes] at hf; cases hf
    refine ⟨g1, ?_⟩
    rw [viewsOf_snoc, if_neg (by rw [hx]; omega)]; exact g2
  · by_cases hpq : p = q
    · subst hpq
      rw [upd_same, upd_same, viewsOf_snoc, if_pos hx]
      refine ⟨e1, ⟨by rw [List.flatMap_append, List.flatMap_append]; simpa using hp, ?_, fun b e => ?_, fun b e => ?_⟩⟩
      · rw [if_pos e2.pcs.box.lt]; exact e2.tg
      · rcases s6 with e' | ⟨b', e', hb'⟩
        · rw [e'] at e
          rw [if_pos (e2.pcs.words.own b e).2]; exact e2.tw b e
        · rw [e'] at e; injection e with e
          rw [if_neg (by omega)]
      · rcases s7 with e' | ⟨b', e', hb'⟩
        · rw [e'] at e
          rw [if_pos (e2.pcs.vals.own b e).2]; exact e2.tv b e
        · rw [e'] at e; injection e with e
          rw [if_neg (by omega)]
    · obtain ⟨g1, g2⟩ := h.hass p hp' hf
      rw [upd_other _ _ _ hpq, upd_other _ _ _ hpq, viewsOf_snoc, if_neg (by rw [hx]; omega)]
      exact ⟨g1, g2.keep (fun b hb => hlow b (by omega)) (fun b h1 h2 h3 => hsame b h2 (by omega)) fun b hb => if_pos hb⟩
theorem TSt.start {n0 B r : Nat} {fs : List Fld} {l : List UInt8} {w : World} (hm : MapIs w r intK []) : TSt n0 B r fs l [] (fun _ => false) (fun _ => 0) [] (fun _ => 0) (fun _ => noneS) (fun _ => noneS) w :=
  ⟨hm, fun q _ _ => ⟨rfl, rfl⟩, fun q _ h => by cases h⟩
end Go.Proofs.YtbdeclkccchnoaaGreat
namespace Go.Proofs.YtbdeclkccchnoaaGreat
open Go.RowKit
def RowsOnS {α : Type} (S : Nat → Prop) (P : World → List Value → α → Prop) (T : TypeId) (k base : Nat) (w : World) (v : Value) (l : List α) : Prop :=
  ∃ rows : List (List Value), rows.length = l.length ∧ (∀ r ∈ rows, r.length = k) ∧ w.ownsRow base T k v l.length rows.flatten ∧
    ∀ w', (∀ b, b < w.heap.size → v.ownBlock ≠ some b → S b → w'.heap[b]? = w.heap[b]?) → ∀ (i : Nat) (r : List Value) (x : α), rows[i]? = some r → l[i]? = some x → P w' r x
theorem RowsOnS.nil {α : Type} (S : Nat → Prop) (P : World → List Value → α → Prop) (T : TypeId) (k base : Nat) (w : World) : RowsOnS S P T k base w (.slice none 0 0) [] :=
  ⟨[], rfl, by simp, World.ownsRow_nil _ _ _ _, fun _ _ i r x h => by simp at h⟩
theorem RowsOnS.form {α : Type} {S : Nat → Prop} {P : World → List Value → α → Prop} {T : TypeId} {k base : Nat} {w : World} {v : Value} {l : List α} (h : RowsOnS S P T k base w v l) : ∃ a c, v = .slice a l.length c := by
  obtain ⟨rows, -, -, h3, -⟩ := h
  rcases h3.2 with ⟨rfl, h0⟩ | ⟨g, cap, cur, rfl, _⟩
  · exact ⟨none, 0, by rw [h0]⟩
  · exact ⟨_, _, rfl⟩
theorem RowsOnS.own {α : Type} {S : Nat → Prop} {P : World → List Value → α → Prop} {T : TypeId} {k base : Nat} {w : World} {v : Value} {l : List α} (h : RowsOnS S P T k base w v l) (b : Nat) (e : v.ownBlock = some b) : base ≤ b ∧ b < w.heap.size := by
  obtain ⟨rows, -, -, h3, -⟩ := h
  exact World.ownsRow.lt h3 b e
theorem owned_keep {w w' : World} {base size n : Nat} {e : TypeId} {v : Value} {xs : List Value} (h : w.ownsRow base e size v n xs) (hk : ∀ b, v.ownBlock = some b → w'.heap[b]? = w.heap[b]?) : w'.ownsRow base e size v n xs := by
  refine ⟨h.1, ?_⟩
  rcases h.2 with h | ⟨g, cap, cur, hv, hb, hg, hr⟩
  · exact .inl h
  · exact .inr ⟨g, cap, cur, hv, hb, (hk g (by rw [hv]; rfl)).trans hg, hr⟩
theorem RowsOnS.later {α : Type} {S : Nat → Prop} {P : World → List Value → α → Prop} {T : TypeId} {k base : Nat} {w w2 : World} {v : Value} {l : List α} (h : RowsOnS S P T k base w v l)
    (hw : ∀ b, b < w.heap.size → (S b ∨ v.ownBlock = some b) → w2.heap[b]? = w.heap[b]?) (hs : w.heap.size ≤ w2.heap.size) : RowsOnS S P T k base w2 v l := by
  have h0 := h
  obtain ⟨rows, h1, h2, h3, h4⟩ := h
  exact ⟨rows, h1, h2, owned_keep h3 fun b e => hw b (h0.own b e).2 (.inr e), fun w' hw' => h4 w' fun b hlt hne hc => (hw' b (by omega) hne hc).trans (hw b hlt (.inl hc))⟩
theorem RowsOnS.at {α : Type} {S : Nat → Prop} {P : World → List Value → α → Prop} {T : TypeId} {k base : Nat} {w : World} {v : Value} {l : List α} (h : RowsOnS S P T k base w v l) (hl : l.length ≤ 140737488355328) {w' : World}
    (hw : ∀ b, b < w.heap.size → (S b ∨ v.ownBlock = some b) → w'.heap[b]? = w.heap[b]?) : RowsAt P k w' v l := by
  have h0 := h
  obtain ⟨rows, h1, h2, h3, h4⟩ := h
  exact ⟨rows, h1, h2, row_seg (owned_keep h3 fun b e => hw b (h0.own b e).2 (.inr e)) hl, fun i r x hr hx => h4 w' (fun b hlt _ hc => hw b hlt (.inl hc)) i r x hr hx⟩
theorem RowsOnS.append {α : Type} {P : World → List Value → α → Prop} {T : TypeId} {k base : Nat} {S : Nat → Prop} {w : World} {v : Value} {l : List α} (h : RowsOnS S P T k base w v l) (hk : 0 < k)
    {G : Program} (t : TypeId) (z : Value) (bytes : Nat) (ht : G.underlying t = some (.slice T)) (hinfo : (G.info? T).map (fun i => (i.zero, i.size, i.bytes)) = some (some z, k, bytes)) (hzs : z.cells.size = k)
    (cells : Array Value) (hr : cells.size = k) (h1 : ∀ u ∈ cells.toList, u.oneCell' = true) (x : α)
    (hP : ∀ w', (∀ b, b < w.heap.size → v.ownBlock ≠ some b → S b → w'.heap[b]? = w.heap[b]?) → P w' cells.toList x) (hlen : l.length ≤ 1099511627776) (hby : bytes ≤ 120) (hbase : base ≤ w.heap.size) :
    ∃ v' w', (Builtin.append_ #[t, t] t #[v, .slice (some ⟨w.heap.size, 0, none⟩) 1 1]).run G (w.alloc (.cells cells T)) = .ok v' w' ∧ RowsOnS S P T k base w' v' (l ++ [x]) ∧
      (w.alloc (.cells cells T)).grownBy w' v.ownBlock ∧ (v'.ownBlock = v.ownBlock ∨ v'.ownBlock = some (w.alloc (.cells cells T)).heap.size) := by
  obtain ⟨rows, g1, g2, g3, g4⟩ := h
  have hseg : Seg (w.alloc (.cells cells T)) (.slice (some ⟨w.heap.size, 0, none⟩) 1 1) k 1 cells.toList := by
    refine ⟨by simp [hr], by omega, some ⟨w.heap.size, 0, none⟩, 1, rfl, Nat.le_refl _, by omega, by simp, fun j u hu => ⟨_, _, rfl, ?_⟩⟩
    rw [Nat.zero_add, cell_of_row _ _ _ cells T (0, 0) (heap_alloc_new w _)]
    simpa using hu
  have hb1 : (l.length + 1) * bytes ≤ 140737488355328 := Nat.le_trans (Nat.mul_le_mul_left _ hby) (by omega)
  obtain ⟨v', w', hrun, hO, hg, hat⟩ := seg_append (P := G) (w.alloc (.cells cells T)) base t t T z k bytes ht hinfo hzs hk v _ l.length 1 rows.flatten cells.toList
    (World.ownsRow.alloc g3 _) hseg h1 (by omega) hb1 (by simp; omega)
  refine ⟨v', w', hrun, ⟨rows ++ [cells.toList], by simp [g1], ?_, by simpa using hO, ?_⟩, hg, hat⟩
  · intro r hr'
    rcases List.mem_append.1 hr' with h | h
    · exact g2 r h
    · simp at h; subst h; simpa using hr
  · intro w2 hw2
    have hsz : w.heap.size + 1 ≤ w'.heap.size := by have := hg.size; simpa using this
    have hold : ∀ b, b < w.heap.size → v.ownBlock ≠ some b → S b → w2.heap[b]? = w.heap[b]? := by
      intro b hlt hne hc
      have hne' : v'.ownBlock ≠ some b := by
        rcases hat with e | e
        · rw [e]; exact hne
        · rw [e]; intro e2; simp at e2; omega
      exact ((hw2 b (by omega) hne' hc).trans (hg.block b (by simp; omega) (fun e => hne e.symm))).trans (Below.heap_alloc w _ b hlt)
    intro i r y hri hyi
    by_cases hil : i < l.length
    · rw [List.getElem?_append_left (by omega)] at hri
      rw [List.getElem?_append_left hil] at hyi
      exact g4 w2 hold i r y hri hyi
    · have hi : i = l.length := by
        have := (List.getElem?_eq_some_iff.1 hyi).1
        simp at this; omega
      subst hi
      rw [← g1, List.getElem?_concat_length] at hri
      rw [List.getElem?_concat_length] at hyi
      cases hri
      cases hyi
      exact hP w2 hold
theorem RowsOnS.step {α : Type} {P : World → List Value → α → Prop} {T : TypeId} {k base i : Nat} {S : Nat → Prop} {wr : World} {oa : Option Addr} {oc : Nat} {l : List α} (h : RowsOnS S P T k base wr (.slice oa i oc) l) (hk : 0 < k) (hbs : base ≤ wr.heap.size) (hil : l.length = i)
    {G : Program} (t : TypeId) (z : Value) (bytes : Nat) (ht : G.underlying t = some (.slice T)) (hinfo : (G.info? T).map (fun i => (i.zero, i.size, i.bytes)) = some (some z, k, bytes)) (hzs : z.cells.size = k)
    (cells : Array Value) (hr : cells.size = k) (h1 : ∀ u ∈ cells.toList, u.oneCell' = true) (x : α)
    (hP : ∀ w', (∀ b, b < wr.heap.size → (Value.slice oa i oc).ownBlock ≠ some b → S b → w'.heap[b]? = wr.heap[b]?) → P w' cells.toList x) (hlen : i ≤ 1099511627776) (hby : bytes ≤ 120) :
    ∃ a' c' w5, (Builtin.append_ #[t, t] t #[.slice oa i oc, .slice (some ⟨wr.heap.size, 0, none⟩) 1 1]).run G (wr.alloc (.cells cells T)) = .ok (.slice a' (i + 1) c') w5 ∧ RowsOnS S P T k base w5 (.slice a' (i + 1) c') (l ++ [x]) ∧
      Below base wr w5 ∧ (wr.alloc (.cells cells T)).grownBy w5 (Value.slice oa i oc).ownBlock ∧ ((Value.slice a' (i + 1) c').ownBlock = (Value.slice oa i oc).ownBlock ∨ (Value.slice a' (i + 1) c').ownBlock = some (wr.alloc (.cells cells T)).heap.size) := by
  have hB1 : Below base wr (wr.alloc (.cells cells T)) := (Below.refl _ _).alloc hbs _
  obtain ⟨v', w', hrun, hO, hg, hat⟩ := h.append hk t z bytes ht hinfo hzs cells hr h1 x hP (by omega) hby (by omega)
  obtain ⟨a', c', rfl⟩ := hO.form
  rw [List.length_append, List.length_singleton, hil] at *
  exact ⟨a', c', w', hrun, hO, hB1.grown hg (by have := hB1.size; omega) fun q e => (h.own q e).1, hg, hat⟩
end Go.Proofs.YtbdeclkccchnoaaGreat
namespace Go.Proofs.YtbdeclkccchnoaaGreat
open Go.RowKit
def viewP (_ : World) (r : List Value) (x : VW) : Prop := r = x.cells
def AllPost (w : World) (T : TypeId) (k : Nat → Value) (x : List VW × Nat × Nat) (e : Ending) (w' : World) : Prop :=
  ∃ v' base, e = .returned (.tuple #[v', .int .i64 (x.2.1 : Nat), k x.2.2]) ∧ w.heap.size ≤ base ∧ RowsOwn viewP T 7 0 base w' v' x.1 ∧ Below w.heap.size w w'
theorem info_view : (Tryz.prog.info? 93).map (fun i => (i.zero, i.size, i.bytes)) = some (some (.agg #[.int .i64 0, .int .i64 0, .int .i64 0, .int .i64 0, .int .i64 0, .int .i64 0, .bool false]), 7, 56) := by kernel_rfl
set_option maxRecDepth 100000 in
set_option maxHeartbeats 8000000 in
theorem view_All {w : World} {v vf : Value} {l : List UInt8} {fs : List Fld} (h : Bytes w v l) (hl : l.length ≤ 1099511627776) (hf : FieldsAt w vf fs) (nm : ByteArray) :
    Calls Tryz.prog 38 #[.agg #[.string nm, vf], v] w (AllPost w 93 (fun c => .int .u8 (c : Int)) (vall fs l)) := by
  have HLL := hid hl
  obtain ⟨hlen, a, cap, rfl, -, -, -, -⟩ := h.open
  obtain ⟨-, fa, fc, rfl, -⟩ := hf.open
  obtain ⟨n, HN⟩ : ∃ n, Hid (n = l.length) := ⟨_, rfl⟩
  obtain ⟨fn, HFN⟩ : ∃ n, Hid (n = fs.length) := ⟨_, rfl⟩
  rw [← HN.out] at hlen HLL hl h ⊢
  rw [← HFN.out] at hf ⊢
  obtain ⟨w1, HW1⟩ : ∃ w1, Hid (w1 = w.alloc (.cells #[.string nm, .slice fa fn fc] 47)) := ⟨_, rfl⟩
  have hb1 : Below w.heap.size w w1 := by rw [HW1.out]; (repeat (first | with_reducible exact Below.refl _ _ | with_reducible refine Below.setCell ?_ (by first | omega | (simp; omega) | (simp; done)) _ | with_reducible refine Below.alloc ?_ (by first | omega | (simp; omega) | (simp; done)) _ | with_reducible refine below_drewN ?_ _ | with_reducible refine Below.drew ?_))
  have hbx : Blk w1 w.heap.size [.string nm, .slice fa fn fc] 47 := by rw [HW1.out]; exact Blk.new w [.string nm, .slice fa fn fc] _
  have HB1 := hid hb1
  have HBX := hid hbx
  have HV := hid (h.below hb1)
  have HF := hid (hf.below hb1)
  obtain ⟨Q, HQ⟩ : ∃ Q : Ending → World → Prop, Hid (Q = AllPost w 93 (fun c => .int .u8 (c : Int)) (vall fs l)) := ⟨_, rfl⟩
  rw [← HQ.out]
  clear h hf hb1 hbx
  go_enter Tryz.func38, Tryz.ntmps38
  go_wp2_with fail
  rw [← HW1.out]
  go_loopw [7, 8, 9, 10] (fun v7 v8 _ _ wr => ∃ (pre : List VW) (oa : Option Addr) (m oc at' : Nat), v7 = .slice oa m oc ∧ v8 = .int .i64 at' ∧ at' ≤ n ∧ m ≤ at' ∧ Hid (m = pre.length ∧ (∃ fuel, n - at' ≤ fuel ∧ vall fs l = glueV pre (vallGo fs l fuel at')) ∧ Below w1.heap.size w1 wr ∧ RowsOwn viewP 93 7 0 w1.heap.size wr (.slice oa m oc) pre)) (fun _ v8 _ _ _ => n - (intOf v8).toNat)
  case atStart => exact ⟨[], none, 0, 0, 0, rfl, rfl, by omega, by omega, rfl, ⟨l.length, by have := HN.out; omega, by rw [glueV_nil]; rfl⟩, Below.refl _ _, RowsOwn.nil _ _ _ _ _ _⟩
  case round =>
    obtain ⟨pre, oa, m, oc, at', rfl, rfl, hat, hmat, HI⟩ := hrel
    have hbx := HBX.out.below HI.out.2.2.1
    have c0 := hbx.cell 0 _ rfl
    have c1 := hbx.cell 1 _ rfl
    have hsz := hbx.lt
    have HBW : Hid (Below w.heap.size w wr) := HB1.out.trans (HI.out.2.2.1.mono HB1.out.size)
    clear hbx
    by_cases hlt : at' < n
    · obtain ⟨r, k, run, c, HR⟩ : ∃ r k run c, Hid (vlook fs l at' = (r, k, run, c)) := ⟨_, _, _, _, rfl⟩
      have hlk := view_Look (HV.out.below HI.out.2.2.1) (HF.out.below HI.out.2.2.1) nm at' (by omega)
      rw [HR.out] at hlk
      have HLK := hid hlk
      obtain ⟨rn, rw', rs, ra, rt⟩ := r
      simp only [viewV] at HLK
      clear hlk
      by_cases hc : c = 0
      · subst hc
        have hok : at' < rt ∧ rt ≤ n := by
          have := vlook_ok (fs := fs) (l := l) (i := at') (by rw [HR.out])
          rw [HR.out, ← HN.out] at this
          exact ⟨this.2.1, this.2.2.1⟩
        have HST : Hid (∃ fuel, n - rt ≤ fuel ∧ vall fs l = glueV (pre ++ [⟨⟨rn, rw', rs, ra, rt⟩, k, run⟩]) (vallGo fs l fuel rt)) := by
          obtain ⟨fuel, h1, h2⟩ := HI.out.2.1
          obtain ⟨f', rfl⟩ : ∃ f', fuel = f' + 1 := ⟨fuel - 1, by omega⟩
          exact ⟨f', by omega, by rw [h2, glueV_step (by rw [← HN.out]; exact hlt) HR.out]⟩
        go_wp2_with fail
        refine HLK.out.mono ?_
        rintro e w2 ⟨rfl, hb1⟩
        have hb2 := hb1.alloc hb1.size (.cells #[.int .i64 rn, .int .i64 rw', .int .i64 rs, .int .i64 ra, .int .i64 rt, .int .i64 k, .bool run] 93)
        have hk2 := Blk.new w2 [.int .i64 rn, .int .i64 rw', .int .i64 rs, .int .i64 ra, .int .i64 rt, .int .i64 k, .bool run] 93
        have hX : wr.heap.size ≤ w2.heap.size := hb1.size
        go_wp2_with fail
        generalize hW2 : w2.alloc (.cells #[.int .i64 rn, .int .i64 rw', .int .i64 rs, .int .i64 ra, .int .i64 rt, .int .i64 k, .bool run] 93) = W2 at *
        clear hW2
        generalize w2.heap.size = X at *
        clear hb1 c0 c1 hsz
        obtain ⟨a5, c5, w5, hr5, hO5, hB4, hB5, hk5⟩ := RowsOwn.step2 HI.out.2.2.2 hb2.drew (by decide) (by omega) HI.out.2.2.1.size HI.out.1.symm 86 _ 56 Tryz.underlying86 info_view rfl #[.int .i64 rn, .int .i64 rw', .int .i64 rs, .int .i64 ra, .int .i64 rt, .int .i64 k, .bool run] rfl (by intro u hu; simp at hu; rcases hu with rfl | rfl | rfl | rfl | rfl | rfl | rfl <;> rfl) ⟨⟨rn, rw', rs, ra, rt⟩, k, run⟩ (fun _ _ => rfl) (by have := HLL.out; omega) (by decide)
        have hkd : Blk W2.drew X [.int .i64 rn, .int .i64 rw', .int .i64 rs, .int .i64 ra, .int .i64 rt, .int .i64 k, .bool run] 93 := hk2
        have hke : Blk (W2.alloc (.cells #[.int .i64 rn, .int .i64 rw', .int .i64 rs, .int .i64 ra, .int .i64 rt, .int .i64 k, .bool run] 93)).drew X [.int .i64 rn, .int .i64 rw', .int .i64 rs, .int .i64 ra, .int .i64 rt, .int .i64 k, .bool run] 93 := hkd.alloc (.cells #[.int .i64 rn, .int .i64 rw', .int .i64 rs, .int .i64 ra, .int .i64 rt, .int .i64 k, .bool run] 93)
        have hkf : Blk w5 X [.int .i64 rn, .int .i64 rw', .int .i64 rs, .int .i64 ra, .int .i64 rt, .int .i64 k, .bool run] 93 := (hk5 X hX hk2.lt).trans hkd
        have k0 := And.intro (hkd.cell 0 _ rfl) (And.intro (hkd.cell 1 _ rfl) (And.intro (hkd.cell 2 _ rfl) (And.intro (hkd.cell 3 _ rfl) (And.intro (hkd.cell 4 _ rfl) (And.intro (hkd.cell 5 _ rfl) (hkd.cell 6 _ rfl))))))
        have k1 := And.intro (hke.cell 0 _ rfl) (And.intro (hke.cell 1 _ rfl) (And.intro (hke.cell 2 _ rfl) (And.intro (hke.cell 3 _ rfl) (And.intro (hke.cell 4 _ rfl) (And.intro (hke.cell 5 _ rfl) (hke.cell 6 _ rfl))))))
        have k3 := And.intro (hkf.cell 0 _ rfl) (And.intro (hkf.cell 1 _ rfl) (And.intro (hkf.cell 2 _ rfl) (And.intro (hkf.cell 3 _ rfl) (And.intro (hkf.cell 4 _ rfl) (And.intro (hkf.cell 5 _ rfl) (hkf.cell 6 _ rfl))))))
        have hXl := hk2.lt
        have HR5 : Hid ((Builtin.append_ #[86, 86] 86 #[.slice oa m oc, .slice (some ⟨W2.heap.size, 0, none⟩) 1 1]).run Tryz.prog (W2.alloc (.cells #[.int .i64 rn, .int .i64 rw', .int .i64 rs, .int .i64 ra, .int .i64 rt, .int .i64 k, .bool run] 93)).drew = .ok (.slice a5 (m + 1) c5) w5) := hr5
        have HO5 := hid hO5
        have HB5 : Hid (Below w1.heap.size wr w5) := hB5
        clear hkd hke hkf hr5 hO5 hB4 hB5 hk5 hb2 hk2
        go_region_held3 (fun w' => w'.cell? ⟨X, 0, none⟩ = some (.int .i64 rn) ∧ w'.cell? ⟨X, 1, none⟩ = some (.int .i64 rw') ∧ w'.cell? ⟨X, 2, none⟩ = some (.int .i64 rs) ∧ w'.cell? ⟨X, 3, none⟩ = some (.int .i64 ra) ∧ w'.cell? ⟨X, 4, none⟩ = some (.int .i64 rt) ∧ w'.cell? ⟨X, 5, none⟩ = some (.int .i64 k) ∧ w'.cell? ⟨X, 6, none⟩ = some (.bool run)) (first | (with_reducible exact k0) | (with_reducible exact k1) | (with_reducible exact k3) | go_keep) (first | (refine step_append_eq rfl (.tmp 26) (.tmp 28) _ rfl _ _ rfl rfl HR5.out ?_))
        go_wp2_with fail
        go_roundw
        case rel => exact ⟨pre ++ [⟨⟨rn, rw', rs, ra, rt⟩, k, run⟩], _, _, _, rt, rfl, rfl, hok.2, by have := hok.1; omega, by rw [List.length_append, ← HI.out.1]; rfl, HST.out, HI.out.2.2.1.trans HB5.out, HO5.out⟩
        case measure => simp [intOf]; have := hok.1; omega
      · have HE : Hid (vall fs l = ([], at', c)) := by
          obtain ⟨fuel, h1, h2⟩ := HI.out.2.1
          obtain ⟨f', rfl⟩ : ∃ f', fuel = f' + 1 := ⟨fuel - 1, by omega⟩
          rw [Hid, h2, glueV_bad (by rw [← HN.out]; exact hlt) (by rw [HR.out]) hc]
        have hc1 : ((c : Int) != 0) = true := by simp; exact hc
        have hc2 : ((c : Int) == 0) = false := by simp; exact hc
        clear hc
        go_wp2_with fail
        refine HLK.out.mono ?_
        rintro e w2 ⟨rfl, hb1⟩
        have HB2 : Hid (Below w.heap.size w w2) := below_step HBW.out hb1 HBW.out.size
        clear hb1
        go_wp2_with fail
        rw [HQ.out, HE.out]
        go_ret3
        exact ⟨_, w.heap.size, rfl, Nat.le_refl _, RowsOwn.nil _ _ _ _ _ _, HB2.out.alloc HB2.out.size _⟩
    · obtain rfl : at' = n := by omega
      have HE : Hid (vall fs l = (pre, 0, 0)) := by
        obtain ⟨fuel, h1, h2⟩ := HI.out.2.1
        rw [Hid, h2, glueV_end (by rw [← HN.out]; omega)]
      go_wp2_with fail
      rw [HQ.out, HE.out]
      go_ret3
      exact ⟨_, w1.heap.size, rfl, HB1.out.size, HI.out.2.2.2, HBW.out⟩
end Go.Proofs.YtbdeclkccchnoaaGreat
namespace Go.Proofs.YtbdeclkccchnoaaGreat
open Go.RowKit Go.Shelf
attribute [local go_sem] Oper.semAt_some
theorem Bytes.sub {w : World} {a : Option Addr} {n cap : Nat} {l : List UInt8} (h : Bytes w (.slice a n cap) l) (hn : n = l.length) (i j : Nat) (hij : i ≤ j) (hj : j ≤ n) : Bytes w (sliced a i j cap 1) (part l i j) := by
  subst hn
  have hs := Seg.sub h i j hij hj
  unfold Bytes part
  rw [List.length_take, List.length_drop, Nat.min_eq_left (by omega), List.map_take, List.map_drop]
  simpa using hs
end Go.Proofs.YtbdeclkccchnoaaGreat
namespace Go.Proofs.YtbdeclkccchnoaaGreat
open Go.RowKit
set_option maxRecDepth 100000 in
set_option maxHeartbeats 4000000 in
theorem record_span {w : World} {v : Value} {l : List UInt8} (h : Bytes w v l) (i j : Nat) (hij : i ≤ j) (hj : j ≤ l.length) :
    Calls Tryz.prog 66 #[v, .int .i64 (i : Int), .int .i64 (j : Int)] w fun e w' => ∃ v', e = .returned v' ∧ Own w' w.heap.size v' (part l i j) ∧ Below w.heap.size w w' := by
  obtain ⟨hlen, a, cap, rfl, -⟩ := h.open
  have hcap : l.length ≤ cap := by obtain ⟨_, _, a', c', e', h3, _⟩ := h; cases e'; exact h3
  have hsl := slice_lh_run under_bytes size_u8 a l.length cap i j (by omega) (by omega)
  have hxb := h.sub rfl i j hij hj
  obtain ⟨sv, HSV⟩ : ∃ sv, Hid (sliced a i j cap 1 = sv) := ⟨_, rfl⟩
  rw [HSV.out] at hsl hxb
  have HC := hid (clone_bytes hxb)
  obtain ⟨n, HN⟩ : ∃ n, Hid (n = l.length) := ⟨_, rfl⟩
  rw [← HN.out] at hlen hcap hsl hj ⊢
  obtain ⟨Q, HQ⟩ : ∃ Q : Ending → World → Prop, Hid (Q = fun e w' => ∃ v', e = .returned v' ∧ Own w' w.heap.size v' (part l i j) ∧ Below w.heap.size w w') := ⟨_, rfl⟩
  rw [← HQ.out]
  clear h hxb
  go_enter Tryz.func66, Tryz.ntmps66
  go_wp2_with (go_at_call 99; refine HC.out.mono ?_; rintro e w1 ⟨o, rfl, hown, hb1⟩)
  rw [HQ.out]
  exact ⟨_, rfl, hown, hb1⟩
set_option maxRecDepth 100000 in
set_option maxHeartbeats 4000000 in
theorem record_Whole {w : World} {v : Value} {l : List UInt8} (h : Bytes w v l) (r : Rec) (hij : r.start ≤ r.to) (hj : r.to ≤ l.length) :
    Calls Tryz.prog 39 #[v, r.val] w fun e w' => ∃ v', e = .returned v' ∧ Own w' w.heap.size v' (part l r.start r.to) ∧ Below w.heap.size w w' := by
  obtain ⟨hlen, a, cap, rfl, -⟩ := h.open
  obtain ⟨n, HN⟩ : ∃ n, Hid (n = l.length) := ⟨_, rfl⟩
  have H := hid h
  rw [← HN.out] at hlen H hj ⊢
  obtain ⟨r1, r2, i, at', j⟩ := r
  simp only at hij hj ⊢
  obtain ⟨Q, HQ⟩ : ∃ Q : Ending → World → Prop, Hid (Q = fun e w' => ∃ v', e = .returned v' ∧ Own w' w.heap.size v' (part l i j) ∧ Below w.heap.size w w') := ⟨_, rfl⟩
  rw [← HQ.out]
  unfold Rec.val
  simp only
  clear h
  go_enter Tryz.func39, Tryz.ntmps39
  have hb0 : Below w.heap.size w (w.alloc (.cells #[.int .i64 r1, .int .i64 r2, .int .i64 i, .int .i64 at', .int .i64 j] 91)) := by (repeat (first | with_reducible exact Below.refl _ _ | with_reducible refine Below.setCell ?_ (by first | omega | (simp; omega) | (simp; done)) _ | with_reducible refine Below.alloc ?_ (by first | omega | (simp; omega) | (simp; done)) _ | with_reducible refine below_drewN ?_ _ | with_reducible refine Below.drew ?_))
  have HSP := hid (record_span (H.out.below hb0) i j hij (by rw [← HN.out]; exact hj))
  go_wp2_with (go_at_call 66; refine HSP.out.mono ?_; rintro e w1 ⟨o, rfl, hown, hb1⟩)
  rw [HQ.out]
  exact ⟨_, rfl, hown.mono hb0.size, hb0.trans (hb1.mono hb0.size)⟩
end Go.Proofs.YtbdeclkccchnoaaGreat
namespace Go.Proofs.YtbdeclkccchnoaaGreat
open Go.RowKit Go.Shelf
theorem sright_fields' {s : List Mes} (h : sright s = true) (m : Nat) (hm : m < s.length) : (s.getD m .zero).fields.length ≤ 200 := by
  have h0 : (scheck s).2.2 = 0 := of_decide_eq_true h
  unfold scheck at h0
  by_cases h1 : s.length = 0 ∨ 100 < s.length
  · rw [if_pos h1] at h0; simp at h0
  rw [if_neg h1] at h0
  have hmem : s.getD m .zero ∈ s := by
    have : s.getD m .zero = s[m] := by simp [List.getD, hm]
    rw [this]; exact List.getElem_mem hm
  exact (scheckGo_ok s [] 0 h0 _ hmem).2.1
theorem views_cells' {w : World} {a : Option Addr} {n c base : Nat} {T : TypeId} {l : List VW} (h : RowsOwn viewP T 7 0 base w (.slice a n c) l) (hl : l.length ≤ 140737488355328) (k : Nat) (x : VW) (hk : l[k]? = some x) :
    ∃ b o, a = some ⟨b, o, none⟩ ∧ base ≤ b ∧ b < w.heap.size ∧ ∀ j u, x.cells[j]? = some u → w.cell? ⟨b, o + k * 7 + j, none⟩ = some u := by
  have hown := h.own
  obtain ⟨rows, g1, g2, ⟨-, -, a', cap', he, -, -, -, g3⟩, g4⟩ := h.at hl (w' := w) (fun _ _ _ => rfl)
  have hkl := (List.getElem?_eq_some_iff.1 hk).1
  obtain ⟨r, hr⟩ : ∃ r, rows[k]? = some r := ⟨_, List.getElem?_eq_getElem (by omega)⟩
  have hx : r = x.cells := g4 k r x hr hk
  cases he
  have hfl : ∀ j u, x.cells[j]? = some u → rows.flatten[k * 7 + j]? = some u := by
    intro j u hu
    have hj : j < 7 := by have := (List.getElem?_eq_some_iff.1 hu).1; simpa [VW.cells, viewL] using this
    rw [flatten_get rows k j r g2 hr hj, hx, hu]
  obtain ⟨b, o, ha, -⟩ := g3 (k * 7 + 0) _ (hfl 0 _ rfl)
  subst ha
  obtain ⟨h1, h2⟩ := hown b rfl
  refine ⟨b, o, rfl, h1, h2, fun j u hu => ?_⟩
  obtain ⟨b', o', ha', hc⟩ := g3 (k * 7 + j) u (hfl j u hu)
  cases ha'
  rw [Nat.add_assoc]; exact hc
structure Fr (W5 : World) (r X : Nat) (wi : World) : Prop where
  os : wi.os = W5.os
  tape : wi.tape = W5.tape
  output : wi.output = W5.output
  size : W5.heap.size ≤ wi.heap.size
  block : ∀ b, b < W5.heap.size → b ≠ r → b ≠ X → wi.heap[b]? = W5.heap[b]?
theorem Fr.refl (W5 : World) (r X : Nat) : Fr W5 r X W5 := ⟨rfl, rfl, rfl, Nat.le_refl _, fun _ _ _ _ => rfl⟩
theorem Fr.below {W5 : World} {r X : Nat} {wi w' : World} (h : Fr W5 r X wi) (hb : Below wi.heap.size wi w') : Fr W5 r X w' :=
  ⟨hb.os.trans h.os, hb.tape.trans h.tape, hb.output.trans h.output, Nat.le_trans h.size hb.size, fun b h1 h2 h3 => (hb.block b (Nat.lt_of_lt_of_le h1 h.size)).trans (h.block b h1 h2 h3)⟩
theorem Fr.grown {W5 : World} {r X : Nat} {wi w' : World} {o : Option Nat} (h : Fr W5 r X wi) (hg : wi.grownBy w' o) (ho : ∀ b, o = some b → W5.heap.size ≤ b ∨ b = r ∨ b = X) : Fr W5 r X w' :=
  ⟨hg.os.trans h.os, hg.tape.trans h.tape, hg.output.trans h.output, Nat.le_trans h.size hg.size, fun b h1 h2 h3 => (hg.block b (Nat.lt_of_lt_of_le h1 h.size) (fun e => by have := ho b e.symm; omega)).trans (h.block b h1 h2 h3)⟩
theorem zero_pcs : ∀ w : World, (zeroValue 95).run Tryz.prog w = .ok (.pointer none) w := fun w => by kernel_rfl
theorem pcs_lookup {w : World} {r : Nat} {es : List (Int × Value)} (h : MapIs w r intK es) (q : Int) : (Instr.lookup 89 (.map (some r)) (.int .i64 q) false).run Tryz.prog w = .ok ((getOf q es).getD (.pointer none)) w := by
  have := map_lookup (P := Tryz.prog) intK_ok Tryz.underlying89 zero_pcs h q false
  simp only [Bool.false_eq_true, if_false] at this
  exact this
theorem pcs_insert {w : World} {r : Nat} {es : List (Int × Value)} (h : MapIs w r intK es) (q : Int) (v : Value) (hk : getOf q es = none) : (Instr.mapUpdate 89 (.map (some r)) (.int .i64 q) v).run Tryz.prog w = .ok () (putMap w r intK (es ++ [(q, v)])) :=
  map_insert (P := Tryz.prog) intK_ok Tryz.underlying89 h q v hk
structure LI (n0 : Nat) (W5 : World) (r X : Nat) (fs : List Fld) (l : List UInt8) (taken : List VW) (has : Nat → Bool) (tag : Nat → Nat) (es : List (Int × Value)) (G : Nat → Nat) (WV VV : Nat → Value) (uv : Value) (us : List (List UInt8)) (wi : World) : Prop where
  fr : Fr W5 r X wi
  xb : Blk wi X [noneS, uv] 27
  ts : TSt n0 (r + 1) r fs l taken has tag es G WV VV wi
  un : StrsOwn wi (r + 1) uv us
  tg : ∀ b, uv.ownBlock = some b → tag b = 0
theorem StrsOwn.own {w : World} {base : Nat} {v : Value} {l : List (List UInt8)} (h : StrsOwn w base v l) (b : Nat) (e : v.ownBlock = some b) : base ≤ b ∧ b < w.heap.size := World.ownsRow.lt h b e
theorem StrsOwn.form' {w : World} {base : Nat} {v : Value} {l : List (List UInt8)} (h : StrsOwn w base v l) : ∃ a n c, v = .slice a n c := by
  obtain ⟨a, c, e⟩ := h.form; exact ⟨a, _, c, e⟩
theorem LI.below {n0 : Nat} {W5 : World} {r X : Nat} {fs : List Fld} {l : List UInt8} {taken : List VW} {has : Nat → Bool} {tag : Nat → Nat} {es : List (Int × Value)} {G : Nat → Nat} {WV VV : Nat → Value} {uv : Value} {us : List (List UInt8)} {wi w' : World} (h : LI n0 W5 r X fs l taken has tag es G WV VV uv us wi) (hz : W5.heap.size = r + 1) (hn0 : n0 ≤ r)
    (hb : Below wi.heap.size wi w') : LI n0 W5 r X fs l taken has tag es G WV VV uv us w' := by
  have hs := h.fr.size
  exact ⟨h.fr.below hb, h.xb.below hb, h.ts.later (fun b hlt => hb.block b (by omega)) (hb.block r (by omega)) fun b _ hlt _ => hb.block b hlt, row_keep h.un fun b _ _ he => hb.block b (Array.getElem?_eq_some_iff.1 he).1, h.tg⟩
theorem StrsOwn.one' {W : World} {base : Nat} {v : Value} {l : List (List UInt8)} (h : StrsOwn W base v l) (t : List UInt8) (hn : l.length + 1 ≤ 1099511627777) (hB : base ≤ W.heap.size) :
    ∃ v' w', (Builtin.append_ #[25, 25] 25 #[v, .slice (some ⟨W.heap.size, 0, none⟩) 1 1]).run Tryz.prog (W.alloc (.cells #[strV t] 9)) = .ok v' w' ∧ StrsOwn w' base v' (l ++ [t]) ∧ W.grownBy w' v.ownBlock ∧ (v'.ownBlock = v.ownBlock ∨ ∃ b, v'.ownBlock = some b ∧ W.heap.size ≤ b) := by
  have hA : Below W.heap.size W (W.alloc (.cells #[strV t] 9)) := (Below.refl _ _).alloc (Nat.le_refl _) _
  have hx : Seg (W.alloc (.cells #[strV t] 9)) (.slice (some ⟨W.heap.size, 0, none⟩) 1 1) 1 1 [strV t] := seg_blk (Blk.new W [strV t] _) 1 1 rfl (by omega)
  have h' : (W.alloc (.cells #[strV t] 9)).ownsRow base 9 1 v l.length (l.map strV) := row_keep h fun b _ _ he => hA.block b (Array.getElem?_eq_some_iff.1 he).1
  obtain ⟨v', w', h1, h2, h3, h4⟩ := seg_append (P := Tryz.prog) _ base 25 25 9 (.string ⟨#[]⟩) 1 16 under_strl info_string rfl (by decide) v _ l.length 1 _ _ h' hx (by intro u hu; simp at hu; subst hu; rfl) (by omega) (by omega) (by simp; omega)
  refine ⟨v', w', h1, ?_, ⟨h3.os, h3.tape, h3.output, Nat.le_trans (by simp) h3.size, fun k hk hr => (h3.block k (by simp; omega) hr).trans (Below.heap_alloc W _ k hk)⟩, h4.imp id fun e => ⟨_, e, by simp⟩⟩
  unfold StrsOwn
  rw [List.length_append, List.map_append]
  exact h2
theorem LI.push {n0 : Nat} {W5 : World} {r X : Nat} {fs : List Fld} {l : List UInt8} {taken : List VW} {has : Nat → Bool} {tag : Nat → Nat} {es : List (Int × Value)} {G : Nat → Nat} {WV VV : Nat → Value} {uv : Value} {us : List (List UInt8)} {wi : World} (h : LI n0 W5 r X fs l taken has tag es G WV VV uv us wi) (hz : W5.heap.size = r + 1) (hn0 : n0 ≤ X) (hX : X < r)
    {x : VW} (hx : x.k < 0) (t : List UInt8) (hl : us.length + 1 ≤ 1099511627777) :
    ∃ a5 n5 c5 w7, (Builtin.append_ #[25, 25] 25 #[uv, .slice (some ⟨wi.heap.size, 0, none⟩) 1 1]).run Tryz.prog (wi.alloc (.cells #[.string ⟨t.toArray⟩] 9)) = .ok (.slice a5 n5 c5) w7 ∧ Blk w7 X [noneS, uv] 27 ∧
      ∃ tag', LI n0 W5 r X fs l (taken ++ [x]) has tag' es G WV VV (.slice a5 n5 c5) (us ++ [t]) (w7.setCell ⟨X, 1, none⟩ (.slice a5 n5 c5)) := by
  have hs := h.fr.size
  obtain ⟨v', w7, hr, hO, hg, hat⟩ := h.un.one' t hl (by omega)
  obtain ⟨a5, n5, c5, rfl⟩ := hO.form'
  have hb7 : Blk w7 X [noneS, uv] 27 := (hg.block X h.xb.lt (fun e => by have := (h.un.own X e.symm).1; omega)).trans h.xb
  have hk : ∀ b, b < wi.heap.size → b ≠ X → uv.ownBlock ≠ some b → (w7.setCell ⟨X, 1, none⟩ (.slice a5 n5 c5)).heap[b]? = wi.heap[b]? := fun b hlt h1 h2 => by
    rw [Below.heap_setCell _ _ _ b (by show b ≠ X; exact h1)]
    exact hg.block b hlt fun e => h2 e.symm
  have hlow : ∀ b, b < r + 1 → uv.ownBlock ≠ some b := fun b hb e => by have := (h.un.own b e).1; omega
  have hos : ∀ b, (Value.slice a5 n5 c5).ownBlock = some b → b < wi.heap.size → tag b = 0 := by
    intro b e hlt
    by_cases hb : uv.ownBlock = some b
    · exact h.tg b hb
    · exfalso
      rcases hat with e2 | ⟨b', e2, hb'⟩
      · rw [e2] at e; exact hb e
      · rw [e2] at e; injection e with e; omega
  refine ⟨a5, n5, c5, w7, hr, hb7, fun b => if b < wi.heap.size then tag b else 0, ⟨?_, by simpa using hb7.set 1 (.slice a5 n5 c5), ?_, row_keep hO fun b _ hb _ => Below.heap_setCell _ _ _ b (by show b ≠ X; omega), fun b e => ?_⟩⟩
  · have hf7 := h.fr.grown hg fun b e => .inl (by have := (h.un.own b e).1; omega)
    have hc : w7.grownBy (w7.setCell ⟨X, 1, none⟩ (.slice a5 n5 c5)) (some X) := cell_grown _ _ _
    exact hf7.grown hc fun b e => .inr (.inr (Option.some.inj e).symm)
  · refine h.ts.skip (fun b hb => hk b (by omega) (by omega) (hlow b (by omega))) (hk r (by omega) (by omega) (hlow r (by omega))) (fun b h1 h2 h3 => hk b h2 (by omega) fun e => h3 (h.tg b e)) (fun b hb => if_pos hb) hx
  · by_cases hlt : b < wi.heap.size
    · show (if b < wi.heap.size then tag b else 0) = 0
      rw [if_pos hlt]; exact hos b e hlt
    · show (if b < wi.heap.size then tag b else 0) = 0
      rw [if_neg hlt]
theorem LI.insert {n0 : Nat} {W5 : World} {r X : Nat} {fs : List Fld} {l : List UInt8} {taken : List VW} {has : Nat → Bool} {tag : Nat → Nat} {es : List (Int × Value)} {G : Nat → Nat} {WV VV : Nat → Value} {uv : Value} {us : List (List UInt8)} {wi : World} (h : LI n0 W5 r X fs l taken has tag es G WV VV uv us wi) (hz : W5.heap.size = r + 1) (hn0 : n0 ≤ X) (hX : X < r)
    {q : Nat} (hq : q < fs.length) (hno : has q = false) {f : Fld} (hf : f = fs.getD q .zero) :
    ∀ w', w' = putMap (wi.alloc (.cells (f.cells ++ [noneS, noneS]).toArray 98)) r intK (es ++ [((q : Int), .pointer (some ⟨wi.heap.size, 0, none⟩))]) →
      (Instr.mapUpdate 89 (.map (some r)) (.int .i64 (q : Int)) (.pointer (some ⟨wi.heap.size, 0, none⟩))).run Tryz.prog (wi.alloc (.cells (f.cells ++ [noneS, noneS]).toArray 98)) = .ok () w' ∧ (∀ b, b < wi.heap.size → b ≠ r → w'.heap[b]? = wi.heap[b]?) ∧ wi.heap.size ≤ w'.heap.size ∧
      LI n0 W5 r X fs l taken (upd has q true) (upd tag wi.heap.size (q + 1)) (es ++ [((q : Int), .pointer (some ⟨wi.heap.size, 0, none⟩))]) (upd G q wi.heap.size) (upd WV q noneS) (upd VV q noneS) uv us w' := by
  rintro w' rfl
  subst hf
  have hs := h.fr.size
  have hr : r < wi.heap.size := by omega
  have hA : Below wi.heap.size wi (wi.alloc (.cells ((fs.getD q .zero).cells ++ [noneS, noneS]).toArray 98)) := (Below.refl _ _).alloc (Nat.le_refl _) _
  have hmap : MapIs (wi.alloc (.cells ((fs.getD q .zero).cells ++ [noneS, noneS]).toArray 98)) r intK es := (hA.block r hr).trans h.ts.map
  have hk : ∀ b, b < wi.heap.size → b ≠ r → (putMap (wi.alloc (.cells ((fs.getD q .zero).cells ++ [noneS, noneS]).toArray 98)) r intK (es ++ [((q : Int), .pointer (some ⟨wi.heap.size, 0, none⟩))])).heap[b]? = wi.heap[b]? := fun b h1 h2 => (putMap_other h2).trans (hA.block b h1)
  refine ⟨pcs_insert hmap _ _ (h.ts.hasnt q hq hno).1, hk, by rw [putMap_size]; simp, ⟨?_, (hk X h.xb.lt (by omega)).trans h.xb, ?_, row_keep h.un fun b _ hb he => hk b (Array.getElem?_eq_some_iff.1 he).1 (by omega), fun b e => ?_⟩⟩
  · exact ⟨h.fr.os, h.fr.tape, h.fr.output, by rw [putMap_size]; simp; omega, fun b h1 h2 h3 => (hk b (by omega) h2).trans (h.fr.block b h1 h2 h3)⟩
  · exact h.ts.insert (Nat.lt_succ_self r) (by omega) (by omega) (by omega) hq hno (putMap_is (by simp; omega)) ((putMap_other (by omega)).trans (Blk.new wi _ _)) hk
  · rw [upd_other _ _ _ (by have := (h.un.own b e).2; omega)]; exact h.tg b e
theorem LI.add {n0 : Nat} {W5 : World} {r X : Nat} {fs : List Fld} {l : List UInt8} {taken : List VW} {has : Nat → Bool} {tag : Nat → Nat} {es : List (Int × Value)} {G : Nat → Nat} {WV VV : Nat → Value} {uv : Value} {us : List (List UInt8)} {wi w' : World} (h : LI n0 W5 r X fs l taken has tag es G WV VV uv us wi) (hz : W5.heap.size = r + 1) (hn0 : n0 ≤ X) (hX : X < r)
    {q : Nat} (hq : q < fs.length) (hyes : has q = true) {x : VW} (hx : x.k = (q : Int)) {wv' vv' : Value} (hp : Pcs n0 (r + 1) (fs.getD q .zero) (G q) wv' vv' ((viewsOf taken (q : Int)).flatMap (pieceW (fs.getD q .zero) l) ++ pieceW (fs.getD q .zero) l x) ((viewsOf taken (q : Int)).flatMap (pieceB (fs.getD q .zero) l) ++ pieceB (fs.getD q .zero) l x) w')
    (hs : PcsStep (G q) (WV q) (VV q) wi wv' vv' w') : ∃ tag' WV' VV', LI n0 W5 r X fs l (taken ++ [x]) has tag' es G WV' VV' uv us w' := by
  obtain ⟨-, e2⟩ := h.ts.hass q hq hyes
  have hsz := h.fr.size
  have hs0 := hs
  obtain ⟨s1, s2, s3, s4, s5, -, -⟩ := hs
  have hk : ∀ b, b < wi.heap.size → tag b ≠ q + 1 → w'.heap[b]? = wi.heap[b]? := fun b hb ht => s5 b hb (by rintro rfl; exact ht e2.tg) (fun e => ht (e2.tw b e)) (fun e => ht (e2.tv b e))
  have hlow : ∀ b, b < r + 1 → w'.heap[b]? = wi.heap[b]? := fun b hb => s5 b (by omega) (by have := e2.pcs.bg; omega) (fun e => by have := (e2.pcs.words.own b e).1; omega) (fun e => by have := (e2.pcs.vals.own b e).1; omega)
  refine ⟨_, _, _, ⟨⟨s1.trans h.fr.os, s2.trans h.fr.tape, s3.trans h.fr.output, Nat.le_trans h.fr.size s4, fun b h1 h2 h3 => (hlow b (by omega)).trans (h.fr.block b h1 h2 h3)⟩, (hlow X (by omega)).trans h.xb, h.ts.add (Nat.lt_succ_self r) (by omega) hq hyes hx hp hs0, ?_, fun b e => ?_⟩⟩
  · have hu := h.un
    refine ⟨hu.1, ?_⟩
    rcases hu.2 with hu2 | ⟨g, cap, cur, hv, hb, hg, hr⟩
    · exact .inl hu2
    · have e : uv.ownBlock = some g := by rw [hv]; rfl
      exact .inr ⟨g, cap, cur, hv, hb, (hk g (h.un.own g e).2 (by have := h.tg g e; omega)).trans hg, hr⟩
  · show (if b < wi.heap.size then tag b else q + 1) = 0
    rw [if_pos (h.un.own b e).2]; exact h.tg b e
theorem many_nil {α : Type} (sub : Int → List UInt8 → List α) (f : Fld) (l : List UInt8) : many (fieldV sub f l []) = 0 := by
  unfold many fieldV counts lastOf
  simp
structure L2 (w8 : World) (X : Nat) (has : Nat → Bool) (G : Nat → Nat) (done : List Int) (wi : World) : Prop where
  os : wi.os = w8.os
  tape : wi.tape = w8.tape
  output : wi.output = w8.output
  size : w8.heap.size ≤ wi.heap.size
  block : ∀ b, b < w8.heap.size → b ≠ X → (∀ p : Nat, (p : Int) ∈ done → has p = true → b ≠ G p) → wi.heap[b]? = w8.heap[b]?
theorem L2.refl (w8 : World) (X : Nat) (has : Nat → Bool) (G : Nat → Nat) : L2 w8 X has G [] w8 := ⟨rfl, rfl, rfl, Nat.le_refl _, fun _ _ _ _ => rfl⟩
theorem L2.more {w8 : World} {X : Nat} {has : Nat → Bool} {G : Nat → Nat} {done : List Int} {wi w' : World} (h : L2 w8 X has G done wi) {q : Nat} (hos : w'.os = wi.os) (ht : w'.tape = wi.tape) (ho : w'.output = wi.output) (hs : wi.heap.size ≤ w'.heap.size)
    (hb : ∀ b, b < w8.heap.size → b ≠ X → (has q = true → b ≠ G q) → w'.heap[b]? = wi.heap[b]?) : L2 w8 X has G (done ++ [(q : Int)]) w' :=
  ⟨hos.trans h.os, ht.trans h.tape, ho.trans h.output, Nat.le_trans h.size hs, fun b h1 h2 h3 => (hb b h1 h2 fun hh => h3 q (by simp) hh).trans (h.block b h1 h2 fun p hp hh => h3 p (by simp [hp]) hh)⟩
theorem info_tval : (Tryz.prog.info? 52).map (fun i => (i.zero, i.size, i.bytes)) = some (some (.agg #[.int .i64 0, .slice none 0 0, .slice none 0 0, .slice none 0 0]), 4, 80) := by kernel_rfl
theorem val_form {d : Nat} {w : World} {v0 v1 v2 v3 : Value} {x : Val (M d)} (h : ValP' d w [v0, v1, v2, v3] x) : ∃ m a1 n1 c1 a2 n2 c2 a3 n3 c3, v0 = .int .i64 m ∧ v1 = .slice a1 n1 c1 ∧ v2 = .slice a2 n2 c2 ∧ v3 = .slice a3 n3 c3 := by
  obtain ⟨m, a1, n1, c1, a2, n2, c2, a3, n3, c3, he⟩ := ValAt.form h
  simp at he
  obtain ⟨e0, e1, e2, e3⟩ := he
  exact ⟨m, a1, n1, c1, a2, n2, c2, a3, n3, c3, e0, e1, e2, e3⟩
theorem val_push {S : Nat → Prop} {d base xn : Nat} {W : World} {xa : Option Addr} {xc : Nat} {vs : List (Val (M d))} {x : Val (M d)} {nv : Int} {a1 a2 a3 : Option Addr} {n1 c1 n2 c2 n3 c3 : Nat} (h : RowsOnS S (ValP' d) 52 4 base W (.slice xa xn xc) vs) (hbs : base ≤ W.heap.size) (hil : vs.length = xn)
    (hP : ∀ w', (∀ b, b < W.heap.size → (Value.slice xa xn xc).ownBlock ≠ some b → S b → w'.heap[b]? = W.heap[b]?) → ValP' d w' [.int .i64 nv, .slice a1 n1 c1, .slice a2 n2 c2, .slice a3 n3 c3] x) (hxn : xn ≤ 1099511627776) :
    ∃ a' c' w5, (Builtin.append_ #[24, 24] 24 #[.slice xa xn xc, .slice (some ⟨W.heap.size, 0, none⟩) 1 1]).run Tryz.prog (W.alloc (.cells #[.int .i64 nv, .slice a1 n1 c1, .slice a2 n2 c2, .slice a3 n3 c3] 52)) = .ok (.slice a' (xn + 1) c') w5 ∧
      RowsOnS S (ValP' d) 52 4 base w5 (.slice a' (xn + 1) c') (vs ++ [x]) ∧ Below base W w5 := by
  obtain ⟨a5, c5, w5, hr5, hO5, hB5, -, -⟩ := h.step (by decide) hbs hil 24 _ 80 Tryz.underlying24 info_tval rfl #[.int .i64 nv, .slice a1 n1 c1, .slice a2 n2 c2, .slice a3 n3 c3] rfl (by intro u hu; simp at hu; rcases hu with rfl | rfl | rfl | rfl <;> rfl) x hP hxn (by decide)
  exact ⟨a5, c5, w5, hr5, hO5, hB5⟩
end Go.Proofs.YtbdeclkccchnoaaGreat
