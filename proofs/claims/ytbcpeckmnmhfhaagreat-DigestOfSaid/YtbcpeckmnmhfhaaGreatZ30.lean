/- tree.of: the pieces of all fields, in a map, while the records are gone through (TSt). No condition. A slice of the call's own whose elements hold wherever the blocks of a set S are as they were (RowsOnS). -/
import Derived.Test.YtbcpeckmnmhfhaaGreatZ04
import Derived.Test.YtbcpeckmnmhfhaaGreatZ20
import Derived.Test.YtbcpeckmnmhfhaaGreatZ29
namespace Go.Proofs.YtbcpeckmnmhfhaaGreat
open Go.RowKit Go.Shelf
def upd {α : Type} (G : Nat → α) (q : Nat) (x : α) : Nat → α := fun i => if i = q then x else G i
theorem upd_same {α : Type} (G : Nat → α) (q : Nat) (x : α) : upd G q x q = x := by unfold upd; rw [if_pos rfl]
theorem upd_other {α : Type} (G : Nat → α) (q : Nat) (x : α) {i : Nat} (h : i ≠ q) : upd G q x i = G i := by unfold upd; rw [if_neg h]
/-- one field's pieces: tag tells whose a block is -/
structure Ent (n0 B : Nat) (f : Fld) (l : List UInt8) (xs : List VW) (tag : Nat → Nat) (q g : Nat) (wv vv : Value) (w : World) : Prop where
  pcs : Pcs n0 B f g wv vv (xs.flatMap (pieceW f l)) (xs.flatMap (pieceB f l)) w
  tg : tag g = q + 1
  tw : ∀ b, wv.ownBlock = some b → tag b = q + 1
  tv : ∀ b, vv.ownBlock = some b → tag b = q + 1
/-- all fields' pieces -/
structure TSt (n0 B r : Nat) (fs : List Fld) (l : List UInt8) (taken : List VW) (has : Nat → Bool) (tag : Nat → Nat) (es : List (Int × Value)) (G : Nat → Nat) (WV VV : Nat → Value) (w : World) : Prop where
  map : MapIs w r intK es
  hasnt : ∀ q : Nat, q < fs.length → has q = false → getOf (q : Int) es = none ∧ viewsOf taken (q : Int) = []
  hass : ∀ q : Nat, q < fs.length → has q = true → getOf (q : Int) es = some (.pointer (some ⟨G q, 0, none⟩)) ∧ Ent n0 B (fs.getD q .zero) l (viewsOf taken (q : Int)) tag q (G q) (WV q) (VV q) w
theorem Ent.keep {n0 B : Nat} {f : Fld} {l : List UInt8} {xs : List VW} {tag tag' : Nat → Nat} {q g : Nat} {wv vv : Value} {w w' : World} (h : Ent n0 B f l xs tag q g wv vv w) (h0 : ∀ b, b < n0 → w'.heap[b]? = w.heap[b]?) (hk : ∀ b, B ≤ b → b < w.heap.size → tag b = q + 1 → w'.heap[b]? = w.heap[b]?)
    (ht : ∀ b, b < w.heap.size → tag' b = tag b) : Ent n0 B f l xs tag' q g wv vv w' := by
  have hg := h.pcs.box.lt
  refine ⟨⟨(hk g h.pcs.bg hg h.tg).trans h.pcs.box, ?_, ?_, h.pcs.wg, h.pcs.vg, h.pcs.wv, h.pcs.bg⟩, (ht g hg).trans h.tg, fun b e => (ht b (h.pcs.words.own b e).2).trans (h.tw b e), fun b e => (ht b (h.pcs.vals.own b e).2).trans (h.tv b e)⟩
  · exact h.pcs.words.keep fun b e => hk b (h.pcs.words.own b e).1 (h.pcs.words.own b e).2 (h.tw b e)
  · exact h.pcs.vals.keep (fun b e => hk b (h.pcs.vals.own b e).1 (h.pcs.vals.own b e).2 (h.tv b e)) h0
theorem viewsOf_snoc (taken : List VW) (x : VW) (q : Int) : viewsOf (taken ++ [x]) q = if x.k = q then viewsOf taken q ++ [x] else viewsOf taken q := by
  unfold viewsOf
  rw [List.filter_append]
  by_cases hq : x.k = q
  · simp [hq]
  · simp [hq]
/-- an unknown record: nothing of the pieces changes -/
theorem TSt.skip {n0 B r : Nat} {fs : List Fld} {l : List UInt8} {taken : List VW} {has : Nat → Bool} {tag tag' : Nat → Nat} {es : List (Int × Value)} {G : Nat → Nat} {WV VV : Nat → Value} {w w' : World} (h : TSt n0 B r fs l taken has tag es G WV VV w)
    (h0 : ∀ b, b < n0 → w'.heap[b]? = w.heap[b]?) (hr : w'.heap[r]? = w.heap[r]?) (hk : ∀ b, B ≤ b → b < w.heap.size → tag b ≠ 0 → w'.heap[b]? = w.heap[b]?) (ht : ∀ b, b < w.heap.size → tag' b = tag b) {x : VW} (hx : x.k < 0) :
    TSt n0 B r fs l (taken ++ [x]) has tag' es G WV VV w' := by
  have hv : ∀ q : Nat, viewsOf (taken ++ [x]) (q : Int) = viewsOf taken (q : Int) := fun q => by rw [viewsOf_snoc, if_neg (by omega)]
  refine ⟨hr.trans h.map, fun q hq hf => ?_, fun q hq hf => ?_⟩
  · rw [hv]; exact h.hasnt q hq hf
  · rw [hv]
    obtain ⟨g1, g2⟩ := h.hass q hq hf
    exact ⟨g1, g2.keep h0 (fun b h1 h2 h3 => hk b h1 h2 (by omega)) ht⟩
/-- the same pieces in a later world -/
theorem TSt.later {n0 B r : Nat} {fs : List Fld} {l : List UInt8} {taken : List VW} {has : Nat → Bool} {tag : Nat → Nat} {es : List (Int × Value)} {G : Nat → Nat} {WV VV : Nat → Value} {w w' : World} (h : TSt n0 B r fs l taken has tag es G WV VV w)
    (h0 : ∀ b, b < n0 → w'.heap[b]? = w.heap[b]?) (hr : w'.heap[r]? = w.heap[r]?) (hk : ∀ b, B ≤ b → b < w.heap.size → tag b ≠ 0 → w'.heap[b]? = w.heap[b]?) : TSt n0 B r fs l taken has tag es G WV VV w' :=
  ⟨hr.trans h.map, h.hasnt, fun q hq hf => ⟨(h.hass q hq hf).1, (h.hass q hq hf).2.keep h0 (fun b h1 h2 h3 => hk b h1 h2 (by omega)) fun _ _ => rfl⟩⟩
theorem getOf_app {K : Type} [DecidableEq K] (k : K) (k' : K) (v : Value) : ∀ (es : List (K × Value)), getOf k (es ++ [(k', v)]) = match getOf k es with | some u => some u | none => if k = k' then some v else none
  | [] => by simp [getOf]
  | (k2, v2) :: r => by
    simp only [List.cons_append, getOf]
    by_cases e : k = k2
    · rw [if_pos e, if_pos e]
    · rw [if_neg e, if_neg e]; exact getOf_app k k' v r
/-- a field's first record: a new box, a new entry -/
theorem TSt.insert {n0 B r : Nat} {fs : List Fld} {l : List UInt8} {taken : List VW} {has : Nat → Bool} {tag : Nat → Nat} {es : List (Int × Value)} {G : Nat → Nat} {WV VV : Nat → Value} {w w' : World} (h : TSt n0 B r fs l taken has tag es G WV VV w) (hrB : r < B) (hB : B ≤ w.heap.size) (_hn0 : n0 ≤ B) (hr0 : n0 ≤ r)
    {q : Nat} (hq : q < fs.length) (hno : has q = false) (hm : MapIs w' r intK (es ++ [((q : Int), .pointer (some ⟨w.heap.size, 0, none⟩))])) (hb : Blk w' w.heap.size ((fs.getD q .zero).cells ++ [noneS, noneS]) 136) (hk : ∀ b, b < w.heap.size → b ≠ r → w'.heap[b]? = w.heap[b]?) :
    TSt n0 B r fs l taken (upd has q true) (upd tag w.heap.size (q + 1)) (es ++ [((q : Int), .pointer (some ⟨w.heap.size, 0, none⟩))]) (upd G q w.heap.size) (upd WV q noneS) (upd VV q noneS) w' := by
  obtain ⟨g1, g2⟩ := h.hasnt q hq hno
  refine ⟨hm, fun p hp hf => ?_, fun p hp hf => ?_⟩
  · have hne : p ≠ q := by rintro rfl; rw [upd_same] at hf; cases hf
    rw [upd_other _ _ _ hne] at hf
    obtain ⟨e1, e2⟩ := h.hasnt p hp hf
    refine ⟨?_, e2⟩
    rw [getOf_app, e1]
    simp only
    rw [if_neg (by omega)]
  · by_cases hpq : p = q
    · subst hpq
      rw [upd_same, upd_same, upd_same, getOf_app, g1, g2]
      refine ⟨by simp, ⟨⟨hb, World.ownsRow_nil _ _ _ _, PcsOwn.nil _ _ _, by simp [Value.ownBlock], by simp [Value.ownBlock], by simp [Value.ownBlock], hB⟩, upd_same _ _ _, by simp [Value.ownBlock], by simp [Value.ownBlock]⟩⟩
    · rw [upd_other _ _ _ hpq] at hf
      obtain ⟨e1, e2⟩ := h.hass p hp hf
      rw [upd_other _ _ _ hpq, upd_other _ _ _ hpq, upd_other _ _ _ hpq, getOf_app, e1]
      refine ⟨rfl, e2.keep (fun b hb => hk b (by omega) (by omega)) (fun b h1 h2 _ => hk b h2 (by omega)) fun b hb => upd_other _ _ _ (by omega)⟩
/-- a record of a field whose pieces are there -/
theorem TSt.add {n0 B r : Nat} {fs : List Fld} {l : List UInt8} {taken : List VW} {has : Nat → Bool} {tag : Nat → Nat} {es : List (Int × Value)} {G : Nat → Nat} {WV VV : Nat → Value} {w w' : World} (h : TSt n0 B r fs l taken has tag es G WV VV w) (hrB : r < B) (hn0 : n0 ≤ B)
    {q : Nat} (hq : q < fs.length) (hyes : has q = true) {x : VW} (hx : x.k = (q : Int)) {wv' vv' : Value} (hp : Pcs n0 B (fs.getD q .zero) (G q) wv' vv' ((viewsOf taken (q : Int)).flatMap (pieceW (fs.getD q .zero) l) ++ pieceW (fs.getD q .zero) l x) ((viewsOf taken (q : Int)).flatMap (pieceB (fs.getD q .zero) l) ++ pieceB (fs.getD q .zero) l x) w')
    (hs : PcsStep (G q) (WV q) (VV q) w wv' vv' w') : TSt n0 B r fs l (taken ++ [x]) has (fun b => if b < w.heap.size then tag b else q + 1) es G (upd WV q wv') (upd VV q vv') w' := by
  obtain ⟨e1, e2⟩ := h.hass q hq hyes
  obtain ⟨-, -, -, s4, s5, s6, s7⟩ := hs
  have hB : B ≤ w.heap.size := by have := e2.pcs.box.lt; have := e2.pcs.bg; omega
  have hsame : ∀ b, b < w.heap.size → tag b ≠ q + 1 → w'.heap[b]? = w.heap[b]? := fun b hb ht => s5 b hb (by rintro rfl; exact ht e2.tg) (fun e => ht (e2.tw b e)) (fun e => ht (e2.tv b e))
  have hlow : ∀ b, b < B → w'.heap[b]? = w.heap[b]? := fun b hb => s5 b (by omega) (by have := e2.pcs.bg; omega) (fun e => by have := (e2.pcs.words.own b e).1; omega) (fun e => by have := (e2.pcs.vals.own b e).1; omega)
  refine ⟨(hlow r hrB).trans h.map, fun p hp' hf => ?_, fun p hp' hf => ?_⟩
  · obtain ⟨g1, g2⟩ := h.hasnt p hp' hf
    have hne : p ≠ q := by rintro rfl; rw [hyes] at hf; cases hf
    refine ⟨g1, ?_⟩
    rw [viewsOf_snoc, if_neg (by rw [hx]; omega)]; exact g2
  · by_cases hpq : p = q
    · subst hpq
      rw [upd_same, upd_same, viewsOf_snoc, if_pos hx]
      refine ⟨e1, ⟨by rw [List.flatMap_append, List.flatMap_append]; simpa using hp, ?_, fun b e => ?_, fun b e => ?_⟩⟩
      · rw [if_pos e2.pcs.box.lt]; exact e2.tg
      · rcases s6 with e' | ⟨b', e', hb'⟩
        · rw [e'] at e
          rw [if_pos (e2.pcs.words.own b e).2]; exact e2.tw b e
        · rw [e'] at e; injection e with e
          rw [if_neg (by omega)]
      · rcases s7 with e' | ⟨b', e', hb'⟩
        · rw [e'] at e
          rw [if_pos (e2.pcs.vals.own b e).2]; exact e2.tv b e
        · rw [e'] at e; injection e with e
          rw [if_neg (by omega)]
    · obtain ⟨g1, g2⟩ := h.hass p hp' hf
      rw [upd_other _ _ _ hpq, upd_other _ _ _ hpq, viewsOf_snoc, if_neg (by rw [hx]; omega)]
      exact ⟨g1, g2.keep (fun b hb => hlow b (by omega)) (fun b h1 h2 h3 => hsame b h2 (by omega)) fun b hb => if_pos hb⟩
theorem TSt.start {n0 B r : Nat} {fs : List Fld} {l : List UInt8} {w : World} (hm : MapIs w r intK []) : TSt n0 B r fs l [] (fun _ => false) (fun _ => 0) [] (fun _ => 0) (fun _ => noneS) (fun _ => noneS) w :=
  ⟨hm, fun q _ _ => ⟨rfl, rfl⟩, fun q _ h => by cases h⟩
end Go.Proofs.YtbcpeckmnmhfhaaGreat
namespace Go.Proofs.YtbcpeckmnmhfhaaGreat
open Go.RowKit
def RowsOnS {α : Type} (S : Nat → Prop) (P : World → List Value → α → Prop) (T : TypeId) (k base : Nat) (w : World) (v : Value) (l : List α) : Prop :=
  ∃ rows : List (List Value), rows.length = l.length ∧ (∀ r ∈ rows, r.length = k) ∧ w.ownsRow base T k v l.length rows.flatten ∧
    ∀ w', (∀ b, b < w.heap.size → v.ownBlock ≠ some b → S b → w'.heap[b]? = w.heap[b]?) → ∀ (i : Nat) (r : List Value) (x : α), rows[i]? = some r → l[i]? = some x → P w' r x
theorem RowsOnS.nil {α : Type} (S : Nat → Prop) (P : World → List Value → α → Prop) (T : TypeId) (k base : Nat) (w : World) : RowsOnS S P T k base w (.slice none 0 0) [] :=
  ⟨[], rfl, by simp, World.ownsRow_nil _ _ _ _, fun _ _ i r x h => by simp at h⟩
theorem RowsOnS.form {α : Type} {S : Nat → Prop} {P : World → List Value → α → Prop} {T : TypeId} {k base : Nat} {w : World} {v : Value} {l : List α} (h : RowsOnS S P T k base w v l) : ∃ a c, v = .slice a l.length c := by
  obtain ⟨rows, -, -, h3, -⟩ := h
  rcases h3.2 with ⟨rfl, h0⟩ | ⟨g, cap, cur, rfl, _⟩
  · exact ⟨none, 0, by rw [h0]⟩
  · exact ⟨_, _, rfl⟩
theorem RowsOnS.own {α : Type} {S : Nat → Prop} {P : World → List Value → α → Prop} {T : TypeId} {k base : Nat} {w : World} {v : Value} {l : List α} (h : RowsOnS S P T k base w v l) (b : Nat) (e : v.ownBlock = some b) : base ≤ b ∧ b < w.heap.size := by
  obtain ⟨rows, -, -, h3, -⟩ := h
  exact World.ownsRow.lt h3 b e
theorem owned_keep {w w' : World} {base size n : Nat} {e : TypeId} {v : Value} {xs : List Value} (h : w.ownsRow base e size v n xs) (hk : ∀ b, v.ownBlock = some b → w'.heap[b]? = w.heap[b]?) : w'.ownsRow base e size v n xs := by
  refine ⟨h.1, ?_⟩
  rcases h.2 with h | ⟨g, cap, cur, hv, hb, hg, hr⟩
  · exact .inl h
  · exact .inr ⟨g, cap, cur, hv, hb, (hk g (by rw [hv]; rfl)).trans hg, hr⟩
theorem RowsOnS.later {α : Type} {S : Nat → Prop} {P : World → List Value → α → Prop} {T : TypeId} {k base : Nat} {w w2 : World} {v : Value} {l : List α} (h : RowsOnS S P T k base w v l)
    (hw : ∀ b, b < w.heap.size → (S b ∨ v.ownBlock = some b) → w2.heap[b]? = w.heap[b]?) (hs : w.heap.size ≤ w2.heap.size) : RowsOnS S P T k base w2 v l := by
  have h0 := h
  obtain ⟨rows, h1, h2, h3, h4⟩ := h
  exact ⟨rows, h1, h2, owned_keep h3 fun b e => hw b (h0.own b e).2 (.inr e), fun w' hw' => h4 w' fun b hlt hne hc => (hw' b (by omega) hne hc).trans (hw b hlt (.inl hc))⟩
theorem RowsOnS.at {α : Type} {S : Nat → Prop} {P : World → List Value → α → Prop} {T : TypeId} {k base : Nat} {w : World} {v : Value} {l : List α} (h : RowsOnS S P T k base w v l) (hl : l.length ≤ 140737488355328) {w' : World}
    (hw : ∀ b, b < w.heap.size → (S b ∨ v.ownBlock = some b) → w'.heap[b]? = w.heap[b]?) : RowsAt P k w' v l := by
  have h0 := h
  obtain ⟨rows, h1, h2, h3, h4⟩ := h
  exact ⟨rows, h1, h2, row_seg (owned_keep h3 fun b e => hw b (h0.own b e).2 (.inr e)) hl, fun i r x hr hx => h4 w' (fun b hlt _ hc => hw b hlt (.inl hc)) i r x hr hx⟩
theorem RowsOnS.append {α : Type} {P : World → List Value → α → Prop} {T : TypeId} {k base : Nat} {S : Nat → Prop} {w : World} {v : Value} {l : List α} (h : RowsOnS S P T k base w v l) (hk : 0 < k)
    {G : Program} (t : TypeId) (z : Value) (bytes : Nat) (ht : G.underlying t = some (.slice T)) (hinfo : (G.info? T).map (fun i => (i.zero, i.size, i.bytes)) = some (some z, k, bytes)) (hzs : z.cells.size = k)
    (cells : Array Value) (hr : cells.size = k) (h1 : ∀ u ∈ cells.toList, u.oneCell' = true) (x : α)
    (hP : ∀ w', (∀ b, b < w.heap.size → v.ownBlock ≠ some b → S b → w'.heap[b]? = w.heap[b]?) → P w' cells.toList x) (hlen : l.length ≤ 1099511627776) (hby : bytes ≤ 120) (hbase : base ≤ w.heap.size) :
    ∃ v' w', (Builtin.append_ #[t, t] t #[v, .slice (some ⟨w.heap.size, 0, none⟩) 1 1]).run G (w.alloc (.cells cells T)) = .ok v' w' ∧ RowsOnS S P T k base w' v' (l ++ [x]) ∧
      (w.alloc (.cells cells T)).grownBy w' v.ownBlock ∧ (v'.ownBlock = v.ownBlock ∨ v'.ownBlock = some (w.alloc (.cells cells T)).heap.size) := by
  obtain ⟨rows, g1, g2, g3, g4⟩ := h
  have hseg : Seg (w.alloc (.cells cells T)) (.slice (some ⟨w.heap.size, 0, none⟩) 1 1) k 1 cells.toList := by
    refine ⟨by simp [hr], by omega, some ⟨w.heap.size, 0, none⟩, 1, rfl, Nat.le_refl _, by omega, by simp, fun j u hu => ⟨_, _, rfl, ?_⟩⟩
    rw [Nat.zero_add, cell_of_row _ _ _ cells T (0, 0) (heap_alloc_new w _)]
    simpa using hu
  have hb1 : (l.length + 1) * bytes ≤ 140737488355328 := Nat.le_trans (Nat.mul_le_mul_left _ hby) (by omega)
  obtain ⟨v', w', hrun, hO, hg, hat⟩ := seg_append (P := G) (w.alloc (.cells cells T)) base t t T z k bytes ht hinfo hzs hk v _ l.length 1 rows.flatten cells.toList
    (World.ownsRow.alloc g3 _) hseg h1 (by omega) hb1 (by simp; omega)
  refine ⟨v', w', hrun, ⟨rows ++ [cells.toList], by simp [g1], ?_, by simpa using hO, ?_⟩, hg, hat⟩
  · intro r hr'
    rcases List.mem_append.1 hr' with h | h
    · exact g2 r h
    · simp at h; subst h; simpa using hr
  · intro w2 hw2
    have hsz : w.heap.size + 1 ≤ w'.heap.size := by have := hg.size; simpa using this
    have hold : ∀ b, b < w.heap.size → v.ownBlock ≠ some b → S b → w2.heap[b]? = w.heap[b]? := by
      intro b hlt hne hc
      have hne' : v'.ownBlock ≠ some b := by
        rcases hat with e | e
        · rw [e]; exact hne
        · rw [e]; intro e2; simp at e2; omega
      exact ((hw2 b (by omega) hne' hc).trans (hg.block b (by simp; omega) (fun e => hne e.symm))).trans (Below.heap_alloc w _ b hlt)
    intro i r y hri hyi
    by_cases hil : i < l.length
    · rw [List.getElem?_append_left (by omega)] at hri
      rw [List.getElem?_append_left hil] at hyi
      exact g4 w2 hold i r y hri hyi
    · have hi : i = l.length := by
        have := (List.getElem?_eq_some_iff.1 hyi).1
        simp at this; omega
      subst hi
      rw [← g1, List.getElem?_concat_length] at hri
      rw [List.getElem?_concat_length] at hyi
      cases hri
      cases hyi
      exact hP w2 hold
theorem RowsOnS.step {α : Type} {P : World → List Value → α → Prop} {T : TypeId} {k base i : Nat} {S : Nat → Prop} {wr : World} {oa : Option Addr} {oc : Nat} {l : List α} (h : RowsOnS S P T k base wr (.slice oa i oc) l) (hk : 0 < k) (hbs : base ≤ wr.heap.size) (hil : l.length = i)
    {G : Program} (t : TypeId) (z : Value) (bytes : Nat) (ht : G.underlying t = some (.slice T)) (hinfo : (G.info? T).map (fun i => (i.zero, i.size, i.bytes)) = some (some z, k, bytes)) (hzs : z.cells.size = k)
    (cells : Array Value) (hr : cells.size = k) (h1 : ∀ u ∈ cells.toList, u.oneCell' = true) (x : α)
    (hP : ∀ w', (∀ b, b < wr.heap.size → (Value.slice oa i oc).ownBlock ≠ some b → S b → w'.heap[b]? = wr.heap[b]?) → P w' cells.toList x) (hlen : i ≤ 1099511627776) (hby : bytes ≤ 120) :
    ∃ a' c' w5, (Builtin.append_ #[t, t] t #[.slice oa i oc, .slice (some ⟨wr.heap.size, 0, none⟩) 1 1]).run G (wr.alloc (.cells cells T)) = .ok (.slice a' (i + 1) c') w5 ∧ RowsOnS S P T k base w5 (.slice a' (i + 1) c') (l ++ [x]) ∧
      Below base wr w5 ∧ (wr.alloc (.cells cells T)).grownBy w5 (Value.slice oa i oc).ownBlock ∧ ((Value.slice a' (i + 1) c').ownBlock = (Value.slice oa i oc).ownBlock ∨ (Value.slice a' (i + 1) c').ownBlock = some (wr.alloc (.cells cells T)).heap.size) := by
  have hB1 : Below base wr (wr.alloc (.cells cells T)) := (Below.refl _ _).alloc hbs _
  obtain ⟨v', w', hrun, hO, hg, hat⟩ := h.append hk t z bytes ht hinfo hzs cells hr h1 x hP (by omega) hby (by omega)
  obtain ⟨a', c', rfl⟩ := hO.form
  rw [List.length_append, List.length_singleton, hil] at *
  exact ⟨a', c', w', hrun, hO, hB1.grown hg (by have := hB1.size; omega) fun q e => (h.own q e).1, hg, hat⟩
end Go.Proofs.YtbcpeckmnmhfhaaGreat
