/- A slice of the call's own whose elements are several cells each, built by appending one element after the other. mask.Of: the mask of ways (mOf). At most 2^40 ways, each of at most 2^44 numbers. Mask.Whole, Mask.right, Mask.Under, darningref13.Under; slices.EqualFunc of ways. At most 2^40 ways, each of at most 2^44 numbers. slices.Grow of nil, slices.Concat of two lists of ways; mask.Union. At most 2^40 ways. -/
import Derived.Test.YtpjikakbdahmfaaDoorZ05
import Derived.Test.YtpjikakbdahmfaaDoorZ06
import Derived.Test.YtpjikakbdahmfaaDoorZ07
import Derived.Deep.RegionHeld3
import Derived.Lib.AppendZerosOnto
namespace Go.Proofs.YtpjikakbdahmfaaDoor
open Go.RowKit

/-- P holds in each world that agrees with w on the blocks below n0 and on those from base on. -/
def Apart (n0 base : Nat) (w : World) (P : World → Prop) : Prop := ∀ w', (∀ b, b < w.heap.size → (b < n0 ∨ base ≤ b) → w'.heap[b]? = w.heap[b]?) → P w'
theorem Apart.here {n0 base : Nat} {w : World} {P : World → Prop} (h : Apart n0 base w P) : P w := h w fun _ _ _ => rfl
theorem Apart.later {n0 base : Nat} {w w2 : World} {P : World → Prop} (h : Apart n0 base w P) (hb : Below w.heap.size w w2) : Apart n0 base w2 P := fun w' hw' => h w' fun b hlt hc => (hw' b (Nat.lt_of_lt_of_le hlt hb.size) hc).trans (hb.block b hlt)
theorem Apart.mono {n0 base base' : Nat} {w : World} {P : World → Prop} (h : Apart n0 base w P) (hb : base' ≤ base) : Apart n0 base' w P := fun w' hw' => h w' fun b hlt hc => hw' b hlt (hc.imp id fun h => Nat.le_trans hb h)

def RowsOwn {α : Type} (P : World → List Value → α → Prop) (T : TypeId) (k n0 base : Nat) (w : World) (v : Value) (l : List α) : Prop :=
  ∃ rows : List (List Value), rows.length = l.length ∧ (∀ r ∈ rows, r.length = k) ∧ w.ownsRow base T k v l.length rows.flatten ∧
    ∀ w', (∀ b, b < w.heap.size → v.ownBlock ≠ some b → (b < n0 ∨ base ≤ b) → w'.heap[b]? = w.heap[b]?) → ∀ (i : Nat) (r : List Value) (x : α), rows[i]? = some r → l[i]? = some x → P w' r x

theorem RowsOwn.nil {α : Type} (P : World → List Value → α → Prop) (T : TypeId) (k n0 base : Nat) (w : World) : RowsOwn P T k n0 base w (.slice none 0 0) [] :=
  ⟨[], rfl, by simp, World.ownsRow_nil _ _ _ _, fun _ _ i r x h => by simp at h⟩
theorem RowsOwn.later {α : Type} {P : World → List Value → α → Prop} {T : TypeId} {k n0 base : Nat} {w w2 : World} {v : Value} {l : List α} (h : RowsOwn P T k n0 base w v l)
    (hw : ∀ b, b < w.heap.size → (b < n0 ∨ base ≤ b) → w2.heap[b]? = w.heap[b]?) (hs : w.heap.size ≤ w2.heap.size) : RowsOwn P T k n0 base w2 v l := by
  obtain ⟨rows, h1, h2, h3, h4⟩ := h
  refine ⟨rows, h1, h2, row_keep h3 fun b cur hb he => hw b (Array.getElem?_eq_some_iff.1 he).1 (.inr hb), fun w' hw' => h4 w' fun b hlt hne hc => (hw' b (by omega) hne hc).trans (hw b hlt hc)⟩
theorem RowsOwn.below {α : Type} {P : World → List Value → α → Prop} {T : TypeId} {k n0 base : Nat} {w w2 : World} {v : Value} {l : List α} (h : RowsOwn P T k n0 base w v l) (hb : Below w.heap.size w w2) : RowsOwn P T k n0 base w2 v l :=
  h.later (fun b hlt _ => hb.block b hlt) hb.size
theorem RowsOwn.form {α : Type} {P : World → List Value → α → Prop} {T : TypeId} {k n0 base : Nat} {w : World} {v : Value} {l : List α} (h : RowsOwn P T k n0 base w v l) : ∃ a c, v = .slice a l.length c := by
  obtain ⟨rows, -, -, h3, -⟩ := h
  rcases h3.2 with ⟨rfl, h0⟩ | ⟨g, cap, cur, rfl, _⟩
  · exact ⟨none, 0, by rw [h0]⟩
  · exact ⟨_, _, rfl⟩
theorem RowsOwn.at {α : Type} {P : World → List Value → α → Prop} {T : TypeId} {k n0 base : Nat} {w : World} {v : Value} {l : List α} (h : RowsOwn P T k n0 base w v l) (hl : l.length ≤ 140737488355328) {w' : World}
    (hw : ∀ b, b < w.heap.size → (b < n0 ∨ base ≤ b) → w'.heap[b]? = w.heap[b]?) : RowsAt P k w' v l := by
  obtain ⟨rows, h1, h2, h3, h4⟩ := h
  exact ⟨rows, h1, h2, row_seg (row_keep h3 fun b cur hb he => hw b (Array.getElem?_eq_some_iff.1 he).1 (.inr hb)) hl, fun i r x hr hx => h4 w' (fun b hlt _ hc => hw b hlt hc) i r x hr hx⟩

/-- one element more, laid in a block of its own (at w.heap.size) -/
theorem RowsOwn.append' {α : Type} {P : World → List Value → α → Prop} {T : TypeId} {k n0 base : Nat} {w : World} {v : Value} {l : List α} (h : RowsOwn P T k n0 base w v l) (hk : 0 < k)
    {G : Program} (t : TypeId) (z : Value) (bytes : Nat) (ht : G.underlying t = some (.slice T)) (hinfo : (G.info? T).map (fun i => (i.zero, i.size, i.bytes)) = some (some z, k, bytes)) (hzs : z.cells.size = k)
    (cells : Array Value) (hr : cells.size = k) (h1 : ∀ u ∈ cells.toList, u.oneCell' = true) (x : α)
    (hP : ∀ w', (∀ b, b < w.heap.size → v.ownBlock ≠ some b → (b < n0 ∨ base ≤ b) → w'.heap[b]? = w.heap[b]?) → P w' cells.toList x) (hlen : l.length ≤ 1099511627776) (hby : bytes ≤ 120) (hbase : base ≤ w.heap.size) :
    ∃ v' w', (Builtin.append_ #[t, t] t #[v, .slice (some ⟨w.heap.size, 0, none⟩) 1 1]).run G (w.alloc (.cells cells T)) = .ok v' w' ∧ RowsOwn P T k n0 base w' v' (l ++ [x]) ∧
      (w.alloc (.cells cells T)).grownBy w' v.ownBlock ∧ (v'.ownBlock = v.ownBlock ∨ v'.ownBlock = some (w.alloc (.cells cells T)).heap.size) := by
  obtain ⟨rows, g1, g2, g3, g4⟩ := h
  have hseg : Seg (w.alloc (.cells cells T)) (.slice (some ⟨w.heap.size, 0, none⟩) 1 1) k 1 cells.toList := by
    refine ⟨by simp [hr], by omega, some ⟨w.heap.size, 0, none⟩, 1, rfl, Nat.le_refl _, by omega, by simp, fun j u hu => ⟨_, _, rfl, ?_⟩⟩
    rw [Nat.zero_add, cell_of_row _ _ _ cells T (0, 0) (heap_alloc_new w _)]
    simpa using hu
  have hb1 : (l.length + 1) * bytes ≤ 140737488355328 := Nat.le_trans (Nat.mul_le_mul_left _ hby) (by omega)
  obtain ⟨v', w', hrun, hO, hg, hat⟩ := seg_append (P := G) (w.alloc (.cells cells T)) base t t T z k bytes ht hinfo hzs hk v _ l.length 1 rows.flatten cells.toList
    (World.ownsRow.alloc g3 _) hseg h1 (by omega) hb1 (by simp; omega)
  refine ⟨v', w', hrun, ⟨rows ++ [cells.toList], by simp [g1], ?_, by simpa using hO, ?_⟩, hg, hat⟩
  · intro r hr'
    rcases List.mem_append.1 hr' with h | h
    · exact g2 r h
    · simp at h; subst h; simpa using hr
  · intro w2 hw2
    have hsz : w.heap.size + 1 ≤ w'.heap.size := by have := hg.size; simpa using this
    have hold : ∀ b, b < w.heap.size → v.ownBlock ≠ some b → (b < n0 ∨ base ≤ b) → w2.heap[b]? = w.heap[b]? := by
      intro b hlt hne hc
      have hne' : v'.ownBlock ≠ some b := by
        rcases hat with e | e
        · rw [e]; exact hne
        · rw [e]; intro e2; simp at e2; omega
      exact ((hw2 b (by omega) hne' hc).trans (hg.block b (by simp; omega) (fun e => hne e.symm))).trans (Below.heap_alloc w _ b hlt)
    intro i r y hri hyi
    by_cases hil : i < l.length
    · rw [List.getElem?_append_left (by omega)] at hri
      rw [List.getElem?_append_left hil] at hyi
      exact g4 w2 hold i r y hri hyi
    · have hi : i = l.length := by
        have := (List.getElem?_eq_some_iff.1 hyi).1
        simp at this; omega
      subst hi
      rw [← g1, List.getElem?_concat_length] at hri
      rw [List.getElem?_concat_length] at hyi
      cases hri
      cases hyi
      exact hP w2 hold

/-- .. whose parts lie apart from the list -/
theorem RowsOwn.append {α : Type} {P : World → List Value → α → Prop} {T : TypeId} {k n0 base : Nat} {w : World} {v : Value} {l : List α} (h : RowsOwn P T k n0 base w v l) (hk : 0 < k) (hn0 : n0 ≤ base)
    {G : Program} (t : TypeId) (z : Value) (bytes : Nat) (ht : G.underlying t = some (.slice T)) (hinfo : (G.info? T).map (fun i => (i.zero, i.size, i.bytes)) = some (some z, k, bytes)) (hzs : z.cells.size = k)
    (cells : Array Value) (hr : cells.size = k) (h1 : ∀ u ∈ cells.toList, u.oneCell' = true) (x : α) (nb : Nat) (hnb : ∀ b, v.ownBlock = some b → b < nb) (hbn : base ≤ nb)
    (hP : Apart n0 nb w fun w' => P w' cells.toList x) (hlen : l.length ≤ 1099511627776) (hby : bytes ≤ 120) (hbase : base ≤ w.heap.size) :
    ∃ v' w', (Builtin.append_ #[t, t] t #[v, .slice (some ⟨w.heap.size, 0, none⟩) 1 1]).run G (w.alloc (.cells cells T)) = .ok v' w' ∧ RowsOwn P T k n0 base w' v' (l ++ [x]) ∧
      (w.alloc (.cells cells T)).grownBy w' v.ownBlock ∧ (v'.ownBlock = v.ownBlock ∨ v'.ownBlock = some (w.alloc (.cells cells T)).heap.size) := by
  have g3 := h
  obtain ⟨rows, -, -, g3, -⟩ := g3
  refine h.append' hk t z bytes ht hinfo hzs cells hr h1 x (fun w2 hold => hP w2 fun b hlt hc => hold b hlt ?_ (hc.imp id fun h => Nat.le_trans hbn h)) hlen hby hbase
  intro e
  have := hnb b e
  rcases hc with hc | hc
  · have hb2 : base ≤ b := by
      rcases g3.2 with ⟨rfl, _⟩ | ⟨g, cap, cur, rfl, hb, _⟩
      · simp [Value.ownBlock] at e
      · simp [Value.ownBlock] at e; omega
    omega
  · omega

theorem RowsOwn.own {α : Type} {P : World → List Value → α → Prop} {T : TypeId} {k n0 base : Nat} {w : World} {v : Value} {l : List α} (h : RowsOwn P T k n0 base w v l) (b : Nat) (e : v.ownBlock = some b) : base ≤ b ∧ b < w.heap.size := by
  obtain ⟨rows, -, -, h3, -⟩ := h
  rcases h3.2 with ⟨rfl, h0⟩ | ⟨g, cap, cur, rfl, hb, hg, _⟩
  · simp [Value.ownBlock] at e
  · simp [Value.ownBlock] at e
    subst e
    exact ⟨hb, (Array.getElem?_eq_some_iff.1 hg).1⟩

/-- a call that lays a new element, the element's block, the append -/
theorem RowsOwn.step {α : Type} {P : World → List Value → α → Prop} {T : TypeId} {k n0 base i : Nat} {wr w1 : World} {oa : Option Addr} {oc : Nat} {l : List α} (h : RowsOwn P T k n0 base wr (.slice oa i oc) l) (hb : Below wr.heap.size wr w1) (hk : 0 < k) (hn0 : n0 ≤ base) (hbs : base ≤ wr.heap.size) (hil : l.length = i)
    {G : Program} (t : TypeId) (z : Value) (bytes : Nat) (ht : G.underlying t = some (.slice T)) (hinfo : (G.info? T).map (fun i => (i.zero, i.size, i.bytes)) = some (some z, k, bytes)) (hzs : z.cells.size = k)
    (cells : Array Value) (hr : cells.size = k) (h1 : ∀ u ∈ cells.toList, u.oneCell' = true) (x : α) (hP : Apart n0 wr.heap.size w1 fun w' => P w' cells.toList x) (hlen : i ≤ 1099511627776) (hby : bytes ≤ 120) :
    ∃ a' c' w5, (Builtin.append_ #[t, t] t #[.slice oa i oc, .slice (some ⟨w1.heap.size, 0, none⟩) 1 1]).run G (w1.alloc (.cells cells T)) = .ok (.slice a' (i + 1) c') w5 ∧ RowsOwn P T k n0 base w5 (.slice a' (i + 1) c') (l ++ [x]) ∧
      Below base wr (w1.alloc (.cells cells T)) ∧ Below base wr w5 := by
  have hs := hb.size
  have hB1 : Below base wr (w1.alloc (.cells cells T)) := (hb.mono hbs).alloc (by omega) _
  obtain ⟨v', w', hrun, hO, hg, -⟩ := (h.below hb).append hk hn0 t z bytes ht hinfo hzs cells hr h1 x wr.heap.size (fun b e => (h.own b e).2) hbs hP (by omega) hby (by omega)
  obtain ⟨a', c', rfl⟩ := hO.form
  rw [List.length_append, List.length_singleton, hil] at *
  exact ⟨a', c', w', hrun, hO, hB1, hB1.grown hg (by have := hB1.size; omega) fun q e => (h.own q e).1⟩

/-- the element's block, the append; its parts lie elsewhere than the list -/
theorem RowsOwn.step' {α : Type} {P : World → List Value → α → Prop} {T : TypeId} {k n0 base i : Nat} {wr : World} {oa : Option Addr} {oc : Nat} {l : List α} (h : RowsOwn P T k n0 base wr (.slice oa i oc) l) (hk : 0 < k) (hbs : base ≤ wr.heap.size) (hil : l.length = i)
    {G : Program} (t : TypeId) (z : Value) (bytes : Nat) (ht : G.underlying t = some (.slice T)) (hinfo : (G.info? T).map (fun i => (i.zero, i.size, i.bytes)) = some (some z, k, bytes)) (hzs : z.cells.size = k)
    (cells : Array Value) (hr : cells.size = k) (h1 : ∀ u ∈ cells.toList, u.oneCell' = true) (x : α)
    (hP : ∀ w', (∀ b, b < wr.heap.size → (Value.slice oa i oc).ownBlock ≠ some b → (b < n0 ∨ base ≤ b) → w'.heap[b]? = wr.heap[b]?) → P w' cells.toList x) (hlen : i ≤ 1099511627776) (hby : bytes ≤ 120) :
    ∃ a' c' w5, (Builtin.append_ #[t, t] t #[.slice oa i oc, .slice (some ⟨wr.heap.size, 0, none⟩) 1 1]).run G (wr.alloc (.cells cells T)) = .ok (.slice a' (i + 1) c') w5 ∧ RowsOwn P T k n0 base w5 (.slice a' (i + 1) c') (l ++ [x]) ∧
      Below base wr w5 ∧ (wr.alloc (.cells cells T)).grownBy w5 (Value.slice oa i oc).ownBlock ∧ ((Value.slice a' (i + 1) c').ownBlock = (Value.slice oa i oc).ownBlock ∨ (Value.slice a' (i + 1) c').ownBlock = some (wr.alloc (.cells cells T)).heap.size) := by
  have hB1 : Below base wr (wr.alloc (.cells cells T)) := (Below.refl _ _).alloc hbs _
  obtain ⟨v', w', hrun, hO, hg, hat⟩ := h.append' hk t z bytes ht hinfo hzs cells hr h1 x hP (by omega) hby (by omega)
  obtain ⟨a', c', rfl⟩ := hO.form
  rw [List.length_append, List.length_singleton, hil] at *
  exact ⟨a', c', w', hrun, hO, hB1.grown hg (by have := hB1.size; omega) fun q e => (h.own q e).1, hg, hat⟩

end Go.Proofs.YtpjikakbdahmfaaDoor

namespace Go.Proofs.YtpjikakbdahmfaaDoor
open Go.RowKit

theorem pairs_of {w : World} : ∀ (rows : List (List Value)) (ls : List (List Int)), rows.length = ls.length → (∀ (i : Nat) (r : List Value) (x : List Int), rows[i]? = some r → ls[i]? = some x → WayP w r x) →
    ∃ ps : List (WV w), ps.map WV.way = ls ∧ ps.map WV.val = rows.flatten
  | [], [], _, _ => ⟨[], rfl, rfl⟩
  | [], _ :: _, h, _ => by simp at h
  | _ :: _, [], h, _ => by simp at h
  | r :: rows, x :: ls, h, hp => by
    obtain ⟨v, rfl, hI⟩ := hp 0 r x rfl rfl
    obtain ⟨ps, h1, h2⟩ := pairs_of rows ls (by simpa using h) fun i r x hr hx => hp (i + 1) r x (by simpa using hr) (by simpa using hx)
    exact ⟨WV.mk v x hI :: ps, by rw [List.map_cons, h1, WV.way_mk], by rw [List.map_cons, h2, WV.val_mk]; rfl⟩
theorem WaysAt.pairs {w : World} {v : Value} {ls : List (List Int)} (h : WaysAt w v ls) : ∃ ps : List (WV w), ps.map WV.way = ls ∧ Seg w v 1 ps.length (ps.map WV.val) := by
  obtain ⟨rows, h1, -, h3, h4⟩ := h
  obtain ⟨ps, e1, e2⟩ := pairs_of rows ls h1 h4
  have e3 : ps.length = ls.length := by rw [← e1, List.length_map]
  exact ⟨ps, e1, by rw [e2, e3]; exact h3⟩
theorem wv_vals_one {w : World} (ps : List (WV w)) : ∀ u ∈ ps.map WV.val, u.oneCell' = true := by
  intro u hu
  obtain ⟨p, -, rfl⟩ := List.mem_map.1 hu
  exact p.one
/-- what a walk wants of the values in their row -/
theorem seg_wv {w0 w : World} {v : Value} {ps : List (WV w0)} (h : Seg w v 1 ps.length (ps.map WV.val)) : ∃ a cap, v = .slice a ps.length cap ∧ ∀ k (p : WV w0), ps[k]? = some p → ∃ b o a2 c2, a = some ⟨b, o, none⟩ ∧ w.cell? ⟨b, o + k, none⟩ = some (.slice a2 p.way.length c2) ∧ IntsAt w0 (.slice a2 p.way.length c2) p.way := by
  obtain ⟨-, -, a, cap, hv, -, -, -, hc⟩ := h
  refine ⟨a, cap, hv, fun k p hk => ?_⟩
  obtain ⟨b, o, ha, hcell⟩ := hc k p.val (by simp [hk])
  have hI := p.2
  have hI' := hI
  obtain ⟨-, a2, c2, hv2, -, -⟩ := hI'.open
  refine ⟨b, o, a2, c2, ha, ?_, ?_⟩
  · rw [hcell]; exact congrArg some hv2
  · show IntsAt w0 (.slice a2 p.1.2.length c2) p.1.2
    rw [← hv2]; exact hI

/-- one step of the sieve -/
theorem sieve_skip {o : List (List Int)} {w : List Int} {r : List (List Int)} (h : w = [] ∨ (∃ u, o.getLast? = some u ∧ u <+: w)) : sieveW o (w :: r) = sieveW o r := by rw [sieveW, if_pos h]
theorem sieve_take {o : List (List Int)} {w : List Int} {r : List (List Int)} (h : ¬ (w = [] ∨ (∃ u, o.getLast? = some u ∧ u <+: w))) : sieveW o (w :: r) = sieveW (o ++ [w]) r := by rw [sieveW, if_neg h]

theorem ints_one {w : World} {base : Nat} {v : Value} {l : List Int} (h : IntsOwn w base v l) : v.oneCell' = true := by
  obtain ⟨a, c, rfl⟩ := h.form
  rfl
theorem IntsOwn.apart {w : World} {n0 base : Nat} {v : Value} {l : List Int} (h : IntsOwn w base v l) (hn : l.length ≤ 140737488355328) (hl : ∀ x ∈ l, i64ok x) : Apart n0 base w (fun w' => WayP w' [v] l) := fun _ hw' =>
  ⟨v, rfl, IntsOwn.ints (row_keep h fun b _ hb he => hw' b (Array.getElem?_eq_some_iff.1 he).1 (.inr hb)) hn hl⟩

/-- the ways' lengths are in reach -/
def LightW (ls : List (List Int)) : Prop := ls.length ≤ 1099511627776 ∧ ∀ l ∈ ls, l.length ≤ 17592186044416

/-- ways that lie in what was laid since w -/
def NewWays (w w' : World) (v : Value) (o : List (List Int)) : Prop := o.length ≤ 1099511627776 ∧ ∃ base, w.heap.size ≤ base ∧ RowsOwn WayP 23 1 0 base w' v o
theorem NewWays.here {w w' : World} {v : Value} {o : List (List Int)} (h : NewWays w w' v o) : WaysAt w' v o := by
  obtain ⟨hl, base, -, h⟩ := h
  exact h.at (by omega) fun _ _ _ => rfl
/-- .. a store into what was there before, new blocks -/
theorem NewWays.later {w0 w w' w2 : World} {v : Value} {o : List (List Int)} (h : NewWays w w' v o) (h0 : w0.heap.size ≤ w.heap.size) (hs : w'.heap.size ≤ w2.heap.size) (hw : ∀ b, w.heap.size ≤ b → b < w'.heap.size → w2.heap[b]? = w'.heap[b]?) : NewWays w0 w2 v o := by
  obtain ⟨hl, base, hb, h⟩ := h
  refine ⟨hl, base, Nat.le_trans h0 hb, h.later (fun b h1 h2 => hw b (by omega) h1) hs⟩
/-- one of the ways: its value, and that it stays where the new blocks stay -/
theorem NewWays.elem {w w' : World} {v : Value} {o : List (List Int)} (h : NewWays w w' v o) {k : Nat} {x : List Int} (hk : o[k]? = some x) : ∃ b q a c, (v = .slice (some ⟨b, q, none⟩) o.length (match v with | .slice _ _ c => c | _ => 0)) ∧ w'.cell? ⟨b, q + k, none⟩ = some (.slice a x.length c) ∧ w.heap.size ≤ b ∧ b < w'.heap.size ∧
    ∀ W, (∀ b, w.heap.size ≤ b → b < w'.heap.size → W.heap[b]? = w'.heap[b]?) → IntsAt W (.slice a x.length c) x := by
  have hh := h.here
  obtain ⟨hl, base, hb, rows, h1, h2, h3, h4⟩ := h
  have hkl : k < o.length := (List.getElem?_eq_some_iff.1 hk).1
  have hr : rows[k]? = some (rows[k]'(by omega)) := List.getElem?_eq_getElem (by omega)
  generalize rows[k]'(by omega) = r at hr
  obtain ⟨y, rfl, hI⟩ := h4 w' (fun _ _ _ _ => rfl) k r x hr hk
  have hI' := hI
  obtain ⟨-, a, c, rfl, -, -⟩ := hI'.open
  have hflat := flatten_get rows k 0 _ h2 hr (by decide)
  rcases h3.2 with ⟨rfl, h0⟩ | ⟨g, cap, cur, rfl, hg, hc, hnc, hcm, hcs, ht⟩
  · omega
  · refine ⟨g, 0, a, c, rfl, ?_, by omega, (Array.getElem?_eq_some_iff.1 hc).1, fun W hW => ?_⟩
    · have := World.ownsRow.cells h3 (g := g) rfl k _ (by simpa using hflat)
      rwa [addr_add] at this
    · obtain ⟨y, e, hI2⟩ := h4 W (fun b h5 _ h6 => hW b (by omega) h5) k _ x hr hk
      cases e
      exact hI2

def MaskPost (w : World) (o : List (List Int)) (e : Ending) (w' : World) : Prop := ∃ v', e = .returned (maskV v') ∧ NewWays w w' v' o ∧ Below w.heap.size w w'

set_option maxRecDepth 100000 in
set_option maxHeartbeats 4000000 in
theorem mask_Of {w : World} {v : Value} {ls : List (List Int)} (h : WaysAt w v ls) (hL : LightW ls) :
    Calls Tryd.prog 8 #[v] w (MaskPost w (mOf ls)) := by
  have hA : Below w.heap.size w (w.alloc (.cells #[.slice none 0 0] 27)) := (Below.refl _ _).alloc (Nat.le_refl _) _
  obtain ⟨wA, HA⟩ : ∃ wA, Hid (wA = w.alloc (.cells #[.slice none 0 0] 27)) := ⟨_, rfl⟩
  have HBX : Hid (Blk wA w.heap.size [.slice none 0 0] 27) := by rw [HA.out]; exact Blk.new w [.slice none 0 0] _
  rw [← HA.out] at hA
  have HSZ : Hid (wA.heap.size = w.heap.size + 1) := by rw [HA.out]; simp [Hid]
  obtain ⟨ps, e1, hseg⟩ := (h.below hA).pairs
  have HWA := hid hA
  have HL := hid hL
  have hpl : ps.length = ls.length := by rw [← e1, List.length_map]
  have HCL := hid (clone_ways (w := wA) (vs := ps.map WV.val) (by rw [List.length_map]; exact hseg) (wv_vals_one ps) (by rw [List.length_map, hpl]; exact hL.1))
  obtain ⟨-, a, c, rfl, -, -⟩ := h.open
  obtain ⟨n, HN⟩ : ∃ n, Hid (n = ls.length) := ⟨_, rfl⟩
  rw [← HN.out] at HCL ⊢
  obtain ⟨Q, HQ⟩ : ∃ Q : Ending → World → Prop, Hid (Q = MaskPost w (mOf ls)) := ⟨_, rfl⟩
  rw [← HQ.out]
  have HE := hid e1
  have HPL := hid hpl
  clear h hA hL e1 hseg hpl
  go_enter Tryd.func8, Tryd.ntmps8
  go_wp2_with fail
  rw [← HA.out]
  refine HCL.out.mono ?_
  rintro e w1 ⟨v1, rfl, hO, hB1⟩
  have HSORT := hid (sort_ways_any ps hO (Nat.le_refl _) hB1 (by rw [HPL.out]; exact HL.out.1))
  have HB1 := hid hB1
  have hv1 := row_seg hO (by rw [List.length_map, HPL.out]; have := HL.out.1; omega)
  obtain ⟨-, -, a1, c1, rfl, -⟩ := hv1
  have hvn : (ps.map WV.val).length = n := by rw [List.length_map, HPL.out, HN.out]
  rw [hvn] at HSORT ⊢
  clear hO hB1 hvn
  go_wp2_with fail
  refine HSORT.out.mono ?_
  rintro e w2 ⟨rfl, ps', hperm, hpw, hseg, hB2⟩
  have hps : ps'.length = n := by rw [hperm.length_eq, HPL.out, HN.out]
  rw [hps] at hseg
  have HSEG := hid hseg
  obtain ⟨s, HS⟩ : ∃ s, Hid (s = ps'.map WV.way) := ⟨_, rfl⟩
  have HGET : Hid (∀ k (x : List Int), s[k]? = some x → ∃ b o a2 c2, a1 = some ⟨b, o, none⟩ ∧ w2.cell? ⟨b, o + k, none⟩ = some (.slice a2 x.length c2) ∧ IntsAt wA (.slice a2 x.length c2) x ∧ x.length ≤ 17592186044416) := by
    obtain ⟨a3, c3, hv3, hc3⟩ := seg_wv (ps := ps') (by rw [hps]; exact hseg)
    cases hv3
    intro k x hx
    rw [HS.out, List.getElem?_map] at hx
    obtain ⟨p, hp, rfl⟩ := Option.map_eq_some_iff.1 hx
    obtain ⟨b, o, a2, c2, h1, h2, h3⟩ := hc3 k p hp
    refine ⟨b, o, a2, c2, h1, h2, h3, HL.out.2 _ ?_⟩
    rw [← HE.out]
    exact List.mem_map.2 ⟨p, (hperm.mem_iff).1 (List.mem_of_getElem? hp), rfl⟩
  have HSN : Hid (n = s.length) := by rw [Hid, HS.out, List.length_map, hps]
  have HM : Hid (sieveW [] s = mOf ls) := by
    refine sieve_rOf (fun x => ?_) (by rw [HS.out]; exact hpw)
    rw [HS.out, ← HE.out]
    exact (hperm.map WV.way).mem_iff
  have HB2 := hid hB2
  have HW2 : Hid (w.heap.size ≤ w2.heap.size) := by have := hB2.size; have := HSZ.out; show _ ≤ _; omega
  have HNL : Hid (n ≤ 1099511627776) := by rw [Hid, HN.out]; exact HL.out.1
  have hn := HNL.out
  clear hperm hpw hseg hB2 hps HSORT HCL
  go_wp2_with fail
  go_loopw [4, 13] (fun v4 v13 wr => ∃ (k : Nat) (o : List (List Int)), v13 = .int .i64 k ∧ k ≤ n ∧ Hid (RowsOwn WayP 23 1 0 w2.heap.size wr v4 o ∧ o.length ≤ k ∧ sieveW o (s.drop k) = mOf ls ∧ Below w2.heap.size w2 wr)) (fun _ v13 _ => n - (intOf v13).toNat)
  case atStart => exact ⟨0, [], rfl, by omega, RowsOwn.nil _ _ _ _ _ _, by simp, HM.out, Below.refl _ _⟩
  case round =>
    obtain ⟨k, o, rfl, hk, HI⟩ := hrel
    have hOF := HI.out.1.form
    obtain ⟨oa, oc, hoe⟩ := hOF
    obtain ⟨j, HJ⟩ : ∃ j, Hid (j = o.length) := ⟨_, rfl⟩
    rw [← HJ.out] at hoe
    subst hoe
    have hjk : j ≤ k := by rw [HJ.out]; exact HI.out.2.1
    by_cases hlt : k < n
    · obtain ⟨x, hx⟩ := way_get HSN.out hlt
      obtain ⟨b, q, xa, xc, ha, g0, hX, hxl⟩ := HGET.out k x hx
      replace g0 := below_keeps HI.out.2.2.2 _ _ g0
      have HXW := hid ((hX.below HB2.out).below HI.out.2.2.2)
      have HXL := hid hxl
      have hix := index_run1 Tryd.underlying22 size_ints ha k hlt (cap := c1)
      have HD := hid (drop_at hx)
      obtain ⟨m, HMM⟩ : ∃ m, Hid (m = x.length) := ⟨_, rfl⟩
      rw [← HMM.out] at g0 HXW
      have HX64 := hid hX.2
      clear hx hX ha hxl
      by_cases hm : m = 0
      · subst hm
        have HSK := hid (sieve_skip (o := o) (w := x) (r := s.drop (k + 1)) (.inl (List.length_eq_zero_iff.1 HMM.out.symm)))
        go_wp2_with fail
        go_roundw
        case rel => exact ⟨k + 1, o, by go_num, hlt, HI.out.1, by have := HI.out.2.1; omega, by rw [← HSK.out, ← HD.out]; exact HI.out.2.2.1, HI.out.2.2.2⟩
        case measure => simp [intOf]; omega
      · have HXN : Hid (x ≠ []) := fun e => hm (by rw [HMM.out, e]; rfl)
        have e1 : ((m : Int) == 0) = false := by simp; omega
        have e2 : (m == 0) = false := by simp; omega
        have e3 : decide ((m : Int) = 0) = false := by simp; omega
        by_cases hj : j = 0
        · subst hj
          have HO0 : Hid (o = []) := List.length_eq_zero_iff.1 HJ.out.symm
          have HTK := hid (sieve_take (o := o) (w := x) (r := s.drop (k + 1)) (by rw [HO0.out]; simp; exact HXN.out))
          go_wp2_with fail
          have hcl := clone_ints (HXW.out) HXL.out
          refine hcl.mono ?_
          clear hcl
          rintro e w4 ⟨v5, rfl, hO5, hB5⟩
          obtain ⟨a5, c5, hv5⟩ := hO5.form
          rw [← HMM.out] at hv5
          subst hv5
          obtain ⟨a', c', w6, hr, hO6, hB6, hB7⟩ := (HI.out.1).step hB5 (by decide) (Nat.zero_le _) HI.out.2.2.2.size HJ.out.symm (G := Tryd.prog) 22 (.slice none 0 0) 24 under_ways info_ints rfl #[.slice a5 m c5] rfl (by intro u hu; simp at hu; subst hu; exact ints_one hO5) x (hO5.apart (by have := HXL.out; omega) HX64.out) (by have := HNL.out; omega) (by decide)
          have HO6 := hid hO6
          have HB7 := hid hB7
          clear hO5 hB5 hO6 hB6 hB7
          go_wp2_with (at_builtin; refine wpList_append_eq rfl _ _ _ rfl _ _ rfl rfl hr ?_)
          go_roundw
          case rel => exact ⟨k + 1, o ++ [x], by go_num, hlt, HO6.out, by rw [List.length_append]; have := HI.out.2.1; simp; omega, by rw [← HTK.out, ← HD.out]; exact HI.out.2.2.1, HI.out.2.2.2.trans HB7.out⟩
          case measure => simp [intOf]; omega
        · have hj0 : 0 < j := by omega
          obtain ⟨u, HU⟩ : ∃ u, Hid (o[j - 1]? = some u) := way_get HJ.out (by omega)
          have HLAST : Hid (o.getLast? = some u) := by rw [Hid, List.getLast?_eq_getElem?, ← HJ.out]; exact HU.out
          have hWA := RowsOwn.at HI.out.1 (by have := HI.out.2.1; have := HNL.out; omega) (w' := wr) (fun _ _ _ => rfl)
          obtain ⟨-, oa', oc', hoe, -, hoat⟩ := WaysAt.open hWA
          rw [← HJ.out] at hoe
          cases hoe
          obtain ⟨b2, q2, ua, uc, ha2, g2, hU⟩ := hoat (j - 1) u HU.out
          have hix2 := index_run1 Tryd.underlying22 size_ints ha2 (j - 1) (by omega : j - 1 < j) (cap := oc)
          rw [show ((j - 1 : Nat) : Int) = (j : Int) - 1 by omega] at hix2
          have HUW := hid hU
          obtain ⟨um, HUM⟩ : ∃ um, Hid (um = u.length) := ⟨_, rfl⟩
          rw [← HUM.out] at g2 HUW
          have hBEG := mask_begins HXW.out HUW.out
          obtain ⟨y, HY⟩ : ∃ y, Hid (y = beginsW x u) := ⟨_, rfl⟩
          rw [← HY.out] at hBEG
          have HBEG := hid hBEG
          clear hBEG hWA hoat ha2 hU
          cases y with
          | true =>
            have HSK := hid (sieve_skip (o := o) (w := x) (r := s.drop (k + 1)) (.inr ⟨u, HLAST.out, (beginsW_iff _ _).1 HY.out.symm⟩))
            go_wp2_with (go_at_call 28; refine HBEG.out.mono ?_; rintro e w' ⟨rfl, hd⟩; have HDW := hid hd.below; clear hd)
            go_roundw
            case rel => exact ⟨k + 1, o, by go_num, hlt, HI.out.1.below HDW.out, by have := HI.out.2.1; omega, by rw [← HSK.out, ← HD.out]; exact HI.out.2.2.1, below_step HI.out.2.2.2 HDW.out HI.out.2.2.2.size⟩
            case measure => simp [intOf]; omega
          | false =>
            have HTK := hid (sieve_take (o := o) (w := x) (r := s.drop (k + 1)) (by rintro (e | ⟨u2, e, hp⟩); exact HXN.out e; rw [HLAST.out] at e; cases e; have := (beginsW_iff x u).2 hp; rw [← HY.out] at this; cases this))
            go_wp2_with (go_at_call 28; refine HBEG.out.mono ?_; rintro e w3 ⟨rfl, hd⟩; have HDW := hid hd.below; clear hd)
            have hcl := clone_ints (HXW.out.below HDW.out) HXL.out
            refine hcl.mono ?_
            clear hcl
            rintro e w4 ⟨v5, rfl, hO5, hB5⟩
            obtain ⟨a5, c5, hv5⟩ := hO5.form
            rw [← HMM.out] at hv5
            subst hv5
            obtain ⟨a', c', w6, hr, hO6, hB6, hB7⟩ := (HI.out.1.below HDW.out).step hB5 (by decide) (Nat.zero_le _) (Nat.le_trans HI.out.2.2.2.size HDW.out.size) HJ.out.symm (G := Tryd.prog) 22 (.slice none 0 0) 24 under_ways info_ints rfl #[.slice a5 m c5] rfl (by intro u hu; simp at hu; subst hu; exact ints_one hO5) x (hO5.apart (by have := HXL.out; omega) HX64.out) (by have := HNL.out; omega) (by decide)
            have HO6 := hid hO6
            have HB7 := hid hB7
            clear hO5 hB5 hO6 hB6 hB7
            go_wp2_with (at_builtin; refine wpList_append_eq rfl _ _ _ rfl _ _ rfl rfl hr ?_)
            go_roundw
            case rel => exact ⟨k + 1, o ++ [x], by go_num, hlt, HO6.out, by rw [List.length_append]; have := HI.out.2.1; simp; omega, by rw [← HTK.out, ← HD.out]; exact HI.out.2.2.1, (below_step HI.out.2.2.2 HDW.out HI.out.2.2.2.size).trans HB7.out⟩
            case measure => simp [intOf]; omega
    · obtain rfl : k = n := by omega
      have HEN : Hid (o = mOf ls) := by
        have := HI.out.2.2.1
        rw [List.drop_eq_nil_of_le (by rw [← HSN.out]; omega)] at this
        exact this
      have HBX2 := hid ((HBX.out.below HB2.out).below HI.out.2.2.2)
      have c0 := HBX2.out.cell 0 _ rfl
      have f0 := HBX2.out.free 0
      have hsz := HBX2.out.lt
      have HFIN : Hid (MaskPost w (mOf ls) (.returned (maskV (.slice oa j oc))) (wr.setCell ⟨w.heap.size, 0, none⟩ (.slice oa j oc))) := by
        have hw2 : w.heap.size + 1 ≤ w2.heap.size := by have := HB2.out.size; have := HSZ.out; omega
        refine ⟨_, rfl, ?_, ?_⟩
        · rw [← HEN.out]
          refine ⟨by rw [← HJ.out]; have := HNL.out; omega, w2.heap.size, by omega, ?_⟩
          exact HI.out.1.later (fun b hb hc => Below.heap_setCell _ _ _ _ (by show b ≠ w.heap.size; omega)) (by simp)
        · have h1 : Below w.heap.size w w2 := HWA.out.trans (HB2.out.mono (by have := HSZ.out; omega))
          exact (h1.trans (HI.out.2.2.2.mono (by omega))).setCell (Nat.le_refl _) _
      have HCS : Hid ((wr.setCell ⟨w.heap.size, 0, none⟩ (.slice oa j oc)).cell? ⟨w.heap.size, 0, none⟩ = some (.slice oa j oc)) := World.cell?_setCell_same' _ _ _ (by rw [c0]; rfl)
      clear hlt
      go_wp2_with fail
      rw [HQ.out]
      refine bodyPost_ret (v := maskV (.slice oa j oc)) (by simp [results, Tryd.results8, go_sem, maskV, HCS.out]) rfl HFIN.out

end Go.Proofs.YtpjikakbdahmfaaDoor

namespace Go.Proofs.YtpjikakbdahmfaaDoor
open Go.RowKit

theorem MaskPost.open {w : World} {o : List (List Int)} {e : Ending} {w' : World} (h : MaskPost w o e w') : ∃ a c, e = .returned (maskV (.slice a o.length c)) ∧ WaysAt w' (.slice a o.length c) o ∧ Below w.heap.size w w' ∧ NewWays w w' (.slice a o.length c) o := by
  obtain ⟨v', rfl, h2, h3⟩ := h
  have h2' := h2.here
  have h2'' := h2'
  obtain ⟨-, a, c, rfl, -, -⟩ := h2''.open
  exact ⟨a, c, rfl, h2', h3, h2⟩

theorem field_mask (a : Option Addr) (n c : Nat) (w : World) : (Instr.field 27 (.agg #[.slice a n c]) 0).run Tryd.prog w = .ok (.slice a n c) w := by kernel_rfl

set_option maxRecDepth 100000 in
set_option maxHeartbeats 4000000 in
theorem mask_Whole {w : World} {v : Value} {ls : List (List Int)} (h : WaysAt w v ls) (hL : LightW ls) (x : Int) :
    Calls Tryd.prog 15 #[maskV v, .int .i64 x] w fun e w' => e = .returned (.bool ((mOf ls).any (wholeW x))) ∧ Below w.heap.size w w' := by
  unfold maskV
  have HOF : Hid (∀ W, Below w.heap.size w W → Calls Tryd.prog 8 #[v] W (MaskPost W (mOf ls))) := fun W hW => mask_Of (h.keep (below_keeps hW)) hL
  obtain ⟨-, a, c, rfl, -, -⟩ := h.open
  obtain ⟨z, HZ⟩ : ∃ z, Hid (z = (mOf ls).any (wholeW x)) := ⟨_, rfl⟩
  rw [← HZ.out]
  clear h hL
  go_enter Tryd.func15, Tryd.ntmps15
  go_wp2_with fail
  refine (HOF.out _ ?_).mono ?_
  · (repeat (first | with_reducible exact Below.refl _ _ | with_reducible refine Below.setCell ?_ (by first | omega | (simp; omega) | (simp; done)) _ | with_reducible refine Below.alloc ?_ (by first | omega | (simp; omega) | (simp; done)) _ | with_reducible refine below_drewN ?_ _ | with_reducible refine Below.drew ?_))
  · intro e w1 hp
    obtain ⟨a2, c2, rfl, hW, hb, -⟩ := hp.open
    have hq : w1.cell? ⟨w.heap.size + 1, 0, none⟩ = some (.int .i64 x) := by
      refine below_keeps hb _ _ ?_
      simp [go_sem]
    have HC := hid (containsFunc_ways hW 35 #[.pointer (some ⟨w.heap.size + 1, 0, none⟩)] (wholeW x) (fun args w => by simp [go_sem]) fun y l wr hy hd => mask_Whole_1 (hd.keeps _ _ hq) hy)
    rw [← HZ.out] at HC
    have HB : Hid (Below w.heap.size w w1) := below_step (by (repeat (first | with_reducible exact Below.refl _ _ | with_reducible refine Below.setCell ?_ (by first | omega | (simp; omega) | (simp; done)) _ | with_reducible refine Below.alloc ?_ (by first | omega | (simp; omega) | (simp; done)) _ | with_reducible refine below_drewN ?_ _ | with_reducible refine Below.drew ?_))) hb (by simp; omega)
    unfold maskV
    have hfd := field_mask
    clear hW hb hq hp
    go_wp2_with fail
    refine HC.out.mono ?_
    rintro e w2 ⟨rfl, hd⟩
    have HB2 : Hid (Below w.heap.size w w2) := below_step HB.out hd.below HB.out.size
    clear hd
    go_wp2_with fail
    go_ret
    exact ⟨rfl, HB2.out⟩

set_option maxRecDepth 100000 in
set_option maxHeartbeats 4000000 in
theorem equalFunc_ways {w : World} {v u : Value} {l m : List (List Int)} (h : WaysAt w v l) (hu : WaysAt w u m) :
    Calls Tryd.prog 49 #[v, u, .func (.func 45) #[] #[]] w fun e w' => e = .returned (.bool (decide (l = m))) ∧ Drew w w' := by
  obtain ⟨hl, a, c, rfl, -, hat⟩ := h.open
  obtain ⟨hm, a2, c2, rfl, -, hbt⟩ := hu.open
  obtain ⟨n, HN⟩ : ∃ n, Hid (n = l.length) := ⟨_, rfl⟩
  obtain ⟨n2, HN2⟩ : ∃ n, Hid (n = m.length) := ⟨_, rfl⟩
  rw [← HN.out] at hl ⊢
  rw [← HN2.out] at hm ⊢
  obtain ⟨z, HZ⟩ : ∃ z, Hid (z = decide (l = m)) := ⟨_, rfl⟩
  rw [← HZ.out]
  have HAT := hid hat
  have HBT := hid hbt
  have hcf : ∀ (args : Array Value) (w : World), (callFunc 45 args).run Tryd.prog w = .ok (.enter 45 args) w := fun args w => by simp [go_sem]
  clear hat hbt h hu
  by_cases hnn : n = n2
  · subst hnn
    go_enter Tryd.func49, Tryd.ntmps49
    go_wp2_with fail
    go_loopw [17] (fun v5 wr => ∃ i : Nat, v5 = .int .i64 i ∧ i ≤ n ∧ Hid (z = decide (l.drop i = m.drop i)) ∧ Hid (Drew w wr)) (fun v5 _ => n - (intOf v5).toNat)
    case atStart => exact ⟨0, rfl, by omega, by rw [Hid, HZ.out]; simp, Drew.refl _⟩
    case round =>
      obtain ⟨i, rfl, hi, HI, HB⟩ := hrel
      by_cases h1 : i < n
      · obtain ⟨x, hxi⟩ := way_get HN.out h1
        obtain ⟨y, hyi⟩ := way_get HN2.out h1
        obtain ⟨b, o, xa, xc, ha, g0, hX⟩ := HAT.out i x hxi
        obtain ⟨b2, o2, ya, yc, ha2, g2, hY⟩ := HBT.out i y hyi
        have HC := hid (same_ways_at hxi hyi)
        have hix := index_run1 Tryd.underlying22 size_ints ha i h1 (cap := c)
        have hix2 := index_run1 Tryd.underlying22 size_ints ha2 i h1 (cap := c2)
        have HS := hid (equal_ints (hX.keep HB.out.keeps) (hY.keep HB.out.keeps))
        replace g0 := HB.out.keeps _ _ g0
        replace g2 := HB.out.keeps _ _ g2
        obtain ⟨xn, HXN⟩ : ∃ xn, Hid (xn = x.length) := ⟨_, rfl⟩
        obtain ⟨yn, HYN⟩ : ∃ yn, Hid (yn = y.length) := ⟨_, rfl⟩
        rw [← HXN.out] at g0 HS
        rw [← HYN.out] at g2 HS
        clear hxi hyi ha ha2 hX hY
        by_cases hxy : x = y
        · have HC1 : Hid (z = decide (l.drop (i + 1) = m.drop (i + 1))) := by
            rw [Hid, HI.out, decide_eq_decide, HC.out]; simp [hxy]
          rw [show decide (x = y) = true from decide_eq_true hxy] at HS
          have HXY := hid hxy
          clear hxy
          go_wp2_with fail
          refine HS.out.mono ?_
          rintro e w3 ⟨rfl, hd⟩
          have HB3 := hid (HB.out.trans hd)
          clear hd
          go_wp2_with fail
          go_roundw
          case rel => exact ⟨i + 1, by go_num, h1, HC1.out, HB3.out⟩
          case measure => simp [intOf]; omega
        · have HC1 : Hid (z = false) := by
            rw [Hid, HI.out, decide_eq_false_iff_not, HC.out]; simp [hxy]
          rw [show decide (x = y) = false from decide_eq_false hxy] at HS
          have HXY := hid hxy
          clear hxy
          go_wp2_with fail
          refine HS.out.mono ?_
          rintro e w3 ⟨rfl, hd⟩
          have HB3 := hid (HB.out.trans hd)
          clear hd
          go_wp2_with fail
          go_ret
          exact ⟨by rw [HC1.out]; first | done | rfl, HB3.out⟩
      · obtain rfl : i = n := by omega
        have HC1 : Hid (z = true) := by
          rw [Hid, HI.out, List.drop_eq_nil_of_le (by rw [← HN.out]; omega), List.drop_eq_nil_of_le (by rw [← HN2.out]; omega)]; simp
        go_wp2_with fail
        go_ret
        exact ⟨by rw [HC1.out]; first | done | rfl, HB.out⟩
  · have HC1 : Hid (z = false) := by
      rw [Hid, HZ.out, decide_eq_false_iff_not]; rintro rfl; exact hnn (by rw [HN.out, HN2.out])
    have e1 : decide ((n : Int) = n2) = false := decide_eq_false (by omega)
    have e2 : ((n : Int) == n2) = false := by simp; omega
    have e3 : (n == n2) = false := by simp; omega
    clear hnn
    go_enter Tryd.func49, Tryd.ntmps49
    go_wp2_with fail
    go_ret
    exact ⟨by rw [HC1.out]; first | done | rfl, Drew.refl _⟩

def isMaskW (ls : List (List Int)) : Bool := decide (mOf ls = ls)

set_option maxRecDepth 100000 in
set_option maxHeartbeats 4000000 in
theorem mask_right {w : World} {v : Value} {ls : List (List Int)} (h : WaysAt w v ls) (hL : LightW ls) :
    Calls Tryd.prog 37 #[maskV v] w fun e w' => e = .returned (.bool (isMaskW ls)) ∧ Below w.heap.size w w' := by
  unfold maskV
  obtain ⟨wA, HA⟩ : ∃ wA, Hid (wA = w.alloc (.cells #[v] 27)) := ⟨_, rfl⟩
  have hA : Below w.heap.size w wA := by rw [HA.out]; exact (Below.refl _ _).alloc (Nat.le_refl _) _
  have HWA := hid hA
  have HW := hid (h.below hA)
  have HOF := hid (mask_Of (w := wA.drew) (((h.below hA)).keep fun _ _ h => h) hL)
  have hb0 : wA.cell? ⟨w.heap.size, 0, none⟩ = some v := by rw [HA.out]; simp [go_sem]
  have HB0 : Hid (wA.drew.cell? ⟨w.heap.size, 0, none⟩ = some v) := hb0
  have HWD : Hid (WaysAt wA.drew v ls) := HW.out.keep fun _ _ h => h
  obtain ⟨-, a, c, rfl, -, -⟩ := h.open
  obtain ⟨z, HZ⟩ : ∃ z, Hid (z = isMaskW ls) := ⟨_, rfl⟩
  rw [← HZ.out]
  clear h hL hA hb0
  go_enter Tryd.func37, Tryd.ntmps37
  have c0 := HB0.out
  have hfd := field_mask
  go_wp2_with fail
  rw [← HA.out]
  go_region_held3 (fun w' => w'.cell? ⟨w.heap.size, 0, none⟩ = some (.slice a ls.length c)) (first | (with_reducible exact c0) | (with_reducible exact c1) | (with_reducible exact k2) | go_keep) (first | (go_at_call 8; (with_reducible refine HOF.out.mono ?_); intro e w1 hp; obtain ⟨a2, c2, rfl, hW2, hb, -⟩ := hp.open; have c1 := below_keeps hb _ _ c0; have HEQ := hid (equalFunc_ways hW2 (HWD.out.below hb)); have HB := hid hb; unfold maskV; clear hW2 hb hp) | (go_at_call 49; (with_reducible refine HEQ.out.mono ?_); rintro e w2 ⟨rfl, hd⟩; have k2 := hd.keeps _ _ c1; have HD := hid hd; clear hd))
  go_wp2_with fail
  go_ret
  exact ⟨by rw [HZ.out]; first | done | rfl, below_step (below_step HWA.out.drew HB.out HWA.out.size) HD.out.below (Nat.le_trans HWA.out.size HB.out.size)⟩

theorem keep_old {w1 w' : World} (h : ∀ b, b < w1.heap.size → w'.heap[b]? = w1.heap[b]?) : ∀ p u, w1.cell? p = some u → w'.cell? p = some u := fun p _u hu =>
  (World.cell?_of_block (h _ (World.block_lt_of_cell? w1 p hu))).trans hu

theorem under_take {x : Int} {y : List Int} (r : List (List Int)) (h : 1 < y.length) (h0 : y[0]? = some x) : underW (y :: r) x = y.drop 1 :: underW r x := by
  unfold underW
  rw [List.filter_cons, if_pos (by simp [h, h0, List.head?_eq_getElem?])]
  simp
theorem under_skip1 {x : Int} {y : List Int} (r : List (List Int)) (h : ¬ 1 < y.length) : underW (y :: r) x = underW r x := by
  unfold underW
  rw [List.filter_cons, if_neg (by simp [h])]
theorem under_skip2 {x z : Int} {y : List Int} (r : List (List Int)) (h0 : y[0]? = some z) (hz : z ≠ x) : underW (y :: r) x = underW r x := by
  unfold underW
  rw [List.filter_cons, if_neg (by simp [h0, List.head?_eq_getElem?, hz])]

def UnderPost (w : World) (o : List (List Int)) (e : Ending) (w' : World) : Prop := ∃ v', e = .returned (.tuple #[maskV v', .bool (decide (0 < o.length))]) ∧ NewWays w w' v' o ∧ Below w.heap.size w w'
theorem mOf_light {ls : List (List Int)} (h : LightW ls) : LightW (mOf ls) := by
  have hm := mOf_mask ls
  refine ⟨?_, fun l hl => h.2 l ((hm.2 l).1 hl).1⟩
  exact Nat.le_trans (mOf_len ls) h.1
theorem underW_light {ls : List (List Int)} (h : LightW ls) (x : Int) : LightW (underW ls x) := by
  refine ⟨?_, fun l hl => ?_⟩
  · unfold underW
    rw [List.length_map]
    exact Nat.le_trans (List.length_filter_le _ _) h.1
  · obtain ⟨-, h2⟩ := (under_mem _ _ _).1 hl
    have := h.2 _ h2
    simp at this
    omega

set_option maxRecDepth 100000 in
set_option maxHeartbeats 4000000 in
theorem mask_Under {w : World} {v : Value} {ls : List (List Int)} (h : WaysAt w v ls) (hL : LightW ls) (x : Int) :
    Calls Tryd.prog 14 #[maskV v, .int .i64 x] w (UnderPost w (underW (mOf ls) x)) := by
  unfold maskV
  obtain ⟨wA, HA⟩ : ∃ wA, Hid (wA = (w.alloc (.cells #[v] 27)).alloc (.cells #[.slice none 0 0] 27)) := ⟨_, rfl⟩
  have hA : Below w.heap.size w wA := by rw [HA.out]; (repeat (first | with_reducible exact Below.refl _ _ | with_reducible refine Below.setCell ?_ (by first | omega | (simp; omega) | (simp; done)) _ | with_reducible refine Below.alloc ?_ (by first | omega | (simp; omega) | (simp; done)) _ | with_reducible refine below_drewN ?_ _ | with_reducible refine Below.drew ?_))
  have HWA := hid hA
  have HBX : Hid (Blk wA (w.heap.size + 1) [.slice none 0 0] 27) := by rw [HA.out]; exact Blk.new' _ [.slice none 0 0] _ _ (by simp)
  have HSZ : Hid (wA.heap.size = w.heap.size + 2) := by rw [HA.out]; simp [Hid]
  have HOF := hid (mask_Of (w := wA) (h.below hA) hL)
  obtain ⟨m, HM⟩ : ∃ m, Hid (m = mOf ls) := ⟨_, rfl⟩
  rw [← HM.out] at HOF ⊢
  have HML : Hid (LightW m) := by rw [HM.out]; exact mOf_light hL
  have HUU : Hid (mOf (underW m x) = underW m x) := by rw [HM.out]; exact under_self ls x
  obtain ⟨-, a, c, rfl, -, -⟩ := h.open
  obtain ⟨n0, HN0⟩ : ∃ n, Hid (n = ls.length) := ⟨_, rfl⟩
  rw [← HN0.out] at HA HOF ⊢
  obtain ⟨Q, HQ⟩ : ∃ Q : Ending → World → Prop, Hid (Q = UnderPost w (underW m x)) := ⟨_, rfl⟩
  rw [← HQ.out]
  clear h hL hA
  have hfd := field_mask
  go_enter Tryd.func14, Tryd.ntmps14
  go_wp2_with fail
  rw [← HA.out]
  refine HOF.out.mono ?_
  intro e w1 hp
  obtain ⟨a2, c2, rfl, hW, hb, -⟩ := hp.open
  obtain ⟨n, HN⟩ : ∃ n, Hid (n = m.length) := ⟨_, rfl⟩
  rw [← HN.out] at hW ⊢
  have hn : n ≤ 1099511627776 := by rw [HN.out]; exact HML.out.1
  obtain ⟨-, a', c', he, -, hat⟩ := hW.open
  rw [← HN.out] at he
  cases he
  have HAT := hid hat
  have HB := hid hb
  unfold maskV
  clear hW hb hp hat HOF
  go_wp2_with fail
  go_loopw [6, 14] (fun v6 v14 wr => ∃ (k : Nat) (o : List (List Int)), v14 = .int .i64 k ∧ k ≤ n ∧ Hid (RowsOwn WayP 23 1 w1.heap.size w1.heap.size wr v6 o ∧ o.length ≤ k ∧ o ++ underW (m.drop k) x = underW m x ∧ Below w1.heap.size w1 wr)) (fun _ v14 _ => n - (intOf v14).toNat)
  case atStart => exact ⟨0, [], rfl, by omega, RowsOwn.nil _ _ _ _ _ _, by simp, rfl, Below.refl _ _⟩
  case round =>
    obtain ⟨k, o, rfl, hk, HI⟩ := hrel
    obtain ⟨oa, oc, hoe⟩ := HI.out.1.form
    obtain ⟨j, HJ⟩ : ∃ j, Hid (j = o.length) := ⟨_, rfl⟩
    rw [← HJ.out] at hoe
    subst hoe
    have hjk : j ≤ k := by rw [HJ.out]; exact HI.out.2.1
    by_cases hlt : k < n
    · obtain ⟨y, hy⟩ := way_get HN.out hlt
      obtain ⟨b, q, ya, yc, ha, g0, hY⟩ := HAT.out k y hy
      replace g0 := below_keeps HI.out.2.2.2 _ _ g0
      have hix := index_run1 Tryd.underlying22 size_ints ha k hlt (cap := c2)
      have HD := hid (drop_at hy)
      have HYL : Hid (y.length ≤ 17592186044416) := HML.out.2 y (List.mem_of_getElem? hy)
      obtain ⟨q2, HQ2⟩ : ∃ q2, Hid (q2 = y.length) := ⟨_, rfl⟩
      rw [← HQ2.out] at g0 hY
      obtain ⟨-, ya', yc', hye, -, hyat⟩ := hY.open
      rw [← HQ2.out] at hye
      cases hye
      have HY := hid hY
      have HY64 := hid hY.2
      clear hy ha hY
      by_cases h1 : 1 < q2
      · obtain ⟨z, hz⟩ := int_get HQ2.out (by omega : 0 < q2)
        obtain ⟨hz64, b2, o2, ha2, g2⟩ := hyat 0 z hz
        have hix2 := index_0 Tryd.underlying23 size_int ha2 (by omega : 0 < q2) (cap := yc)
        replace g2 := below_keeps HI.out.2.2.2 _ _ g2
        rw [Nat.add_zero] at g2
        by_cases hzx : z = x
        · subst hzx
          have HTK := hid (under_take (m.drop (k + 1)) (by rw [← HQ2.out]; exact h1) hz)
          obtain ⟨ta, tc, hsl, hT⟩ := HY.out.l HQ2.out 1 (by omega)
          have hsl' : ∀ W, (Instr.slice 23 (.slice ya q2 yc) (some (.int .i64 1)) none none).run Tryd.prog W = .ok (.slice ta (q2 - 1) tc) W := hsl
          obtain ⟨a', c', w6, hr, hO6, hB6, hB7⟩ := (HI.out.1).step (Below.refl _ _) (by decide) (Nat.le_refl _) HI.out.2.2.2.size HJ.out.symm (G := Tryd.prog) 22 (.slice none 0 0) 24 under_ways info_ints rfl #[.slice ta (q2 - 1) tc] rfl (by intro u hu; simp at hu; subst hu; rfl) (y.drop 1)
            (fun w' hw' => ⟨_, rfl, hT.keep (keep_old fun b hb => (hw' b (Nat.lt_of_lt_of_le hb HI.out.2.2.2.size) (.inl hb)).trans (HI.out.2.2.2.block b hb))⟩) (by omega) (by decide)
          have HO6 := hid hO6
          have HB7 := hid hB7
          have hq1 : ((q2 - 1 : Nat) : Int) = (q2 : Int) - 1 := by omega
          clear hO6 hB6 hB7 hyat hz ha2 hT hsl hq1
          go_wp2_with (at_builtin; refine wpList_append_eq rfl _ _ _ rfl _ _ rfl rfl hr ?_)
          go_roundw
          case rel => exact ⟨k + 1, _, by go_num, hlt, HO6.out, by rw [List.length_append]; have := HI.out.2.1; simp; omega, by rw [← HI.out.2.2.1, HD.out, HTK.out, List.append_assoc]; rfl, HI.out.2.2.2.trans HB7.out⟩
          case measure => simp [intOf]; omega
        · have HTK := hid (under_skip2 (m.drop (k + 1)) hz hzx)
          have e1 : (z == x) = false := by simpa using hzx
          clear hzx hyat hz ha2
          go_wp2_with fail
          go_roundw
          case rel => exact ⟨k + 1, o, by go_num, hlt, HI.out.1, by have := HI.out.2.1; omega, by rw [← HI.out.2.2.1, HD.out, HTK.out], HI.out.2.2.2⟩
          case measure => simp [intOf]; omega
      · have HTK := hid (under_skip1 (x := x) (m.drop (k + 1)) (by rw [← HQ2.out]; exact h1))
        have e1 : decide ((1 : Int) < q2) = false := decide_eq_false (by omega)
        clear hyat h1
        go_wp2_with fail
        go_roundw
        case rel => exact ⟨k + 1, o, by go_num, hlt, HI.out.1, by have := HI.out.2.1; omega, by rw [← HI.out.2.2.1, HD.out, HTK.out], HI.out.2.2.2⟩
        case measure => simp [intOf]; omega
    · obtain rfl : k = n := by omega
      have HEN : Hid (o = underW m x) := by
        have := HI.out.2.2.1
        rw [List.drop_eq_nil_of_le (by rw [← HN.out]; omega)] at this
        rw [Hid, ← this]; simp [underW]
      have hWO := RowsOwn.at HI.out.1 (by have := HI.out.2.1; omega) (w' := wr) (fun _ _ _ => rfl)
      have HOF2 := hid (mask_Of (show WaysAt wr (.slice oa j oc) o from hWO) (by rw [HEN.out]; exact underW_light HML.out x))
      rw [HEN.out, HUU.out] at HOF2
      have HBX2 := hid ((HBX.out.below HB.out).below HI.out.2.2.2)
      clear hlt hWO
      go_wp2_with fail
      refine HOF2.out.mono ?_
      intro e w3 hp3
      obtain ⟨a3, c3, rfl, -, hb3, hW3⟩ := hp3.open
      have HJ2 : Hid ((underW m x).length = j) := by rw [Hid, HJ.out, HEN.out]
      rw [HJ2.out] at hW3 ⊢
      have HW3 := hid hW3
      have HBX3 := hid (HBX2.out.below hb3)
      have hsz3 := HBX3.out.lt
      have c0 := HBX3.out.cell 0 _ rfl
      have f0 := HBX3.out.free 0
      have HB3 : Hid (Below w.heap.size w w3) := (HWA.out.trans ((HB.out.trans (HI.out.2.2.2.mono HB.out.size)).mono (by have := HSZ.out; omega))).trans (hb3.mono (by have := HB.out.size; have := HI.out.2.2.2.size; have := HSZ.out; omega))
      have HCS : Hid ((w3.setCell ⟨w.heap.size + 1, 0, none⟩ (.slice a3 j c3)).cell? ⟨w.heap.size + 1, 0, none⟩ = some (.slice a3 j c3)) := World.cell?_setCell_same' _ _ _ (by rw [c0]; rfl)
      unfold maskV
      clear hW3 hb3 hp3
      have HFIN : Hid (Q (.returned (.tuple #[.agg #[.slice a3 j c3], .bool (decide (0 < j))])) (w3.setCell ⟨w.heap.size + 1, 0, none⟩ (.slice a3 j c3))) := by
        rw [HQ.out, ← HJ2.out]
        refine ⟨_, rfl, ?_, HB3.out.setCell (by simp) _⟩
        rw [HJ2.out]
        have hws : w.heap.size + 2 ≤ wr.heap.size := by have := HB.out.size; have := HI.out.2.2.2.size; have := HSZ.out; omega
        exact HW3.out.later (by omega) (by simp) fun b h1 h2 => Below.heap_setCell _ _ _ _ (by show b ≠ w.heap.size + 1; omega)
      by_cases hj0 : 0 < j
      · have e1 : decide (0 < j) = true := decide_eq_true hj0
        rw [e1] at HFIN
        clear e1
        go_wp2_with fail
        refine bodyPost_ret (v := .tuple #[.agg #[.slice a3 j c3], .bool true]) (by simp [results, Tryd.results14, go_sem, HCS.out]) rfl HFIN.out
      · have e1 : decide (0 < j) = false := decide_eq_false hj0
        rw [e1] at HFIN
        obtain rfl : j = 0 := by omega
        clear e1
        go_wp2_with fail
        refine bodyPost_ret (v := .tuple #[.agg #[.slice a3 0 c3], .bool false]) (by simp [results, Tryd.results14, go_sem, HCS.out]) rfl HFIN.out

end Go.Proofs.YtpjikakbdahmfaaDoor

namespace Go.Proofs.YtpjikakbdahmfaaDoor
open Go.RowKit

theorem grow_zeros (w : World) (n : Nat) (h0 : 0 < n) (hn : n ≤ 2199023255552) (ty : TypeId) :
    ∃ G, n ≤ G ∧ G ≤ 9223372036854775807 ∧ (Builtin.append_ #[22, 3] ty #[.slice none 0 0, .int .i64 (n : Int)]).run Tryd.prog w = .ok (.slice (some ⟨w.heap.size, 0, none⟩) n G) (w.drew.alloc (.cells (Builtin.zeroCells #[.slice none 0 0] n ++ Builtin.zeroCells #[.slice none 0 0] (G - n)) 23)) ∧ G ≤ maxLen := by
  obtain ⟨i, hi, hz, hsize, hby⟩ := info_parts info_ints
  have h := Lib.run_append_grow_zeros w 22 3 ty 23 i (.slice none 0 0) .i64 .i64 under_ways Tryd.underlying3 hi hz none 0 0 [] (run_firstCells_none w.drew i.size 0 0 0) n h0 (by omega) (by omega) (by omega) (by rw [hby]; omega)
    (by rw [Nat.zero_add]; exact growslice_fits (by omega) (by rw [hby]; omega))
  rw [Nat.zero_add] at h
  have hm := grownCap_le_maxLen w n 0 23 (by unfold maxLen; omega)
  refine ⟨_, grownCap_ge w n 0 _, by have := hm; unfold maxLen at this; omega, ?_, hm⟩
  simp at h
  exact h

theorem size_zero (z : Value) (n : Nat) : (Builtin.zeroCells #[z] n).size = n := by
  have := size_zeroCells #[z] n
  simpa using this

set_option maxRecDepth 100000 in
set_option maxHeartbeats 4000000 in
theorem grow_ways (w : World) (n : Nat) (hn : n ≤ 2199023255552) :
    Calls Tryd.prog 47 #[.slice none 0 0, .int .i64 (n : Int)] w fun e w' => ∃ v', e = .returned v' ∧ w'.ownsRow w.heap.size 23 1 v' 0 [] ∧ Below w.heap.size w w' := by
  by_cases h0 : 0 < n
  · obtain ⟨G, h1, h2, h3, h4⟩ := grow_zeros w n h0 hn 22
    have hcut : ∀ W, (Instr.slice 22 (.slice (some ⟨w.heap.size, 0, none⟩) n G) none (some (.int .i64 0)) none).run Tryd.prog W = .ok (.slice (some ⟨w.heap.size, 0, none⟩) 0 G) W := by
      intro W
      have := slice_h_run (P := Tryd.prog) under_ways size_ints (some ⟨w.heap.size, 0, none⟩) n G 0 (by omega) W
      rw [show ((0 : Nat) : Int) = 0 from rfl] at this
      rw [this]
      unfold sliced
      by_cases hG : G = 0
      · omega
      · rw [if_neg hG]; rfl
    have hcut0 : ∀ W, (Instr.slice 22 (.slice none 0 0) none (some (.int .i64 0)) none).run Tryd.prog W = .ok (.slice none 0 0) W := by
      intro W
      have := slice_h_run (P := Tryd.prog) under_ways size_ints none 0 0 0 (by omega) W
      rw [show ((0 : Nat) : Int) = 0 from rfl] at this
      rw [this]; rfl
    have HOWN : Hid (World.ownsRow (w.drew.alloc (.cells (Builtin.zeroCells #[.slice none 0 0] n ++ Builtin.zeroCells #[.slice none 0 0] (G - n)) 23)) w.heap.size 23 1 (.slice (some ⟨w.heap.size, 0, none⟩) 0 G) 0 []) := by
      refine ⟨rfl, .inr ⟨w.heap.size, G, _, rfl, Nat.le_refl _, heap_alloc_new w.drew _, Nat.zero_le _, h4, ?_, by simp⟩⟩
      rw [Array.size_append, size_zero, size_zero]; omega
    clear h4
    go_enter Tryd.func47, Tryd.ntmps47
    go_wp2_with (at_builtin; refine wpList_append2_eq rfl _ _ _ _ rfl _ _ rfl rfl h3 ?_)
    go_ret
    exact ⟨_, rfl, HOWN.out, ((Below.refl _ _).drew).alloc (Nat.le_refl _) _⟩
  · obtain rfl : n = 0 := by omega
    go_enter Tryd.func47, Tryd.ntmps47
    go_wp2_with fail
    go_ret
    exact ⟨_, rfl, World.ownsRow_nil _ _ _ _, Below.refl _ _⟩

theorem flatten_one {α : Type} (f : α → Value) : ∀ l : List α, (l.map fun p => [f p]).flatten = l.map f
  | [] => rfl
  | p :: l => by rw [List.map_cons, List.flatten_cons, flatten_one f l, List.map_cons]; rfl
/-- ways in a row, whose values were there before -/
theorem ways_of_row {w w0 : World} {v : Value} (ps : List (WV w0)) (h : Seg w v 1 ps.length (ps.map WV.val)) (hk : ∀ p u, w0.cell? p = some u → w.cell? p = some u) : WaysAt w v (ps.map WV.way) := by
  refine ⟨ps.map fun p => [p.val], by simp, by intro r hr; obtain ⟨p, -, rfl⟩ := List.mem_map.1 hr; rfl, ?_, ?_⟩
  · have e := flatten_one WV.val ps
    rw [e, List.length_map]; exact h
  · intro i r x hr hx
    rw [List.getElem?_map] at hr hx
    obtain ⟨p, hp, rfl⟩ := Option.map_eq_some_iff.1 hr
    rw [hp] at hx
    cases hx
    exact ⟨p.val, rfl, (p.2).keep hk⟩

set_option maxRecDepth 100000 in
set_option maxHeartbeats 4000000 in
theorem concat_ways {w : World} {b : Nat} {v1 v2 : Value} {l1 l2 : List (List Int)} (h1 : WaysAt w v1 l1) (h2 : WaysAt w v2 l2) (c1 : w.cell? ⟨b, 0, none⟩ = some v1) (c2 : w.cell? ⟨b, 1, none⟩ = some v2) (hl1 : l1.length ≤ 1099511627776) (hl2 : l2.length ≤ 1099511627776) :
    Calls Tryd.prog 32 #[.slice (some ⟨b, 0, none⟩) 2 2] w fun e w' => ∃ v', e = .returned v' ∧ WaysAt w' v' (l1 ++ l2) ∧ Below w.heap.size w w' := by
  obtain ⟨-, a1, k1, rfl, -, -⟩ := h1.open
  obtain ⟨-, a2, k2, rfl, -, -⟩ := h2.open
  have H1 := hid h1
  have H2 := hid h2
  obtain ⟨n1, HN1⟩ : ∃ n, Hid (n = l1.length) := ⟨_, rfl⟩
  obtain ⟨n2, HN2⟩ : ∃ n, Hid (n = l2.length) := ⟨_, rfl⟩
  rw [← HN1.out] at c1 hl1 H1
  rw [← HN2.out] at c2 hl2 H2
  have C1 := hid c1
  have C2 := hid c2
  clear h1 h2
  have hi0 : ∀ W, (Instr.indexAt 84 (.slice (some ⟨b, 0, none⟩) 2 2) (.int .i64 0)).run Tryd.prog W = .ok (.pointer (some ⟨b, 0, none⟩)) W := fun W => by kernel_rfl
  have hi1 : ∀ W, (Instr.indexAt 84 (.slice (some ⟨b, 0, none⟩) 2 2) (.int .i64 1)).run Tryd.prog W = .ok (.pointer (some ⟨b, 1, none⟩)) W := fun W => by kernel_rfl
  obtain ⟨ps1, e1, s1⟩ := H1.out.pairs
  obtain ⟨ps2, e2, s2⟩ := H2.out.pairs
  have hp1 : ps1.length = n1 := by rw [HN1.out, ← e1, List.length_map]
  have hp2 : ps2.length = n2 := by rw [HN2.out, ← e2, List.length_map]
  have HGR := grow_ways w (n1 + n2) (by omega)
  rw [show ((n1 + n2 : Nat) : Int) = (n1 : Int) + (n2 : Int) by omega] at HGR
  have HG := hid HGR
  rw [hp1] at s1
  rw [hp2] at s2
  have HS1 := hid s1
  have HS2 := hid s2
  have HP := And.intro hp1 hp2
  have HPP := hid HP
  have HE := hid (And.intro e1 e2)
  clear HGR e1 e2 s1 s2 hp1 hp2 HP
  go_enter Tryd.func32, Tryd.ntmps32
  go_wp2_with fail
  refine wp_loop_rounds 3 ?_
  rw [rounds_succ]
  go_wp2_with fail
  rw [rounds_succ]
  go_wp2_with fail
  rw [rounds_succ]
  go_wp2_with fail
  refine HG.out.mono ?_
  rintro e w1 ⟨v3, rfl, hO, hB⟩
  obtain ⟨v4, w2, hr4, hO4, hg4, -⟩ := seg_append (P := Tryd.prog) w1 w.heap.size 22 22 23 (.slice none 0 0) 1 24 under_ways info_ints rfl (by decide) _ _ 0 n1 _ _ hO (HS1.out.below hB) (wv_vals_one ps1) (by omega) (by omega) hB.size
  have hB2 : Below w.heap.size w w2 := hB.grown hg4 hB.size (fun q e => (World.ownsRow.lt hO q e).1)
  obtain ⟨v5, w3, hr5, hO5, hg5, -⟩ := seg_append (P := Tryd.prog) w2 w.heap.size 22 22 23 (.slice none 0 0) 1 24 under_ways info_ints rfl (by decide) _ _ _ n2 _ _ hO4 (HS2.out.below hB2) (wv_vals_one ps2) (by omega) (by omega) hB2.size
  have hB3 : Below w.heap.size w w3 := hB2.grown hg5 hB2.size (fun q e => (World.ownsRow.lt hO4 q e).1)
  have HFIN : Hid (WaysAt w3 v5 (l1 ++ l2)) := by
    have hs := row_seg hO5 (by omega)
    rw [List.nil_append, ← List.map_append] at hs
    have := ways_of_row (ps1 ++ ps2) (by rw [List.length_append, HPP.out.1, HPP.out.2]; rw [show n1 + n2 = 0 + n1 + n2 by omega]; exact hs) (below_keeps hB3)
    rwa [List.map_append, HE.out.1, HE.out.2] at this
  have HB3 := hid hB3
  have k1 := below_keeps hB _ _ C1.out
  have k2 := below_keeps hB2 _ _ C2.out
  obtain ⟨a3, m3, k3, rfl⟩ : ∃ a n c, v3 = .slice a n c := by obtain ⟨-, -, a, c, e, -⟩ := row_seg hO (by omega); exact ⟨_, _, _, e⟩
  obtain ⟨a4, m4, k4, rfl⟩ : ∃ a n c, v4 = .slice a n c := by obtain ⟨-, -, a, c, e, -⟩ := row_seg hO4 (by omega); exact ⟨_, _, _, e⟩
  obtain ⟨a5, m5, k5, rfl⟩ : ∃ a n c, v5 = .slice a n c := by obtain ⟨-, -, a, c, e, -⟩ := row_seg hO5 (by omega); exact ⟨_, _, _, e⟩
  clear hO hB hO4 hg4 hB2 hO5 hg5 hB3
  go_wp2_with fail
  refine wp_loop_rounds 3 ?_
  rw [rounds_succ]
  go_wp2_with (at_builtin; refine wpList_append_eq rfl _ _ _ rfl _ _ rfl rfl hr4 ?_)
  rw [rounds_succ]
  go_wp2_with (at_builtin; refine wpList_append_eq rfl _ _ _ rfl _ _ rfl rfl hr5 ?_)
  rw [rounds_succ]
  go_wp2_with fail
  go_ret
  exact ⟨_, rfl, HFIN.out, HB3.out⟩

set_option maxRecDepth 100000 in
set_option maxHeartbeats 4000000 in
theorem mask_Union {w : World} {v1 v2 : Value} {l1 l2 : List (List Int)} (h1 : WaysAt w v1 l1) (h2 : WaysAt w v2 l2) (hL1 : LightW l1) (hL2 : LightW l2) (hL : l1.length + l2.length ≤ 1099511627776) :
    Calls Tryd.prog 10 #[maskV v1, maskV v2] w (MaskPost w (mOf (l1 ++ l2))) := by
  unfold maskV
  obtain ⟨-, a1, k1, rfl, -, -⟩ := h1.open
  obtain ⟨-, a2, k2, rfl, -, -⟩ := h2.open
  obtain ⟨n1, HN1⟩ : ∃ n, Hid (n = l1.length) := ⟨_, rfl⟩
  obtain ⟨n2, HN2⟩ : ∃ n, Hid (n = l2.length) := ⟨_, rfl⟩
  rw [← HN1.out] at h1 hL ⊢
  rw [← HN2.out] at h2 hL ⊢
  obtain ⟨Q, HQ⟩ : ∃ Q : Ending → World → Prop, Hid (Q = MaskPost w (mOf (l1 ++ l2))) := ⟨_, rfl⟩
  rw [← HQ.out]
  have H1 := hid h1
  have H2 := hid h2
  clear h1 h2
  go_enter Tryd.func10, Tryd.ntmps10
  go_wp2_with fail
  refine (concat_ways (H1.out.keep (below_keeps ?_)) (H2.out.keep (below_keeps ?_)) ?_ ?_ (by rw [← HN1.out]; omega) (by rw [← HN2.out]; omega)).mono ?_
  · (repeat (first | with_reducible exact Below.refl _ _ | with_reducible refine Below.setCell ?_ (by first | omega | (simp; omega) | (simp; done)) _ | with_reducible refine Below.alloc ?_ (by first | omega | (simp; omega) | (simp; done)) _ | with_reducible refine below_drewN ?_ _ | with_reducible refine Below.drew ?_))
  · (repeat (first | with_reducible exact Below.refl _ _ | with_reducible refine Below.setCell ?_ (by first | omega | (simp; omega) | (simp; done)) _ | with_reducible refine Below.alloc ?_ (by first | omega | (simp; omega) | (simp; done)) _ | with_reducible refine below_drewN ?_ _ | with_reducible refine Below.drew ?_))
  · simp [go_sem]
  · simp [go_sem]
  rintro e w1 ⟨v3, rfl, hW, hb⟩
  have HBX : Hid (Blk w1 (w.heap.size + 2) [.slice none 0 0] 27) := by
    refine Blk.below (Blk.alloc (Blk.new' _ [.slice none 0 0] _ _ (by simp)) _) hb
  have hsz := hb.size
  simp at hsz
  have HSZ : Hid (w.heap.size + 4 ≤ w1.heap.size) := hsz
  have HB1 : Hid (Below w.heap.size w w1) := below_step (by (repeat (first | with_reducible exact Below.refl _ _ | with_reducible refine Below.setCell ?_ (by first | omega | (simp; omega) | (simp; done)) _ | with_reducible refine Below.alloc ?_ (by first | omega | (simp; omega) | (simp; done)) _ | with_reducible refine below_drewN ?_ _ | with_reducible refine Below.drew ?_))) hb (by simp; omega)
  have HOF := hid (mask_Of hW ⟨by rw [List.length_append, ← HN1.out, ← HN2.out]; exact hL, fun l hl => (List.mem_append.1 hl).elim (hL1.2 l) (hL2.2 l)⟩)
  obtain ⟨-, a3, k3, rfl, -, -⟩ := hW.open
  obtain ⟨m, HM⟩ : ∃ m, Hid (m = mOf (l1 ++ l2)) := ⟨_, rfl⟩
  rw [← HM.out] at HOF HQ
  obtain ⟨n3, HN3⟩ : ∃ n, Hid (n = (l1 ++ l2).length) := ⟨_, rfl⟩
  rw [← HN3.out] at HOF ⊢
  clear hW hb hsz
  go_wp2_with fail
  refine HOF.out.mono ?_
  intro e w2 hp
  obtain ⟨a4, k4, rfl, -, hb4, hN4⟩ := hp.open
  obtain ⟨j, HJ⟩ : ∃ j, Hid (j = m.length) := ⟨_, rfl⟩
  rw [← HJ.out] at hN4 ⊢
  have HBX2 := hid (HBX.out.below hb4)
  have hsz2 := HBX2.out.lt
  have c0 := HBX2.out.cell 0 _ rfl
  have f0 := HBX2.out.free 0
  have HCS : Hid ((w2.setCell ⟨w.heap.size + 2, 0, none⟩ (.slice a4 j k4)).cell? ⟨w.heap.size + 2, 0, none⟩ = some (.slice a4 j k4)) := World.cell?_setCell_same' _ _ _ (by rw [c0]; rfl)
  have HFIN : Hid (Q (.returned (maskV (.slice a4 j k4))) (w2.setCell ⟨w.heap.size + 2, 0, none⟩ (.slice a4 j k4))) := by
    rw [HQ.out]
    refine ⟨_, rfl, hN4.later (by have := HSZ.out; omega) (by simp) fun b h1 h2 => Below.heap_setCell _ _ _ _ (by show b ≠ w.heap.size + 2; have := HSZ.out; omega), (HB1.out.trans (hb4.mono (by have := HSZ.out; omega))).setCell (by simp) _⟩
  unfold maskV
  clear hp hb4 hN4
  go_wp2_with fail
  refine bodyPost_ret (v := maskV (.slice a4 j k4)) (by simp [results, Tryd.results10, go_sem, maskV, HCS.out]) rfl HFIN.out

end Go.Proofs.YtpjikakbdahmfaaDoor
