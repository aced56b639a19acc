/- A document's sheet under way, with a range of blocks that its lists don't touch (O3K). No condition but lengths. -/
import Derived.Test.YtbcpeckmnmhfhaaGreatZ40
namespace Go.Proofs.YtbcpeckmnmhfhaaGreat
open Go.RowKit
/-- the blocks from lo to hi are as in wc -/
structure O3K (d O dg uk lo hi : Nat) (wc w3 w : World) (nv dv sv : Value) (ns : List Int) (ds : List Nat) (ss : List (Option (Sh d))) : Prop where
  o : O3 d O dg uk w3 w nv dv sv ns ds ss
  lt : O < lo
  le : hi ≤ w.heap.size
  keep : ∀ b, lo ≤ b → b < hi → w.heap[b]? = wc.heap[b]?
  no : ∀ b, lo ≤ b → b < hi → nv.ownBlock ≠ some b ∧ dv.ownBlock ≠ some b
variable {d O dg uk lo hi : Nat} {wc w3 w : World} {nv dv sv : Value} {ns : List Int} {ds : List Nat} {ss : List (Option (Sh d))}
theorem O3K.start {wr : World} (h : O3 d O dg uk w3 wr nv dv sv ns ds ss) (hb : Below wr.heap.size wr wc) : O3K d O dg uk wr.heap.size wc.heap.size wc w3 wc nv dv sv ns ds ss :=
  ⟨h.later hb, h.blk.lt, Nat.le_refl _, fun _ _ _ => rfl, fun b hb _ => ⟨fun e => by have := (h.ni.own' b e).2; omega, fun e => by have := (h.di.own b e).2; omega⟩⟩
theorem O3K.later {w1 : World} (h : O3K d O dg uk lo hi wc w3 w nv dv sv ns ds ss) (hb : Below w.heap.size w w1) : O3K d O dg uk lo hi wc w3 w1 nv dv sv ns ds ss :=
  ⟨h.o.later hb, h.lt, Nat.le_trans h.le hb.size, fun b h1 h2 => (hb.block b (Nat.lt_of_lt_of_le h2 h.le)).trans (h.keep b h1 h2), h.no⟩
theorem O3K.blk (h : O3K d O dg uk lo hi wc w3 w nv dv sv ns ds ss) {b : Nat} {cs : List Value} {T : TypeId} (hb : Blk wc b cs T) (h1 : lo ≤ b) (h2 : b < hi) : Blk w b cs T := (h.keep b h1 h2).trans hb
theorem O3K.num (h : O3K d O dg uk lo hi wc w3 w nv dv sv ns ds ss) (y : Int) (hl : ns.length ≤ 1099511627776) :
    ∃ a c w7, (Builtin.append_ #[45, 45] 45 #[nv, .slice (some ⟨w.heap.size, 0, none⟩) 1 1]).run Tryz.prog (w.alloc (.cells #[.int .i64 y] 3)) = .ok (.slice a (ns.length + 1) c) w7 ∧ Blk w7 O [.int .u64 dg, .int .u64 uk, nv, dv, sv] 49 ∧ (∀ b, lo ≤ b → b < hi → w7.heap[b]? = wc.heap[b]?) ∧
      O3K d O dg uk lo hi wc w3 (w7.setCell ⟨O, 2, none⟩ (.slice a (ns.length + 1) c)) (.slice a (ns.length + 1) c) dv sv (ns ++ [y]) ds ss := by
  have hO := h.o.blk.lt
  obtain ⟨v', w7, hr, hI, hg, hat⟩ := int_app1 h.o.ni y hl (by omega)
  obtain ⟨a7, n7, c7, w7', hr', hb7, hJ⟩ := h.o.num y hl
  rw [hr'] at hr
  injection hr with e1 e2
  subst e1
  subst e2
  have hn : n7 = ns.length + 1 := by
    obtain ⟨⟨a, c, e⟩, -⟩ := hJ.form
    replace e := (Value.slice.inj e).2.1
    rw [e, List.length_append, List.length_singleton]
  subst hn
  have hk : ∀ b, lo ≤ b → b < hi → w7'.heap[b]? = wc.heap[b]? := fun b h1 h2 => (hg.block b (Nat.lt_of_lt_of_le h2 h.le) fun e => (h.no b h1 h2).1 e.symm).trans (h.keep b h1 h2)
  refine ⟨a7, c7, w7', hr', hb7, hk, hJ, h.lt, by have := hg.size; have := h.le; simp; omega, fun b h1 h2 => ?_, fun b h1 h2 => ⟨fun e => ?_, (h.no b h1 h2).2⟩⟩
  · rw [Below.heap_setCell _ _ _ b (by show b ≠ O; have := h.lt; omega)]
    exact hk b h1 h2
  · rcases hat with e2 | ⟨b', e2, hb'⟩
    · rw [e2] at e; exact (h.no b h1 h2).1 e
    · rw [e2] at e; injection e with e; have := h.le; omega
theorem O3K.dig (h : O3K d O dg uk lo hi wc w3 w nv dv sv ns ds ss) (y : Nat) (hl : ds.length ≤ 1099511627776) :
    ∃ a c w7, (Builtin.append_ #[46, 46] 46 #[dv, .slice (some ⟨w.heap.size, 0, none⟩) 1 1]).run Tryz.prog (w.alloc (.cells #[.int .u64 (y : Int)] 27)) = .ok (.slice a (ds.length + 1) c) w7 ∧ Blk w7 O [.int .u64 dg, .int .u64 uk, nv, dv, sv] 49 ∧ (∀ b, lo ≤ b → b < hi → w7.heap[b]? = wc.heap[b]?) ∧
      O3K d O dg uk lo hi wc w3 (w7.setCell ⟨O, 3, none⟩ (.slice a (ds.length + 1) c)) nv (.slice a (ds.length + 1) c) sv ns (ds ++ [y]) ss := by
  have hO := h.o.blk.lt
  obtain ⟨v', w7, hr, hI, hg, hat⟩ := word_app1 h.o.di y hl (by omega)
  obtain ⟨a7, n7, c7, w7', hr', hb7, hJ⟩ := h.o.dig y hl
  rw [hr'] at hr
  injection hr with e1 e2
  subst e1
  subst e2
  have hn : n7 = ds.length + 1 := by
    obtain ⟨-, ⟨a, c, e⟩, -⟩ := hJ.form
    replace e := (Value.slice.inj e).2.1
    rw [e, List.length_append, List.length_singleton]
  subst hn
  have hk : ∀ b, lo ≤ b → b < hi → w7'.heap[b]? = wc.heap[b]? := fun b h1 h2 => (hg.block b (Nat.lt_of_lt_of_le h2 h.le) fun e => (h.no b h1 h2).2 e.symm).trans (h.keep b h1 h2)
  refine ⟨a7, c7, w7', hr', hb7, hk, hJ, h.lt, by have := hg.size; have := h.le; simp; omega, fun b h1 h2 => ?_, fun b h1 h2 => ⟨(h.no b h1 h2).1, fun e => ?_⟩⟩
  · rw [Below.heap_setCell _ _ _ b (by show b ≠ O; have := h.lt; omega)]
    exact hk b h1 h2
  · rcases hat with e2 | ⟨b', e2, hb'⟩
    · rw [e2] at e; exact (h.no b h1 h2).2 e
    · rw [e2] at e; injection e with e; have := h.le; omega
/-- a line's sheets, made in a world that came of this one -/
theorem O3K.sub {wx : World} (h : O3K d O dg uk lo hi wc w3 w nv dv sv ns ds ss) (hb : Below w.heap.size w wx) (u : Value) (hu : u.oneCell' = true) (x : Option (Sh d))
    (hx : ∀ w', (∀ b, b < wx.heap.size → w.heap.size ≤ b → w'.heap[b]? = wx.heap[b]?) → OptP (RShAt d) w' [u] x) (hl : ss.length ≤ 1099511627776) :
    ∃ a c w7, (Builtin.append_ #[47, 47] 47 #[sv, .slice (some ⟨wx.heap.size, 0, none⟩) 1 1]).run Tryz.prog (wx.alloc (.cells #[u] 93)) = .ok (.slice a (ss.length + 1) c) w7 ∧ (w7.cell? ⟨O, 4, none⟩ = some sv ∧ w7.frozen? ⟨O, 4, none⟩ = false ∧ O < w7.heap.size) ∧
      O3 d O dg uk w3 (w7.setCell ⟨O, 4, none⟩ (.slice a (ss.length + 1) c)) nv dv (.slice a (ss.length + 1) c) ns ds (ss ++ [x]) := by
  obtain ⟨S, h1, -⟩ := h.o.si
  obtain ⟨a9, n9, c9, w9, hr, hblk, hO⟩ := (h.o.later hb).sub u hu x w.heap.size h.o.blk.lt (fun b hlb => ⟨fun e => by have := (h.o.ni.own' b e).2; omega, fun e => by have := (h.o.di.own b e).2; omega, fun e => by have := (h1.own b e).2; omega⟩) hx hl
  have hn9 : n9 = ss.length + 1 := by
    obtain ⟨-, -, a, c, e⟩ := hO.form
    replace e := (Value.slice.inj e).2.1
    rw [e, List.length_append, List.length_singleton]
  subst hn9
  exact ⟨a9, c9, w9, hr, ⟨hblk.cell 4 _ rfl, hblk.free 4, hblk.lt⟩, hO⟩
end Go.Proofs.YtbcpeckmnmhfhaaGreat
