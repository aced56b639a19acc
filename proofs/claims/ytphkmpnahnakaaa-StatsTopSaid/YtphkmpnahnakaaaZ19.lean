/- Slices of ints: what they hold; slices.Equal, slices.Clone, slices.Compare of ints; darningref07.SameInts. No condition. A slice of the call's own whose elements hold wherever the blocks of a set S are as they were (RowsOnS). -/
import Derived.Test.YtphkmpnahnakaaaZ11
import Derived.Test.YtphkmpnahnakaaaZ14
import Derived.Test.YtphkmpnahnakaaaZ18
namespace Go.Proofs.Ytphkmpnahnakaaa
open Go.RowKit
def intV (x : Int) : Value := .int .i64 x
def i64ok (x : Int) : Prop := -9223372036854775808 ≤ x ∧ x ≤ 9223372036854775807
/-- A []int. -/
def IntsAt (w : World) (v : Value) (l : List Int) : Prop := Seg w v 1 l.length (l.map intV) ∧ ∀ x ∈ l, i64ok x
theorem IntsAt.keep {w w' : World} {v : Value} {l : List Int} (h : IntsAt w v l) (hk : ∀ p u, w.cell? p = some u → w'.cell? p = some u) : IntsAt w' v l := ⟨h.1.keep hk, h.2⟩
theorem IntsAt.below {w w' : World} {v : Value} {l : List Int} (h : IntsAt w v l) (hb : Below w.heap.size w w') : IntsAt w' v l := h.keep (below_keeps hb)
theorem IntsAt.open {w : World} {v : Value} {l : List Int} (h : IntsAt w v l) :
    l.length ≤ 140737488355328 ∧ ∃ a cap, v = .slice a l.length cap ∧ (a = none → cap = 0) ∧ ∀ k x, l[k]? = some x → i64ok x ∧ ∃ b o, a = some ⟨b, o, none⟩ ∧ w.cell? ⟨b, o + k, none⟩ = some (.int .i64 x) := by
  obtain ⟨⟨_, h2, a, cap, hv, h3, h4, h5, h6⟩, hl⟩ := h
  refine ⟨h2, a, cap, hv, h5, fun k t hk => ⟨hl _ (List.mem_of_getElem? hk), h6 k _ ?_⟩⟩
  simp [hk, intV]
theorem size_int (w : World) : (sizeOf 3).run Try.prog w = .ok 1 w := by kernel_rfl
theorem under_ints : Try.prog.underlying 35 = some (.slice 3) := Try.underlying35
theorem info_int : (Try.prog.info? 3).map (fun i => (i.zero, i.size, i.bytes)) = some (some (.int .i64 0), 1, 8) := by kernel_rfl
/-- A []int of the call's own. -/
def IntsOwn (w : World) (base : Nat) (v : Value) (l : List Int) : Prop := w.ownsRow base 3 1 v l.length (l.map intV)
theorem IntsOwn.later {w w' : World} {base : Nat} {v : Value} {l : List Int} (h : IntsOwn w base v l) (hb : Below w.heap.size w w') : IntsOwn w' base v l :=
  World.ownsRow.kept (row := none) h (below_grown hb none) (by cases hv : v.ownBlock with | none => exact .inl rfl | some k => exact .inr (by simp))
theorem IntsOwn.form {w : World} {base : Nat} {v : Value} {l : List Int} (h : IntsOwn w base v l) : ∃ a c, v = .slice a l.length c := by
  rcases h.2 with ⟨h1, h2⟩ | ⟨g, cap, cur, hv, -⟩
  · exact ⟨none, 0, by rw [h1, h2]⟩
  · exact ⟨_, _, hv⟩
theorem drop_at {α : Type} {l : List α} {i : Nat} {x : α} (h : l[i]? = some x) : l.drop i = x :: l.drop (i + 1) := by
  obtain ⟨hl, e⟩ := List.getElem?_eq_some_iff.1 h
  rw [List.drop_eq_getElem_cons hl, e]
set_option maxRecDepth 100000 in
set_option maxHeartbeats 4000000 in
theorem cmp_Compare_int (x y : Int) (w : World) :
    Calls Try.prog 20 #[.int .i64 x, .int .i64 y] w fun e w' => e = .returned (.int .i64 (if x < y then -1 else if y < x then 1 else 0)) ∧ w = w' := by
  by_cases h1 : x < y
  · rw [if_pos h1]
    have e2 : ¬ y < x := by omega
    go_enter Try.func20, Try.ntmps20
    go_wp2
    go_ret
    exact ⟨rfl, rfl⟩
  · rw [if_neg h1]
    by_cases h2 : y < x
    · rw [if_pos h2]
      go_enter Try.func20, Try.ntmps20
      go_wp2
      go_ret
      exact ⟨rfl, rfl⟩
    · rw [if_neg h2]
      go_enter Try.func20, Try.ntmps20
      go_wp2
      go_ret
      exact ⟨rfl, rfl⟩
/-- the first so many -/
theorem IntsAt.h {w : World} {a : Option Addr} {n cap : Nat} {l : List Int} (h : IntsAt w (.slice a n cap) l) (hn : n = l.length) (j : Nat) (hj : j ≤ n) :
    ∃ a' cap', (∀ W, (Instr.slice 35 (.slice a n cap) none (some (.int .i64 (j : Int))) none).run Try.prog W = .ok (.slice a' j cap') W) ∧ IntsAt w (.slice a' j cap') (l.take j) := by
  subst hn
  have hcap : l.length ≤ cap := by obtain ⟨⟨_, _, a', cap', hv, h3, _⟩, -⟩ := h; cases hv; exact h3
  have hr := fun W => slice_h_run (P := Try.prog) under_ints size_int a l.length cap j (by omega) W
  have hs := Seg.sub h.1 0 j (by omega) hj
  unfold sliced at hr hs
  refine ⟨_, _, hr, ⟨?_, fun x hx => h.2 x (List.mem_of_mem_take hx)⟩⟩
  rw [List.length_take, Nat.min_eq_left (by omega), List.map_take]
  simpa using hs
/-- what is behind the first so many -/
theorem IntsAt.l {w : World} {a : Option Addr} {n cap : Nat} {l : List Int} (h : IntsAt w (.slice a n cap) l) (hn : n = l.length) (i : Nat) (hi : i ≤ n) :
    ∃ a' cap', (∀ W, (Instr.slice 35 (.slice a n cap) (some (.int .i64 (i : Int))) none none).run Try.prog W = .ok (.slice a' (n - i) cap') W) ∧ IntsAt w (.slice a' (n - i) cap') (l.drop i) := by
  subst hn
  have hr := fun W => slice_l_run (P := Try.prog) under_ints size_int a l.length cap i (by omega) W
  have hs := Seg.sub h.1 i l.length hi (Nat.le_refl _)
  unfold sliced at hr hs
  refine ⟨_, _, hr, ⟨?_, fun x hx => h.2 x (List.mem_of_mem_drop hx)⟩⟩
  rw [List.length_drop, List.map_drop]
  rw [List.take_of_length_le (by simp)] at hs
  simpa using hs
end Go.Proofs.Ytphkmpnahnakaaa
namespace Go.Proofs.Ytphkmpnahnakaaa
open Go.RowKit
def RowsOnS {α : Type} (S : Nat → Prop) (P : World → List Value → α → Prop) (T : TypeId) (k base : Nat) (w : World) (v : Value) (l : List α) : Prop :=
  ∃ rows : List (List Value), rows.length = l.length ∧ (∀ r ∈ rows, r.length = k) ∧ w.ownsRow base T k v l.length rows.flatten ∧
    ∀ w', (∀ b, b < w.heap.size → v.ownBlock ≠ some b → S b → w'.heap[b]? = w.heap[b]?) → ∀ (i : Nat) (r : List Value) (x : α), rows[i]? = some r → l[i]? = some x → P w' r x
theorem RowsOnS.nil {α : Type} (S : Nat → Prop) (P : World → List Value → α → Prop) (T : TypeId) (k base : Nat) (w : World) : RowsOnS S P T k base w (.slice none 0 0) [] :=
  ⟨[], rfl, by simp, World.ownsRow_nil _ _ _ _, fun _ _ i r x h => by simp at h⟩
theorem RowsOnS.form {α : Type} {S : Nat → Prop} {P : World → List Value → α → Prop} {T : TypeId} {k base : Nat} {w : World} {v : Value} {l : List α} (h : RowsOnS S P T k base w v l) : ∃ a c, v = .slice a l.length c := by
  obtain ⟨rows, -, -, h3, -⟩ := h
  rcases h3.2 with ⟨rfl, h0⟩ | ⟨g, cap, cur, rfl, _⟩
  · exact ⟨none, 0, by rw [h0]⟩
  · exact ⟨_, _, rfl⟩
theorem RowsOnS.own {α : Type} {S : Nat → Prop} {P : World → List Value → α → Prop} {T : TypeId} {k base : Nat} {w : World} {v : Value} {l : List α} (h : RowsOnS S P T k base w v l) (b : Nat) (e : v.ownBlock = some b) : base ≤ b ∧ b < w.heap.size := by
  obtain ⟨rows, -, -, h3, -⟩ := h
  exact World.ownsRow.lt h3 b e
theorem owned_keep {w w' : World} {base size n : Nat} {e : TypeId} {v : Value} {xs : List Value} (h : w.ownsRow base e size v n xs) (hk : ∀ b, v.ownBlock = some b → w'.heap[b]? = w.heap[b]?) : w'.ownsRow base e size v n xs := by
  refine ⟨h.1, ?_⟩
  rcases h.2 with h | ⟨g, cap, cur, hv, hb, hg, hr⟩
  · exact .inl h
  · exact .inr ⟨g, cap, cur, hv, hb, (hk g (by rw [hv]; rfl)).trans hg, hr⟩
theorem RowsOnS.later {α : Type} {S : Nat → Prop} {P : World → List Value → α → Prop} {T : TypeId} {k base : Nat} {w w2 : World} {v : Value} {l : List α} (h : RowsOnS S P T k base w v l)
    (hw : ∀ b, b < w.heap.size → (S b ∨ v.ownBlock = some b) → w2.heap[b]? = w.heap[b]?) (hs : w.heap.size ≤ w2.heap.size) : RowsOnS S P T k base w2 v l := by
  have h0 := h
  obtain ⟨rows, h1, h2, h3, h4⟩ := h
  exact ⟨rows, h1, h2, owned_keep h3 fun b e => hw b (h0.own b e).2 (.inr e), fun w' hw' => h4 w' fun b hlt hne hc => (hw' b (by omega) hne hc).trans (hw b hlt (.inl hc))⟩
theorem RowsOnS.at {α : Type} {S : Nat → Prop} {P : World → List Value → α → Prop} {T : TypeId} {k base : Nat} {w : World} {v : Value} {l : List α} (h : RowsOnS S P T k base w v l) (hl : l.length ≤ 140737488355328) {w' : World}
    (hw : ∀ b, b < w.heap.size → (S b ∨ v.ownBlock = some b) → w'.heap[b]? = w.heap[b]?) : RowsAt P k w' v l := by
  have h0 := h
  obtain ⟨rows, h1, h2, h3, h4⟩ := h
  exact ⟨rows, h1, h2, row_seg (owned_keep h3 fun b e => hw b (h0.own b e).2 (.inr e)) hl, fun i r x hr hx => h4 w' (fun b hlt _ hc => hw b hlt (.inl hc)) i r x hr hx⟩
theorem RowsOnS.append {α : Type} {P : World → List Value → α → Prop} {T : TypeId} {k base : Nat} {S : Nat → Prop} {w : World} {v : Value} {l : List α} (h : RowsOnS S P T k base w v l) (hk : 0 < k)
    {G : Program} (t : TypeId) (z : Value) (bytes : Nat) (ht : G.underlying t = some (.slice T)) (hinfo : (G.info? T).map (fun i => (i.zero, i.size, i.bytes)) = some (some z, k, bytes)) (hzs : z.cells.size = k)
    (cells : Array Value) (hr : cells.size = k) (h1 : ∀ u ∈ cells.toList, u.oneCell' = true) (x : α)
    (hP : ∀ w', (∀ b, b < w.heap.size → v.ownBlock ≠ some b → S b → w'.heap[b]? = w.heap[b]?) → P w' cells.toList x) (hlen : l.length ≤ 1099511627776) (hby : bytes ≤ 120) (hbase : base ≤ w.heap.size) :
    ∃ v' w', (Builtin.append_ #[t, t] t #[v, .slice (some ⟨w.heap.size, 0, none⟩) 1 1]).run G (w.alloc (.cells cells T)) = .ok v' w' ∧ RowsOnS S P T k base w' v' (l ++ [x]) ∧
      (w.alloc (.cells cells T)).grownBy w' v.ownBlock ∧ (v'.ownBlock = v.ownBlock ∨ v'.ownBlock = some (w.alloc (.cells cells T)).heap.size) := by
  obtain ⟨rows, g1, g2, g3, g4⟩ := h
  have hseg : Seg (w.alloc (.cells cells T)) (.slice (some ⟨w.heap.size, 0, none⟩) 1 1) k 1 cells.toList := by
    refine ⟨by simp [hr], by omega, some ⟨w.heap.size, 0, none⟩, 1, rfl, Nat.le_refl _, by omega, by simp, fun j u hu => ⟨_, _, rfl, ?_⟩⟩
    rw [Nat.zero_add, cell_of_row _ _ _ cells T (0, 0) (heap_alloc_new w _)]
    simpa using hu
  have hb1 : (l.length + 1) * bytes ≤ 140737488355328 := Nat.le_trans (Nat.mul_le_mul_left _ hby) (by omega)
  obtain ⟨v', w', hrun, hO, hg, hat⟩ := seg_append (P := G) (w.alloc (.cells cells T)) base t t T z k bytes ht hinfo hzs hk v _ l.length 1 rows.flatten cells.toList
    (World.ownsRow.alloc g3 _) hseg h1 (by omega) hb1 (by simp; omega)
  refine ⟨v', w', hrun, ⟨rows ++ [cells.toList], by simp [g1], ?_, by simpa using hO, ?_⟩, hg, hat⟩
  · intro r hr'
    rcases List.mem_append.1 hr' with h | h
    · exact g2 r h
    · simp at h; subst h; simpa using hr
  · intro w2 hw2
    have hsz : w.heap.size + 1 ≤ w'.heap.size := by have := hg.size; simpa using this
    have hold : ∀ b, b < w.heap.size → v.ownBlock ≠ some b → S b → w2.heap[b]? = w.heap[b]? := by
      intro b hlt hne hc
      have hne' : v'.ownBlock ≠ some b := by
        rcases hat with e | e
        · rw [e]; exact hne
        · rw [e]; intro e2; simp at e2; omega
      exact ((hw2 b (by omega) hne' hc).trans (hg.block b (by simp; omega) (fun e => hne e.symm))).trans (Below.heap_alloc w _ b hlt)
    intro i r y hri hyi
    by_cases hil : i < l.length
    · rw [List.getElem?_append_left (by omega)] at hri
      rw [List.getElem?_append_left hil] at hyi
      exact g4 w2 hold i r y hri hyi
    · have hi : i = l.length := by
        have := (List.getElem?_eq_some_iff.1 hyi).1
        simp at this; omega
      subst hi
      rw [← g1, List.getElem?_concat_length] at hri
      rw [List.getElem?_concat_length] at hyi
      cases hri
      cases hyi
      exact hP w2 hold
theorem RowsOnS.step {α : Type} {P : World → List Value → α → Prop} {T : TypeId} {k base i : Nat} {S : Nat → Prop} {wr : World} {oa : Option Addr} {oc : Nat} {l : List α} (h : RowsOnS S P T k base wr (.slice oa i oc) l) (hk : 0 < k) (hbs : base ≤ wr.heap.size) (hil : l.length = i)
    {G : Program} (t : TypeId) (z : Value) (bytes : Nat) (ht : G.underlying t = some (.slice T)) (hinfo : (G.info? T).map (fun i => (i.zero, i.size, i.bytes)) = some (some z, k, bytes)) (hzs : z.cells.size = k)
    (cells : Array Value) (hr : cells.size = k) (h1 : ∀ u ∈ cells.toList, u.oneCell' = true) (x : α)
    (hP : ∀ w', (∀ b, b < wr.heap.size → (Value.slice oa i oc).ownBlock ≠ some b → S b → w'.heap[b]? = wr.heap[b]?) → P w' cells.toList x) (hlen : i ≤ 1099511627776) (hby : bytes ≤ 120) :
    ∃ a' c' w5, (Builtin.append_ #[t, t] t #[.slice oa i oc, .slice (some ⟨wr.heap.size, 0, none⟩) 1 1]).run G (wr.alloc (.cells cells T)) = .ok (.slice a' (i + 1) c') w5 ∧ RowsOnS S P T k base w5 (.slice a' (i + 1) c') (l ++ [x]) ∧
      Below base wr w5 ∧ (wr.alloc (.cells cells T)).grownBy w5 (Value.slice oa i oc).ownBlock ∧ ((Value.slice a' (i + 1) c').ownBlock = (Value.slice oa i oc).ownBlock ∨ (Value.slice a' (i + 1) c').ownBlock = some (wr.alloc (.cells cells T)).heap.size) := by
  have hB1 : Below base wr (wr.alloc (.cells cells T)) := (Below.refl _ _).alloc hbs _
  obtain ⟨v', w', hrun, hO, hg, hat⟩ := h.append hk t z bytes ht hinfo hzs cells hr h1 x hP (by omega) hby (by omega)
  obtain ⟨a', c', rfl⟩ := hO.form
  rw [List.length_append, List.length_singleton, hil] at *
  exact ⟨a', c', w', hrun, hO, hB1.grown hg (by have := hB1.size; omega) fun q e => (h.own q e).1, hg, hat⟩
end Go.Proofs.Ytphkmpnahnakaaa
