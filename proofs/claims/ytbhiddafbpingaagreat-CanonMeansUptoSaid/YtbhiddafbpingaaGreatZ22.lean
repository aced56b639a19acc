/- A slice of the call's own whose elements are several cells each, built by appending one element after the other. darninglaw14.Of, OfValue: a copy of any meaning, that reads the same in each world that agrees on what was there at the start and on what the call has laid. darninglaw14.Of: a copy of any meaning, for each depth (OfOk), and OfValue likewise. slices.IndexFunc and slices.ContainsFunc of words, strings, messages: firstAt, any. The function handed in tells p of each element and changes nothing that was there. -/
import Derived.Test.YtbhiddafbpingaaGreatZ09
import Derived.Test.YtbhiddafbpingaaGreatZ14
import Derived.Test.YtbhiddafbpingaaGreatZ17
import Derived.Test.YtbhiddafbpingaaGreatZ19
import Derived.Test.YtbhiddafbpingaaGreatZ20
import Derived.Test.YtbhiddafbpingaaGreatZ21
import Derived.Deep.RegionLaw
namespace Go.Proofs.YtbhiddafbpingaaGreat
open Go.RowKit
/-- P holds in each world that agrees with w on the blocks below n0 and on those from base on. -/
def Apart (n0 base : Nat) (w : World) (P : World → Prop) : Prop := ∀ w', (∀ b, b < w.heap.size → (b < n0 ∨ base ≤ b) → w'.heap[b]? = w.heap[b]?) → P w'
theorem Apart.here {n0 base : Nat} {w : World} {P : World → Prop} (h : Apart n0 base w P) : P w := h w fun _ _ _ => rfl
theorem Apart.later {n0 base : Nat} {w w2 : World} {P : World → Prop} (h : Apart n0 base w P) (hb : Below w.heap.size w w2) : Apart n0 base w2 P := fun w' hw' => h w' fun b hlt hc => (hw' b (Nat.lt_of_lt_of_le hlt hb.size) hc).trans (hb.block b hlt)
theorem Apart.mono {n0 base base' : Nat} {w : World} {P : World → Prop} (h : Apart n0 base w P) (hb : base' ≤ base) : Apart n0 base' w P := fun w' hw' => h w' fun b hlt hc => hw' b hlt (hc.imp id fun h => Nat.le_trans hb h)
def RowsOwn {α : Type} (P : World → List Value → α → Prop) (T : TypeId) (k n0 base : Nat) (w : World) (v : Value) (l : List α) : Prop :=
  ∃ rows : List (List Value), rows.length = l.length ∧ (∀ r ∈ rows, r.length = k) ∧ w.ownsRow base T k v l.length rows.flatten ∧
    ∀ w', (∀ b, b < w.heap.size → v.ownBlock ≠ some b → (b < n0 ∨ base ≤ b) → w'.heap[b]? = w.heap[b]?) → ∀ (i : Nat) (r : List Value) (x : α), rows[i]? = some r → l[i]? = some x → P w' r x
theorem RowsOwn.nil {α : Type} (P : World → List Value → α → Prop) (T : TypeId) (k n0 base : Nat) (w : World) : RowsOwn P T k n0 base w (.slice none 0 0) [] :=
  ⟨[], rfl, by simp, World.ownsRow_nil _ _ _ _, fun _ _ i r x h => by simp at h⟩
theorem RowsOwn.later {α : Type} {P : World → List Value → α → Prop} {T : TypeId} {k n0 base : Nat} {w w2 : World} {v : Value} {l : List α} (h : RowsOwn P T k n0 base w v l)
    (hw : ∀ b, b < w.heap.size → (b < n0 ∨ base ≤ b) → w2.heap[b]? = w.heap[b]?) (hs : w.heap.size ≤ w2.heap.size) : RowsOwn P T k n0 base w2 v l := by
  obtain ⟨rows, h1, h2, h3, h4⟩ := h
  refine ⟨rows, h1, h2, row_keep h3 fun b cur hb he => hw b (Array.getElem?_eq_some_iff.1 he).1 (.inr hb), fun w' hw' => h4 w' fun b hlt hne hc => (hw' b (by omega) hne hc).trans (hw b hlt hc)⟩
theorem RowsOwn.below {α : Type} {P : World → List Value → α → Prop} {T : TypeId} {k n0 base : Nat} {w w2 : World} {v : Value} {l : List α} (h : RowsOwn P T k n0 base w v l) (hb : Below w.heap.size w w2) : RowsOwn P T k n0 base w2 v l :=
  h.later (fun b hlt _ => hb.block b hlt) hb.size
theorem RowsOwn.form {α : Type} {P : World → List Value → α → Prop} {T : TypeId} {k n0 base : Nat} {w : World} {v : Value} {l : List α} (h : RowsOwn P T k n0 base w v l) : ∃ a c, v = .slice a l.length c := by
  obtain ⟨rows, -, -, h3, -⟩ := h
  rcases h3.2 with ⟨rfl, h0⟩ | ⟨g, cap, cur, rfl, _⟩
  · exact ⟨none, 0, by rw [h0]⟩
  · exact ⟨_, _, rfl⟩
theorem RowsOwn.at {α : Type} {P : World → List Value → α → Prop} {T : TypeId} {k n0 base : Nat} {w : World} {v : Value} {l : List α} (h : RowsOwn P T k n0 base w v l) (hl : l.length ≤ 140737488355328) {w' : World}
    (hw : ∀ b, b < w.heap.size → (b < n0 ∨ base ≤ b) → w'.heap[b]? = w.heap[b]?) : RowsAt P k w' v l := by
  obtain ⟨rows, h1, h2, h3, h4⟩ := h
  exact ⟨rows, h1, h2, row_seg (row_keep h3 fun b cur hb he => hw b (Array.getElem?_eq_some_iff.1 he).1 (.inr hb)) hl, fun i r x hr hx => h4 w' (fun b hlt _ hc => hw b hlt hc) i r x hr hx⟩
/-- one element more, laid in a block of its own (at w.heap.size) -/
theorem RowsOwn.append' {α : Type} {P : World → List Value → α → Prop} {T : TypeId} {k n0 base : Nat} {w : World} {v : Value} {l : List α} (h : RowsOwn P T k n0 base w v l) (hk : 0 < k)
    {G : Program} (t : TypeId) (z : Value) (bytes : Nat) (ht : G.underlying t = some (.slice T)) (hinfo : (G.info? T).map (fun i => (i.zero, i.size, i.bytes)) = some (some z, k, bytes)) (hzs : z.cells.size = k)
    (cells : Array Value) (hr : cells.size = k) (h1 : ∀ u ∈ cells.toList, u.oneCell' = true) (x : α)
    (hP : ∀ w', (∀ b, b < w.heap.size → v.ownBlock ≠ some b → (b < n0 ∨ base ≤ b) → w'.heap[b]? = w.heap[b]?) → P w' cells.toList x) (hlen : l.length ≤ 1099511627776) (hby : bytes ≤ 120) (hbase : base ≤ w.heap.size) :
    ∃ v' w', (Builtin.append_ #[t, t] t #[v, .slice (some ⟨w.heap.size, 0, none⟩) 1 1]).run G (w.alloc (.cells cells T)) = .ok v' w' ∧ RowsOwn P T k n0 base w' v' (l ++ [x]) ∧
      (w.alloc (.cells cells T)).grownBy w' v.ownBlock ∧ (v'.ownBlock = v.ownBlock ∨ v'.ownBlock = some (w.alloc (.cells cells T)).heap.size) := by
  obtain ⟨rows, g1, g2, g3, g4⟩ := h
  have hseg : Seg (w.alloc (.cells cells T)) (.slice (some ⟨w.heap.size, 0, none⟩) 1 1) k 1 cells.toList := by
    refine ⟨by simp [hr], by omega, some ⟨w.heap.size, 0, none⟩, 1, rfl, Nat.le_refl _, by omega, by simp, fun j u hu => ⟨_, _, rfl, ?_⟩⟩
    rw [Nat.zero_add, cell_of_row _ _ _ cells T (0, 0) (heap_alloc_new w _)]
    simpa using hu
  have hb1 : (l.length + 1) * bytes ≤ 140737488355328 := Nat.le_trans (Nat.mul_le_mul_left _ hby) (by omega)
  obtain ⟨v', w', hrun, hO, hg, hat⟩ := seg_append (P := G) (w.alloc (.cells cells T)) base t t T z k bytes ht hinfo hzs hk v _ l.length 1 rows.flatten cells.toList
    (World.ownsRow.alloc g3 _) hseg h1 (by omega) hb1 (by simp; omega)
  refine ⟨v', w', hrun, ⟨rows ++ [cells.toList], by simp [g1], ?_, by simpa using hO, ?_⟩, hg, hat⟩
  · intro r hr'
    rcases List.mem_append.1 hr' with h | h
    · exact g2 r h
    · simp at h; subst h; simpa using hr
  · intro w2 hw2
    have hsz : w.heap.size + 1 ≤ w'.heap.size := by have := hg.size; simpa using this
    have hold : ∀ b, b < w.heap.size → v.ownBlock ≠ some b → (b < n0 ∨ base ≤ b) → w2.heap[b]? = w.heap[b]? := by
      intro b hlt hne hc
      have hne' : v'.ownBlock ≠ some b := by
        rcases hat with e | e
        · rw [e]; exact hne
        · rw [e]; intro e2; simp at e2; omega
      exact ((hw2 b (by omega) hne' hc).trans (hg.block b (by simp; omega) (fun e => hne e.symm))).trans (Below.heap_alloc w _ b hlt)
    intro i r y hri hyi
    by_cases hil : i < l.length
    · rw [List.getElem?_append_left (by omega)] at hri
      rw [List.getElem?_append_left hil] at hyi
      exact g4 w2 hold i r y hri hyi
    · have hi : i = l.length := by
        have := (List.getElem?_eq_some_iff.1 hyi).1
        simp at this; omega
      subst hi
      rw [← g1, List.getElem?_concat_length] at hri
      rw [List.getElem?_concat_length] at hyi
      cases hri
      cases hyi
      exact hP w2 hold
/-- .. whose parts lie apart from the list -/
theorem RowsOwn.append {α : Type} {P : World → List Value → α → Prop} {T : TypeId} {k n0 base : Nat} {w : World} {v : Value} {l : List α} (h : RowsOwn P T k n0 base w v l) (hk : 0 < k) (hn0 : n0 ≤ base)
    {G : Program} (t : TypeId) (z : Value) (bytes : Nat) (ht : G.underlying t = some (.slice T)) (hinfo : (G.info? T).map (fun i => (i.zero, i.size, i.bytes)) = some (some z, k, bytes)) (hzs : z.cells.size = k)
    (cells : Array Value) (hr : cells.size = k) (h1 : ∀ u ∈ cells.toList, u.oneCell' = true) (x : α) (nb : Nat) (hnb : ∀ b, v.ownBlock = some b → b < nb) (hbn : base ≤ nb)
    (hP : Apart n0 nb w fun w' => P w' cells.toList x) (hlen : l.length ≤ 1099511627776) (hby : bytes ≤ 120) (hbase : base ≤ w.heap.size) :
    ∃ v' w', (Builtin.append_ #[t, t] t #[v, .slice (some ⟨w.heap.size, 0, none⟩) 1 1]).run G (w.alloc (.cells cells T)) = .ok v' w' ∧ RowsOwn P T k n0 base w' v' (l ++ [x]) ∧
      (w.alloc (.cells cells T)).grownBy w' v.ownBlock ∧ (v'.ownBlock = v.ownBlock ∨ v'.ownBlock = some (w.alloc (.cells cells T)).heap.size) := by
  have g3 := h
  obtain ⟨rows, -, -, g3, -⟩ := g3
  refine h.append' hk t z bytes ht hinfo hzs cells hr h1 x (fun w2 hold => hP w2 fun b hlt hc => hold b hlt ?_ (hc.imp id fun h => Nat.le_trans hbn h)) hlen hby hbase
  intro e
  have := hnb b e
  rcases hc with hc | hc
  · have hb2 : base ≤ b := by
      rcases g3.2 with ⟨rfl, _⟩ | ⟨g, cap, cur, rfl, hb, _⟩
      · simp [Value.ownBlock] at e
      · simp [Value.ownBlock] at e; omega
    omega
  · omega
theorem RowsOwn.own {α : Type} {P : World → List Value → α → Prop} {T : TypeId} {k n0 base : Nat} {w : World} {v : Value} {l : List α} (h : RowsOwn P T k n0 base w v l) (b : Nat) (e : v.ownBlock = some b) : base ≤ b ∧ b < w.heap.size := by
  obtain ⟨rows, -, -, h3, -⟩ := h
  rcases h3.2 with ⟨rfl, h0⟩ | ⟨g, cap, cur, rfl, hb, hg, _⟩
  · simp [Value.ownBlock] at e
  · simp [Value.ownBlock] at e
    subst e
    exact ⟨hb, (Array.getElem?_eq_some_iff.1 hg).1⟩
/-- a call that lays a new element, the element's block, the append -/
theorem RowsOwn.step {α : Type} {P : World → List Value → α → Prop} {T : TypeId} {k n0 base i : Nat} {wr w1 : World} {oa : Option Addr} {oc : Nat} {l : List α} (h : RowsOwn P T k n0 base wr (.slice oa i oc) l) (hb : Below wr.heap.size wr w1) (hk : 0 < k) (hn0 : n0 ≤ base) (hbs : base ≤ wr.heap.size) (hil : l.length = i)
    {G : Program} (t : TypeId) (z : Value) (bytes : Nat) (ht : G.underlying t = some (.slice T)) (hinfo : (G.info? T).map (fun i => (i.zero, i.size, i.bytes)) = some (some z, k, bytes)) (hzs : z.cells.size = k)
    (cells : Array Value) (hr : cells.size = k) (h1 : ∀ u ∈ cells.toList, u.oneCell' = true) (x : α) (hP : Apart n0 wr.heap.size w1 fun w' => P w' cells.toList x) (hlen : i ≤ 1099511627776) (hby : bytes ≤ 120) :
    ∃ a' c' w5, (Builtin.append_ #[t, t] t #[.slice oa i oc, .slice (some ⟨w1.heap.size, 0, none⟩) 1 1]).run G (w1.alloc (.cells cells T)) = .ok (.slice a' (i + 1) c') w5 ∧ RowsOwn P T k n0 base w5 (.slice a' (i + 1) c') (l ++ [x]) ∧
      Below base wr (w1.alloc (.cells cells T)) ∧ Below base wr w5 := by
  have hs := hb.size
  have hB1 : Below base wr (w1.alloc (.cells cells T)) := (hb.mono hbs).alloc (by omega) _
  obtain ⟨v', w', hrun, hO, hg, -⟩ := (h.below hb).append hk hn0 t z bytes ht hinfo hzs cells hr h1 x wr.heap.size (fun b e => (h.own b e).2) hbs hP (by omega) hby (by omega)
  obtain ⟨a', c', rfl⟩ := hO.form
  rw [List.length_append, List.length_singleton, hil] at *
  exact ⟨a', c', w', hrun, hO, hB1, hB1.grown hg (by have := hB1.size; omega) fun q e => (h.own q e).1⟩
end Go.Proofs.YtbhiddafbpingaaGreat
namespace Go.Proofs.YtbhiddafbpingaaGreat
open Go.RowKit Go.Shelf
def SubP (d : Nat) (w : World) (r : List Value) (x : M d) : Prop := MsgAt d w (.agg r.toArray) x
def ValP' (d : Nat) (w : World) (r : List Value) (x : Val (M d)) : Prop := ValAt (MsgAt d) w (.agg r.toArray) x
theorem info_rmsg : (Tryz.prog.info? 41).map (fun i => (i.zero, i.size, i.bytes)) = some (some (.agg #[.slice none 0 0, .slice none 0 0]), 2, 48) := by kernel_rfl
theorem news3 (w : World) (c1 c2 c3 : List Value) (T1 T2 T3 : TypeId) :
    Blk (((w.alloc (.cells c1.toArray T1)).alloc (.cells c2.toArray T2)).alloc (.cells c3.toArray T3)) w.heap.size c1 T1 ∧
    Blk (((w.alloc (.cells c1.toArray T1)).alloc (.cells c2.toArray T2)).alloc (.cells c3.toArray T3)) (w.heap.size + 1) c2 T2 ∧
    Blk (((w.alloc (.cells c1.toArray T1)).alloc (.cells c2.toArray T2)).alloc (.cells c3.toArray T3)) (w.heap.size + 1 + 1) c3 T3 ∧
    (((w.alloc (.cells c1.toArray T1)).alloc (.cells c2.toArray T2)).alloc (.cells c3.toArray T3)).heap.size = w.heap.size + 1 + 1 + 1 ∧
    Below w.heap.size w (((w.alloc (.cells c1.toArray T1)).alloc (.cells c2.toArray T2)).alloc (.cells c3.toArray T3)) := by
  have e : ∀ (w : World) (o : Obj), (w.alloc o).heap.size = w.heap.size + 1 := fun w o => by simp
  refine ⟨((Blk.new w c1 T1).alloc _).alloc _, ?_, ?_, by rw [e, e, e], (((Below.refl _ _).alloc (Nat.le_refl _) _).alloc (by rw [e]; omega) _).alloc (by rw [e, e]; omega) _⟩
  · have := (Blk.new (w.alloc (.cells c1.toArray T1)) c2 T2).alloc (.cells c3.toArray T3)
    rw [e] at this
    exact this
  · have := Blk.new ((w.alloc (.cells c1.toArray T1)).alloc (.cells c2.toArray T2)) c3 T3
    rw [e, e] at this
    exact this
theorem MsgAt.form : ∀ {d : Nat} {w : World} {v : Value} {x : M d}, MsgAt d w v x → ∃ a1 n1 c1 a2 n2 c2, v = .agg #[.slice a1 n1 c1, .slice a2 n2 c2]
  | 0, _, _, _, h => h.elim
  | d + 1, _, _, _, h => by
    obtain ⟨vv, uv, rfl, hV, hU⟩ := h
    obtain ⟨-, va, vc, rfl, -, -⟩ := hV.open
    obtain ⟨-, ua, uc, rfl, -, -⟩ := hU.open
    exact ⟨_, _, _, _, _, _, rfl⟩
end Go.Proofs.YtbhiddafbpingaaGreat
namespace Go.Proofs.YtbhiddafbpingaaGreat
open Go.RowKit Go.Shelf
theorem ValAt.form {d : Nat} {w : World} {v : Value} {x : Val (M d)} (h : ValAt (MsgAt d) w v x) : ∃ m a1 n1 c1 a2 n2 c2 a3 n3 c3, v = .agg #[.int .i64 m, .slice a1 n1 c1, .slice a2 n2 c2, .slice a3 n3 c3] := by
  obtain ⟨wv, tv, sv, rfl, -, hW, hT, hS⟩ := h
  obtain ⟨-, wa, wc, rfl, -, -⟩ := hW.open
  obtain ⟨-, ta, tc, rfl, -, -⟩ := hT.open
  obtain ⟨-, sa, sc, rfl, -, -⟩ := hS.open
  exact ⟨_, _, _, _, _, _, _, _, _, _, rfl⟩
end Go.Proofs.YtbhiddafbpingaaGreat
namespace Go.Proofs.YtbhiddafbpingaaGreat
open Go.RowKit
theorem firstAt_get {α : Type} (p : α → Bool) (l : List α) (k : Nat) (x : α) (h : l[k]? = some x) : firstAt p (l.drop k) k = if p x then (k : Int) else firstAt p (l.drop (k + 1)) (k + 1) := by
  obtain ⟨hk, rfl⟩ := List.getElem?_eq_some_iff.1 h
  rw [List.drop_eq_getElem_cons hk, firstAt]
theorem firstAt_any {α : Type} (p : α → Bool) : ∀ (l : List α) (i : Nat), decide (0 ≤ firstAt p l i) = l.any p
  | [], i => by simp [firstAt]
  | x :: r, i => by
    rw [firstAt, List.any_cons]
    cases h : p x with
    | true => rw [if_pos rfl]; simp
    | false => rw [if_neg (by decide), firstAt_any p r (i + 1)]; simp
set_option maxRecDepth 100000 in
set_option maxHeartbeats 4000000 in
theorem indexFunc_u64 {w : World} {v : Value} {l : List Nat} (h : WordsAt w v l) (F : Nat) (cap : Array Value) (p : Nat → Bool) (hcf : ∀ (args : Array Value) (w : World), (callFunc F args).run Tryz.prog w = .ok (.enter F args) w)
    (hcl : ∀ x ∈ l, ∀ (wr : World), x < 2 ^ 64 → Below w.heap.size w wr → Calls Tryz.prog F (#[.int .u64 x] ++ cap) wr fun e w' => e = .returned (.bool (p x)) ∧ Below wr.heap.size wr w') :
    Calls Tryz.prog 153 #[v, .func (.func F) #[] cap] w fun e w' => e = .returned (.int .i64 (firstAt p l 0)) ∧ Below w.heap.size w w' := by
  obtain ⟨hlen, a, c, rfl, -, hat⟩ := h.open
  obtain ⟨n, HN⟩ : ∃ n, Hid (n = l.length) := ⟨_, rfl⟩
  rw [← HN.out] at hlen ⊢
  have HAT := hid hat
  have HCL := hid hcl
  clear hat hcl
  go_enter Tryz.func153, Tryz.ntmps153
  go_wp2
  go_loopw [8] (fun v8 wr => ∃ k : Nat, k ≤ n ∧ v8 = .int .i64 k ∧ Hid (firstAt p (l.drop k) k = firstAt p l 0) ∧ Hid (Below w.heap.size w wr)) (fun v8 _ => n - (intOf v8).toNat)
  case atStart => exact ⟨0, by omega, rfl, hid rfl, Below.refl _ _⟩
  case round =>
    obtain ⟨k, hk, rfl, HK, HB⟩ := hrel
    by_cases hlt : k < n
    · have hat := HAT.out
      have hxi : l[k]? = some (l[k]'(by rw [← HN.out]; exact hlt)) := List.getElem?_eq_getElem _
      generalize l[k]'(by rw [← HN.out]; exact hlt) = x at hxi
      obtain ⟨hx64, b, o, ha, g0⟩ := hat k x hxi
      clear hat
      have HXX := hid hx64
      clear hx64
      have r0 := below_keeps HB.out _ _ g0
      have hU : wordV x = .int .u64 x := rfl
      rw [hU] at r0
      have hbl : b < wr.heap.size := World.block_lt_of_cell? wr _ r0
      have hix := index_run1 Tryz.underlying46 size_u64 ha k hlt (cap := c)
      clear g0 hU
      have hst := hid (firstAt_get p l k x hxi)
      have HMEM := hid (List.mem_of_getElem? hxi)
      clear ha hxi
      go_wp2_with fail
      have hcl := HCL.out
      refine (hcl x HMEM.out wr HXX.out HB.out).mono ?_
      rintro e w5 ⟨rfl, hb5⟩
      clear hcl
      have HB5 : Hid (Below w.heap.size w w5) := below_step HB.out hb5 HB.out.size
      clear hb5
      cases hp : p x with
      | true =>
        have e : firstAt p l 0 = k := by rw [← HK.out, hst.out, if_pos hp]
        have HE := hid e
        clear hp e
        go_wp2
        go_ret
        exact ⟨by rw [HE.out]; rfl, HB5.out⟩
      | false =>
        have e : firstAt p (l.drop (k + 1)) (k + 1) = firstAt p l 0 := by rw [← HK.out, hst.out, if_neg (by rw [hp]; decide)]
        have HE := hid e
        clear hp e
        go_wp2
        go_roundw
        case rel => exact ⟨k + 1, by omega, by go_num, HE.out, HB5.out⟩
        case measure => simp [intOf]; omega
    · go_wp2
      go_ret
      have e : firstAt p l 0 = -1 := by
        rw [← HK.out, List.drop_of_length_le (by rw [← HN.out]; omega)]; rfl
      exact ⟨by rw [e]; rfl, HB.out⟩
set_option maxRecDepth 100000 in
set_option maxHeartbeats 4000000 in
theorem containsFunc_u64 {w : World} {v : Value} {l : List Nat} (h : WordsAt w v l) (F : Nat) (cap : Array Value) (p : Nat → Bool) (hcf : ∀ (args : Array Value) (w : World), (callFunc F args).run Tryz.prog w = .ok (.enter F args) w)
    (hcl : ∀ x ∈ l, ∀ (wr : World), x < 2 ^ 64 → Below w.heap.size w wr → Calls Tryz.prog F (#[.int .u64 x] ++ cap) wr fun e w' => e = .returned (.bool (p x)) ∧ Below wr.heap.size wr w') :
    Calls Tryz.prog 128 #[v, .func (.func F) #[] cap] w fun e w' => e = .returned (.bool (l.any p)) ∧ Below w.heap.size w w' := by
  obtain ⟨x, HX⟩ : ∃ x, Hid (x = firstAt p l 0) := ⟨_, rfl⟩
  have HA : Hid (decide (0 ≤ x) = l.any p) := by rw [HX.out]; exact firstAt_any p l 0
  have HI := hid (indexFunc_u64 h F cap p hcf hcl)
  rw [← HX.out] at HI
  obtain ⟨hlen, a, c, rfl, -, -⟩ := h.open
  clear h hcl
  go_enter Tryz.func128, Tryz.ntmps128
  go_wp2_with fail
  refine HI.out.mono ?_
  rintro e w1 ⟨rfl, hb1⟩
  go_wp2_with fail
  go_ret
  exact ⟨ret1 (by rw [← HA.out]; first | rfl | (congr 1)), hb1⟩
set_option maxRecDepth 100000 in
set_option maxHeartbeats 4000000 in
theorem indexFunc_str {w : World} {v : Value} {l : List (List UInt8)} (h : StrsAt w v l) (F : Nat) (cap : Array Value) (p : (List UInt8) → Bool) (hcf : ∀ (args : Array Value) (w : World), (callFunc F args).run Tryz.prog w = .ok (.enter F args) w)
    (hcl : ∀ x ∈ l, ∀ (wr : World), x.length ≤ 140737488355328 → Below w.heap.size w wr → Calls Tryz.prog F (#[strV x] ++ cap) wr fun e w' => e = .returned (.bool (p x)) ∧ Below wr.heap.size wr w') :
    Calls Tryz.prog 135 #[v, .func (.func F) #[] cap] w fun e w' => e = .returned (.int .i64 (firstAt p l 0)) ∧ Below w.heap.size w w' := by
  obtain ⟨hlen, a, c, rfl, -, hat⟩ := h.open
  obtain ⟨n, HN⟩ : ∃ n, Hid (n = l.length) := ⟨_, rfl⟩
  rw [← HN.out] at hlen ⊢
  have HAT := hid hat
  have HCL := hid hcl
  clear hat hcl
  go_enter Tryz.func135, Tryz.ntmps135
  go_wp2
  go_loopw [8] (fun v8 wr => ∃ k : Nat, k ≤ n ∧ v8 = .int .i64 k ∧ Hid (firstAt p (l.drop k) k = firstAt p l 0) ∧ Hid (Below w.heap.size w wr)) (fun v8 _ => n - (intOf v8).toNat)
  case atStart => exact ⟨0, by omega, rfl, hid rfl, Below.refl _ _⟩
  case round =>
    obtain ⟨k, hk, rfl, HK, HB⟩ := hrel
    by_cases hlt : k < n
    · have hat := HAT.out
      have hxi : l[k]? = some (l[k]'(by rw [← HN.out]; exact hlt)) := List.getElem?_eq_getElem _
      generalize l[k]'(by rw [← HN.out]; exact hlt) = x at hxi
      obtain ⟨hx64, b, o, ha, g0⟩ := hat k x hxi
      clear hat
      have HXX := hid hx64
      clear hx64
      have r0 := below_keeps HB.out _ _ g0
      have hU : strV x = .string ⟨x.toArray⟩ := rfl
      rw [hU] at r0
      have hbl : b < wr.heap.size := World.block_lt_of_cell? wr _ r0
      have hix := index_run1 Tryz.underlying39 size_str ha k hlt (cap := c)
      clear g0 hU
      have hst := hid (firstAt_get p l k x hxi)
      have HMEM := hid (List.mem_of_getElem? hxi)
      clear ha hxi
      go_wp2_with fail
      have hcl := HCL.out
      refine (hcl x HMEM.out wr HXX.out HB.out).mono ?_
      rintro e w5 ⟨rfl, hb5⟩
      clear hcl
      have HB5 : Hid (Below w.heap.size w w5) := below_step HB.out hb5 HB.out.size
      clear hb5
      cases hp : p x with
      | true =>
        have e : firstAt p l 0 = k := by rw [← HK.out, hst.out, if_pos hp]
        have HE := hid e
        clear hp e
        go_wp2
        go_ret
        exact ⟨by rw [HE.out]; rfl, HB5.out⟩
      | false =>
        have e : firstAt p (l.drop (k + 1)) (k + 1) = firstAt p l 0 := by rw [← HK.out, hst.out, if_neg (by rw [hp]; decide)]
        have HE := hid e
        clear hp e
        go_wp2
        go_roundw
        case rel => exact ⟨k + 1, by omega, by go_num, HE.out, HB5.out⟩
        case measure => simp [intOf]; omega
    · go_wp2
      go_ret
      have e : firstAt p l 0 = -1 := by
        rw [← HK.out, List.drop_of_length_le (by rw [← HN.out]; omega)]; rfl
      exact ⟨by rw [e]; rfl, HB.out⟩
set_option maxRecDepth 100000 in
set_option maxHeartbeats 4000000 in
theorem containsFunc_str {w : World} {v : Value} {l : List (List UInt8)} (h : StrsAt w v l) (F : Nat) (cap : Array Value) (p : (List UInt8) → Bool) (hcf : ∀ (args : Array Value) (w : World), (callFunc F args).run Tryz.prog w = .ok (.enter F args) w)
    (hcl : ∀ x ∈ l, ∀ (wr : World), x.length ≤ 140737488355328 → Below w.heap.size w wr → Calls Tryz.prog F (#[strV x] ++ cap) wr fun e w' => e = .returned (.bool (p x)) ∧ Below wr.heap.size wr w') :
    Calls Tryz.prog 102 #[v, .func (.func F) #[] cap] w fun e w' => e = .returned (.bool (l.any p)) ∧ Below w.heap.size w w' := by
  obtain ⟨x, HX⟩ : ∃ x, Hid (x = firstAt p l 0) := ⟨_, rfl⟩
  have HA : Hid (decide (0 ≤ x) = l.any p) := by rw [HX.out]; exact firstAt_any p l 0
  have HI := hid (indexFunc_str h F cap p hcf hcl)
  rw [← HX.out] at HI
  obtain ⟨hlen, a, c, rfl, -, -⟩ := h.open
  clear h hcl
  go_enter Tryz.func102, Tryz.ntmps102
  go_wp2_with fail
  refine HI.out.mono ?_
  rintro e w1 ⟨rfl, hb1⟩
  go_wp2_with fail
  go_ret
  exact ⟨ret1 (by rw [← HA.out]; first | rfl | (congr 1)), hb1⟩
set_option maxRecDepth 100000 in
set_option maxHeartbeats 4000000 in
theorem indexFunc_msg {d : Nat} {w : World} {v : Value} {l : List (M d)} (h : SubsAt (MsgAt d) w v l) (F : Nat) (cap : Array Value) (p : (M d) → Bool) (hcf : ∀ (args : Array Value) (w : World), (callFunc F args).run Tryz.prog w = .ok (.enter F args) w)
    (hcl : ∀ x ∈ l, ∀ (mv : Value) (wr : World), MsgAt d w mv x → Below w.heap.size w wr → Calls Tryz.prog F (#[mv] ++ cap) wr fun e w' => e = .returned (.bool (p x)) ∧ Below wr.heap.size wr w') :
    Calls Tryz.prog 157 #[v, .func (.func F) #[] cap] w fun e w' => e = .returned (.int .i64 (firstAt p l 0)) ∧ Below w.heap.size w w' := by
  obtain ⟨hlen, a, c, rfl, -, hat⟩ := h.open
  obtain ⟨n, HN⟩ : ∃ n, Hid (n = l.length) := ⟨_, rfl⟩
  rw [← HN.out] at hlen ⊢
  have HAT := hid hat
  have HCL := hid hcl
  clear hat hcl
  go_enter Tryz.func157, Tryz.ntmps157
  go_wp2
  go_loopw [8] (fun v8 wr => ∃ k : Nat, k ≤ n ∧ v8 = .int .i64 k ∧ Hid (firstAt p (l.drop k) k = firstAt p l 0) ∧ Hid (Below w.heap.size w wr)) (fun v8 _ => n - (intOf v8).toNat)
  case atStart => exact ⟨0, by omega, rfl, hid rfl, Below.refl _ _⟩
  case round =>
    obtain ⟨k, hk, rfl, HK, HB⟩ := hrel
    by_cases hlt : k < n
    · have hat := HAT.out
      have hxi : l[k]? = some (l[k]'(by rw [← HN.out]; exact hlt)) := List.getElem?_eq_getElem _
      generalize l[k]'(by rw [← HN.out]; exact hlt) = x at hxi
      obtain ⟨b, o, v1, v2, ha, g0, g1, hM⟩ := hat k x hxi
      clear hat
      have HXX := hid hM
      clear hM
      have r0 := below_keeps HB.out _ _ g0
      have r1 := below_keeps HB.out _ _ g1
      have hbl : b < wr.heap.size := World.block_lt_of_cell? wr _ r0
      have hix := index_run Tryz.underlying107 size_msg ha k hlt (cap := c)
      clear g0 g1
      have hst := hid (firstAt_get p l k x hxi)
      have HMEM := hid (List.mem_of_getElem? hxi)
      clear ha hxi
      go_wp2_with fail
      have hcl := HCL.out
      refine (hcl x HMEM.out _ _ HXX.out HB.out).mono ?_
      rintro e w5 ⟨rfl, hb5⟩
      clear hcl
      have HB5 : Hid (Below w.heap.size w w5) := below_step HB.out hb5 HB.out.size
      clear hb5
      cases hp : p x with
      | true =>
        have e : firstAt p l 0 = k := by rw [← HK.out, hst.out, if_pos hp]
        have HE := hid e
        clear hp e
        go_wp2
        go_ret
        exact ⟨by rw [HE.out]; rfl, HB5.out⟩
      | false =>
        have e : firstAt p (l.drop (k + 1)) (k + 1) = firstAt p l 0 := by rw [← HK.out, hst.out, if_neg (by rw [hp]; decide)]
        have HE := hid e
        clear hp e
        go_wp2
        go_roundw
        case rel => exact ⟨k + 1, by omega, by go_num, HE.out, HB5.out⟩
        case measure => simp [intOf]; omega
    · go_wp2
      go_ret
      have e : firstAt p l 0 = -1 := by
        rw [← HK.out, List.drop_of_length_le (by rw [← HN.out]; omega)]; rfl
      exact ⟨by rw [e]; rfl, HB.out⟩
set_option maxRecDepth 100000 in
set_option maxHeartbeats 4000000 in
theorem containsFunc_msg {d : Nat} {w : World} {v : Value} {l : List (M d)} (h : SubsAt (MsgAt d) w v l) (F : Nat) (cap : Array Value) (p : (M d) → Bool) (hcf : ∀ (args : Array Value) (w : World), (callFunc F args).run Tryz.prog w = .ok (.enter F args) w)
    (hcl : ∀ x ∈ l, ∀ (mv : Value) (wr : World), MsgAt d w mv x → Below w.heap.size w wr → Calls Tryz.prog F (#[mv] ++ cap) wr fun e w' => e = .returned (.bool (p x)) ∧ Below wr.heap.size wr w') :
    Calls Tryz.prog 131 #[v, .func (.func F) #[] cap] w fun e w' => e = .returned (.bool (l.any p)) ∧ Below w.heap.size w w' := by
  obtain ⟨x, HX⟩ : ∃ x, Hid (x = firstAt p l 0) := ⟨_, rfl⟩
  have HA : Hid (decide (0 ≤ x) = l.any p) := by rw [HX.out]; exact firstAt_any p l 0
  have HI := hid (indexFunc_msg h F cap p hcf hcl)
  rw [← HX.out] at HI
  obtain ⟨hlen, a, c, rfl, -, -⟩ := h.open
  clear h hcl
  go_enter Tryz.func131, Tryz.ntmps131
  go_wp2_with fail
  refine HI.out.mono ?_
  rintro e w1 ⟨rfl, hb1⟩
  go_wp2_with fail
  go_ret
  exact ⟨ret1 (by rw [← HA.out]; first | rfl | (congr 1)), hb1⟩
end Go.Proofs.YtbhiddafbpingaaGreat
