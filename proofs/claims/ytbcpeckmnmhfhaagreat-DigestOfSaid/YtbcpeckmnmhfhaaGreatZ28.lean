/- Masks, in plain words: ways of numbers, their order, what a mask of ways is (the least ways that lie under no other one, in order), and that there is just one. Slices of ints: what they hold; slices.Equal, slices.Clone, slices.Compare of ints; darningref07.SameInts. No condition. -/
import Derived.Test.YtbcpeckmnmhfhaaGreatZ14
namespace Go.Proofs.YtbcpeckmnmhfhaaGreat
/-- does a way come first? -/
def ltW : List Int → List Int → Bool
  | [], [] => false
  | [], _ :: _ => true
  | _ :: _, [] => false
  | x :: a, y :: b => if x = y then ltW a b else decide (x < y)
theorem ltW_irrefl : ∀ a, ltW a a = false
  | [] => rfl
  | x :: a => by simp [ltW, ltW_irrefl a]
theorem ltW_trans : ∀ a b c, ltW a b = true → ltW b c = true → ltW a c = true
  | [], b, [] => by cases b <;> simp [ltW]
  | [], _, _ :: _ => by simp [ltW]
  | _ :: _, [], _ => by simp [ltW]
  | _ :: _, _ :: _, [] => by simp [ltW]
  | x :: a, y :: b, z :: c => by
    have ih := ltW_trans a b c
    simp only [ltW]
    by_cases h1 : x = y
    · subst h1
      by_cases h2 : x = z
      · subst h2; simpa using ih
      · simp only [if_true, if_neg h2, decide_eq_true_eq]; intro _ h; exact h
    · by_cases h2 : y = z
      · subst h2
        simp only [if_true, if_neg h1, decide_eq_true_eq]
        intro h _; exact h
      · by_cases h3 : x = z
        · subst h3
          simp only [if_neg h1, if_neg h2, decide_eq_true_eq]
          intro h h'; omega
        · simp only [if_neg h1, if_neg h2, if_neg h3, decide_eq_true_eq]
          intro h h'; omega
/-- begins a way with another one? -/
def beginsW (way pre : List Int) : Bool := decide (pre.length ≤ way.length) && decide (way.take pre.length = pre)
theorem beginsW_iff (way pre : List Int) : beginsW way pre = true ↔ pre <+: way := by
  unfold beginsW
  rw [List.prefix_iff_eq_take]
  simp only [Bool.and_eq_true, decide_eq_true_eq]
  constructor
  · rintro ⟨_, h⟩; exact h.symm
  · intro h
    refine ⟨?_, h.symm⟩
    have h2 := congrArg List.length h
    simp at h2
    omega
/-- of ways, the ones that lie under no other one -/
def Least (l : List (List Int)) (w : List Int) : Prop := w ∈ l ∧ w ≠ [] ∧ ∀ u ∈ l, u ≠ [] → u <+: w → u = w
/-- a mask of ways -/
def IsMask (l o : List (List Int)) : Prop := o.Pairwise (fun a b => ltW a b = true) ∧ ∀ w, w ∈ o ↔ Least l w
theorem sorted_same : ∀ {a b : List (List Int)}, a.Pairwise (fun a b => ltW a b = true) → b.Pairwise (fun a b => ltW a b = true) → (∀ w, w ∈ a ↔ w ∈ b) → a = b
  | [], [], _, _, _ => rfl
  | [], y :: b, _, _, h => absurd ((h y).2 (by simp)) (by simp)
  | x :: a, [], _, _, h => absurd ((h x).1 (by simp)) (by simp)
  | x :: a, y :: b, ha, hb, h => by
    rw [List.pairwise_cons] at ha hb
    have hxy : x = y := by
      have h1 := (h x).1 (by simp)
      have h2 := (h y).2 (by simp)
      rcases List.mem_cons.1 h1 with e | h1
      · exact e
      rcases List.mem_cons.1 h2 with e | h2
      · exact e.symm
      have h3 := ltW_trans _ _ _ (ha.1 y h2) (hb.1 x h1)
      rw [ltW_irrefl] at h3
      cases h3
    subst hxy
    have hab : ∀ w, w ∈ a ↔ w ∈ b := fun w => by
      constructor
      · intro hw
        rcases List.mem_cons.1 ((h w).1 (by simp [hw])) with e | hb'
        · subst e
          have := ha.1 w hw
          rw [ltW_irrefl] at this; cases this
        · exact hb'
      · intro hw
        rcases List.mem_cons.1 ((h w).2 (by simp [hw])) with e | hb'
        · subst e
          have := hb.1 w hw
          rw [ltW_irrefl] at this; cases this
        · exact hb'
    rw [sorted_same ha.2 hb.2 hab]
theorem IsMask.one {l a b : List (List Int)} (ha : IsMask l a) (hb : IsMask l b) : a = b :=
  sorted_same ha.1 hb.1 fun w => (ha.2 w).trans (hb.2 w).symm
/-- is a way one of ways, or under one? -/
def hasW (l : List (List Int)) (w : List Int) : Bool := l.any fun u => decide (0 < u.length) && beginsW w u
theorem hasW_iff (l : List (List Int)) (w : List Int) : hasW l w = true ↔ ∃ u ∈ l, u ≠ [] ∧ u <+: w := by
  unfold hasW
  simp only [List.any_eq_true, Bool.and_eq_true, decide_eq_true_eq, beginsW_iff]
  constructor
  · rintro ⟨u, h1, h2, h3⟩; exact ⟨u, h1, fun e => by subst e; simp at h2, h3⟩
  · rintro ⟨u, h1, h2, h3⟩; exact ⟨u, h1, List.length_pos_iff.2 h2, h3⟩
/-- each way has a least one that begins it -/
theorem least_of (l : List (List Int)) : ∀ (n : Nat) (u : List Int), u.length ≤ n → u ∈ l → u ≠ [] → ∃ v, Least l v ∧ v <+: u
  | 0, u, h, _, hn => absurd (List.length_eq_zero_iff.1 (by omega)) hn
  | n + 1, u, h, hu, hn => by
    by_cases hx : ∃ v ∈ l, v ≠ [] ∧ v <+: u ∧ v ≠ u
    · obtain ⟨v, hv, hvn, hp, hne⟩ := hx
      have hlt : v.length < u.length := by
        have := hp.length_le
        rcases Nat.lt_or_ge v.length u.length with h | h
        · exact h
        · exact absurd (hp.eq_of_length_le h) hne
      obtain ⟨t, ht, htp⟩ := least_of l n v (by omega) hv hvn
      exact ⟨t, ht, htp.trans hp⟩
    · refine ⟨u, ⟨hu, hn, fun v hv hvn hp => ?_⟩, List.prefix_refl u⟩
      exact Classical.byContradiction fun hne => hx ⟨v, hv, hvn, hp, hne⟩
theorem IsMask.has {l o : List (List Int)} (h : IsMask l o) (w : List Int) : hasW o w = hasW l w := by
  rw [Bool.eq_iff_iff, hasW_iff, hasW_iff]
  constructor
  · rintro ⟨u, hu, hn, hp⟩; exact ⟨u, ((h.2 u).1 hu).1, hn, hp⟩
  · rintro ⟨u, hu, hn, hp⟩
    obtain ⟨v, hv, hvp⟩ := least_of l u.length u (Nat.le_refl _) hu hn
    exact ⟨v, (h.2 v).2 hv, hv.2.1, hvp.trans hp⟩
end Go.Proofs.YtbcpeckmnmhfhaaGreat
namespace Go.Proofs.YtbcpeckmnmhfhaaGreat
open Go.RowKit
def intV (x : Int) : Value := .int .i64 x
def i64ok (x : Int) : Prop := -9223372036854775808 ≤ x ∧ x ≤ 9223372036854775807
/-- A []int. -/
def IntsAt (w : World) (v : Value) (l : List Int) : Prop := Seg w v 1 l.length (l.map intV) ∧ ∀ x ∈ l, i64ok x
theorem IntsAt.keep {w w' : World} {v : Value} {l : List Int} (h : IntsAt w v l) (hk : ∀ p u, w.cell? p = some u → w'.cell? p = some u) : IntsAt w' v l := ⟨h.1.keep hk, h.2⟩
theorem IntsAt.below {w w' : World} {v : Value} {l : List Int} (h : IntsAt w v l) (hb : Below w.heap.size w w') : IntsAt w' v l := h.keep (below_keeps hb)
theorem IntsAt.open {w : World} {v : Value} {l : List Int} (h : IntsAt w v l) :
    l.length ≤ 140737488355328 ∧ ∃ a cap, v = .slice a l.length cap ∧ (a = none → cap = 0) ∧ ∀ k x, l[k]? = some x → i64ok x ∧ ∃ b o, a = some ⟨b, o, none⟩ ∧ w.cell? ⟨b, o + k, none⟩ = some (.int .i64 x) := by
  obtain ⟨⟨_, h2, a, cap, hv, h3, h4, h5, h6⟩, hl⟩ := h
  refine ⟨h2, a, cap, hv, h5, fun k t hk => ⟨hl _ (List.mem_of_getElem? hk), h6 k _ ?_⟩⟩
  simp [hk, intV]
theorem size_int (w : World) : (sizeOf 3).run Tryz.prog w = .ok 1 w := by kernel_rfl
theorem under_ints : Tryz.prog.underlying 45 = some (.slice 3) := Tryz.underlying45
theorem info_int : (Tryz.prog.info? 3).map (fun i => (i.zero, i.size, i.bytes)) = some (some (.int .i64 0), 1, 8) := by kernel_rfl
/-- A []int of the call's own. -/
def IntsOwn (w : World) (base : Nat) (v : Value) (l : List Int) : Prop := w.ownsRow base 3 1 v l.length (l.map intV)
theorem IntsOwn.ints {w : World} {base : Nat} {v : Value} {l : List Int} (h : IntsOwn w base v l) (hn : l.length ≤ 140737488355328) (hl : ∀ x ∈ l, i64ok x) : IntsAt w v l := ⟨row_seg h hn, hl⟩
theorem IntsOwn.later {w w' : World} {base : Nat} {v : Value} {l : List Int} (h : IntsOwn w base v l) (hb : Below w.heap.size w w') : IntsOwn w' base v l :=
  World.ownsRow.kept (row := none) h (below_grown hb none) (by cases hv : v.ownBlock with | none => exact .inl rfl | some k => exact .inr (by simp))
theorem IntsOwn.form {w : World} {base : Nat} {v : Value} {l : List Int} (h : IntsOwn w base v l) : ∃ a c, v = .slice a l.length c := by
  rcases h.2 with ⟨h1, h2⟩ | ⟨g, cap, cur, hv, -⟩
  · exact ⟨none, 0, by rw [h1, h2]⟩
  · exact ⟨_, _, hv⟩
theorem ints_append {w : World} {base : Nat} {v x : Value} {l m : List Int} (h : IntsOwn w base v l) (hx : IntsAt w x m) (hlen : l.length + m.length ≤ 17592186044416) (hbase : base ≤ w.heap.size) :
    ∃ v' w', (Builtin.append_ #[45, 45] 45 #[v, x]).run Tryz.prog w = .ok v' w' ∧ IntsOwn w' base v' (l ++ m) ∧ w.grownBy w' v.ownBlock ∧ (v'.ownBlock = v.ownBlock ∨ v'.ownBlock = some w.heap.size) := by
  obtain ⟨v', w', hr, hO, hg, hat⟩ := seg_append (P := Tryz.prog) w base 45 45 3 (.int .i64 0) 1 8 under_ints info_int rfl (by decide) v x l.length m.length _ _ h hx.1
    (by intro u hu; obtain ⟨c, -, rfl⟩ := List.mem_map.1 hu; rfl) (by omega) (by omega) hbase
  refine ⟨v', w', hr, ?_, hg, hat⟩
  unfold IntsOwn
  rw [List.length_append, List.map_append]
  exact hO
/-! Two lists, from a place on -/
theorem drop_at {α : Type} {l : List α} {i : Nat} {x : α} (h : l[i]? = some x) : l.drop i = x :: l.drop (i + 1) := by
  obtain ⟨hl, e⟩ := List.getElem?_eq_some_iff.1 h
  rw [List.drop_eq_getElem_cons hl, e]
set_option maxRecDepth 100000 in
set_option maxHeartbeats 4000000 in
theorem cmp_Compare_int (x y : Int) (w : World) :
    Calls Tryz.prog 78 #[.int .i64 x, .int .i64 y] w fun e w' => e = .returned (.int .i64 (if x < y then -1 else if y < x then 1 else 0)) ∧ w = w' := by
  by_cases h1 : x < y
  · rw [if_pos h1]
    have e2 : ¬ y < x := by omega
    go_enter Tryz.func78, Tryz.ntmps78
    go_wp2
    go_ret
    exact ⟨rfl, rfl⟩
  · rw [if_neg h1]
    by_cases h2 : y < x
    · rw [if_pos h2]
      go_enter Tryz.func78, Tryz.ntmps78
      go_wp2
      go_ret
      exact ⟨rfl, rfl⟩
    · rw [if_neg h2]
      go_enter Tryz.func78, Tryz.ntmps78
      go_wp2
      go_ret
      exact ⟨rfl, rfl⟩
/-- the first so many -/
theorem IntsAt.h {w : World} {a : Option Addr} {n cap : Nat} {l : List Int} (h : IntsAt w (.slice a n cap) l) (hn : n = l.length) (j : Nat) (hj : j ≤ n) :
    ∃ a' cap', (∀ W, (Instr.slice 45 (.slice a n cap) none (some (.int .i64 (j : Int))) none).run Tryz.prog W = .ok (.slice a' j cap') W) ∧ IntsAt w (.slice a' j cap') (l.take j) := by
  subst hn
  have hcap : l.length ≤ cap := by obtain ⟨⟨_, _, a', cap', hv, h3, _⟩, -⟩ := h; cases hv; exact h3
  have hr := fun W => slice_h_run (P := Tryz.prog) under_ints size_int a l.length cap j (by omega) W
  have hs := Seg.sub h.1 0 j (by omega) hj
  unfold sliced at hr hs
  refine ⟨_, _, hr, ⟨?_, fun x hx => h.2 x (List.mem_of_mem_take hx)⟩⟩
  rw [List.length_take, Nat.min_eq_left (by omega), List.map_take]
  simpa using hs
/-- what is behind the first so many -/
theorem IntsAt.l {w : World} {a : Option Addr} {n cap : Nat} {l : List Int} (h : IntsAt w (.slice a n cap) l) (hn : n = l.length) (i : Nat) (hi : i ≤ n) :
    ∃ a' cap', (∀ W, (Instr.slice 45 (.slice a n cap) (some (.int .i64 (i : Int))) none none).run Tryz.prog W = .ok (.slice a' (n - i) cap') W) ∧ IntsAt w (.slice a' (n - i) cap') (l.drop i) := by
  subst hn
  have hr := fun W => slice_l_run (P := Tryz.prog) under_ints size_int a l.length cap i (by omega) W
  have hs := Seg.sub h.1 i l.length hi (Nat.le_refl _)
  unfold sliced at hr hs
  refine ⟨_, _, hr, ⟨?_, fun x hx => h.2 x (List.mem_of_mem_drop hx)⟩⟩
  rw [List.length_drop, List.map_drop]
  rw [List.take_of_length_le (by simp)] at hs
  simpa using hs
/-- append of one number, laid in a block of its own -/
theorem wpList_append_int {w W : World} {ops : Array Oper} {rest : List Oper} {o : Oper} {a : Act} {Q : Exit → Act → World → Prop} (hgd : o.guard = none) (s x : Operand)
    (ho : o.op = .call { callee := .builtin .append, args := #[s, x], argTypes := #[45, 45] }) (hty : o.type = 45) (v : Value) (y : Int) (q : Nat) (hs : a.eval s = v) (hx : a.eval x = .slice (some ⟨q, 0, none⟩) 1 1) (hw : w = W.alloc (.cells #[.int .i64 y] 3)) (hq : q = W.heap.size)
    (base : Nat) (l : List Int) (hown : IntsOwn W base v l) (hy : i64ok y) (hl : l.length ≤ 1099511627776) (hb : base ≤ W.heap.size)
    (h : ∀ a' c' w', IntsOwn w' base (.slice a' (l.length + 1) c') (l ++ [y]) → (∀ w0 : World, Below base w0 W → Below base w0 w') → (∀ b, b < W.heap.size → v.ownBlock ≠ some b → w'.heap[b]? = W.heap[b]?) → wpList Tryz.prog ops Q rest (a.put o.dst (.slice a' (l.length + 1) c')) w') : wpList Tryz.prog ops Q (o :: rest) a w := by
  subst hw
  subst hq
  have hA : Below W.heap.size W (W.alloc (.cells #[.int .i64 y] 3)) := (Below.refl _ _).alloc (Nat.le_refl _) _
  have hI : IntsAt (W.alloc (.cells #[.int .i64 y] 3)) (.slice (some ⟨W.heap.size, 0, none⟩) 1 1) [y] := by
    refine ⟨⟨rfl, by simp, _, _, rfl, Nat.le_refl _, by simp, by simp, fun j u hu => ⟨_, _, rfl, ?_⟩⟩, by simpa using hy⟩
    rw [Nat.zero_add, cell_of_row _ _ _ #[.int .i64 y] _ (0, 0) (heap_alloc_new W _)]
    simpa [intV] using hu
  obtain ⟨v', w', hr, hO, hg, -⟩ := ints_append (hown.later hA) hI (by simp; omega) (by simp; omega)
  obtain ⟨a', c', e⟩ := hO.form
  rw [List.length_append] at e
  have e' : v' = .slice a' (l.length + 1) c' := e
  subst e'
  refine wpList_append_eq hgd s x 45 ho v _ hs hx (by rw [hty]; exact hr) (h a' c' w' hO (fun w0 hb0 => ?_) fun b hb2 hne => (hg.block b (by simp; omega) (fun e => hne e.symm)).trans (Below.heap_alloc W _ b hb2))
  exact (hb0.alloc hb _).grown hg (by have := hb0.size; simp; omega) (fun q e => (World.ownsRow.lt hown q e).1)
end Go.Proofs.YtbcpeckmnmhfhaaGreat
