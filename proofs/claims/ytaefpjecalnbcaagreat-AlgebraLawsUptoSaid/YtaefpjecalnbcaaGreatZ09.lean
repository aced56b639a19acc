/- Slices of ints: what they hold; slices.Equal, slices.Clone, slices.Compare of ints; darningref07.SameInts. No condition. slices.Sorted(maps.Keys(m)) of a map of the call's own, by ints. At most 2^30 entries. Meanings: values of fields and messages, as data (M d: messages in which others lie at most d deep), and how they lie in memory. No condition. A world that differs from another one in one block alone, and in what is new. No condition. -/
import Derived.Test.YtaefpjecalnbcaaGreatShelf
import Derived.Test.YtaefpjecalnbcaaGreatZ01
import Derived.Test.YtaefpjecalnbcaaGreatZ03
import Derived.Test.YtaefpjecalnbcaaGreatZ07
import Derived.Test.YtaefpjecalnbcaaGreatZ08
import Derived.Shelf.SlIterI.Nil
import Derived.Shelf.SortM.Plain
import Derived.Shelf.SortM.SortNone
namespace Go.Proofs.YtaefpjecalnbcaaGreat
open Go.RowKit
def intV (x : Int) : Value := .int .i64 x
def i64ok (x : Int) : Prop := -9223372036854775808 ≤ x ∧ x ≤ 9223372036854775807
/-- A []int. -/
def IntsAt (w : World) (v : Value) (l : List Int) : Prop := Seg w v 1 l.length (l.map intV) ∧ ∀ x ∈ l, i64ok x
theorem IntsAt.keep {w w' : World} {v : Value} {l : List Int} (h : IntsAt w v l) (hk : ∀ p u, w.cell? p = some u → w'.cell? p = some u) : IntsAt w' v l := ⟨h.1.keep hk, h.2⟩
theorem IntsAt.below {w w' : World} {v : Value} {l : List Int} (h : IntsAt w v l) (hb : Below w.heap.size w w') : IntsAt w' v l := h.keep (below_keeps hb)
theorem IntsAt.open {w : World} {v : Value} {l : List Int} (h : IntsAt w v l) :
    l.length ≤ 140737488355328 ∧ ∃ a cap, v = .slice a l.length cap ∧ (a = none → cap = 0) ∧ ∀ k x, l[k]? = some x → i64ok x ∧ ∃ b o, a = some ⟨b, o, none⟩ ∧ w.cell? ⟨b, o + k, none⟩ = some (.int .i64 x) := by
  obtain ⟨⟨_, h2, a, cap, hv, h3, h4, h5, h6⟩, hl⟩ := h
  refine ⟨h2, a, cap, hv, h5, fun k t hk => ⟨hl _ (List.mem_of_getElem? hk), h6 k _ ?_⟩⟩
  simp [hk, intV]
theorem size_int (w : World) : (sizeOf 3).run Tryz.prog w = .ok 1 w := by kernel_rfl
theorem under_ints : Tryz.prog.underlying 68 = some (.slice 3) := Tryz.underlying68
theorem info_int : (Tryz.prog.info? 3).map (fun i => (i.zero, i.size, i.bytes)) = some (some (.int .i64 0), 1, 8) := by kernel_rfl
/-- A []int of the call's own. -/
def IntsOwn (w : World) (base : Nat) (v : Value) (l : List Int) : Prop := w.ownsRow base 3 1 v l.length (l.map intV)
theorem IntsOwn.ints {w : World} {base : Nat} {v : Value} {l : List Int} (h : IntsOwn w base v l) (hn : l.length ≤ 140737488355328) (hl : ∀ x ∈ l, i64ok x) : IntsAt w v l := ⟨row_seg h hn, hl⟩
theorem IntsOwn.later {w w' : World} {base : Nat} {v : Value} {l : List Int} (h : IntsOwn w base v l) (hb : Below w.heap.size w w') : IntsOwn w' base v l :=
  World.ownsRow.kept (row := none) h (below_grown hb none) (by cases hv : v.ownBlock with | none => exact .inl rfl | some k => exact .inr (by simp))
theorem IntsOwn.form {w : World} {base : Nat} {v : Value} {l : List Int} (h : IntsOwn w base v l) : ∃ a c, v = .slice a l.length c := by
  rcases h.2 with ⟨h1, h2⟩ | ⟨g, cap, cur, hv, -⟩
  · exact ⟨none, 0, by rw [h1, h2]⟩
  · exact ⟨_, _, hv⟩
theorem ints_append {w : World} {base : Nat} {v x : Value} {l m : List Int} (h : IntsOwn w base v l) (hx : IntsAt w x m) (hlen : l.length + m.length ≤ 17592186044416) (hbase : base ≤ w.heap.size) :
    ∃ v' w', (Builtin.append_ #[68, 68] 68 #[v, x]).run Tryz.prog w = .ok v' w' ∧ IntsOwn w' base v' (l ++ m) ∧ w.grownBy w' v.ownBlock ∧ (v'.ownBlock = v.ownBlock ∨ v'.ownBlock = some w.heap.size) := by
  obtain ⟨v', w', hr, hO, hg, hat⟩ := seg_append (P := Tryz.prog) w base 68 68 3 (.int .i64 0) 1 8 under_ints info_int rfl (by decide) v x l.length m.length _ _ h hx.1
    (by intro u hu; obtain ⟨c, -, rfl⟩ := List.mem_map.1 hu; rfl) (by omega) (by omega) hbase
  refine ⟨v', w', hr, ?_, hg, hat⟩
  unfold IntsOwn
  rw [List.length_append, List.map_append]
  exact hO
set_option maxRecDepth 100000 in
set_option maxHeartbeats 4000000 in
theorem clone_ints {w : World} {v : Value} {l : List Int} (h : IntsAt w v l) (hl : l.length ≤ 17592186044416) :
    Calls Tryz.prog 51 #[v] w fun e w' => ∃ v', e = .returned v' ∧ IntsOwn w' w.heap.size v' l ∧ Below w.heap.size w w' := by
  have H := hid h
  obtain ⟨hlen, a, cap, rfl, hnil, -⟩ := h.open
  obtain ⟨n, HN⟩ : ∃ n, Hid (n = l.length) := ⟨_, rfl⟩
  rw [← HN.out] at hlen H hl ⊢
  clear h
  cases a with
  | none =>
    have := hnil rfl
    have HE : Hid (l = []) := List.eq_nil_of_length_eq_zero (by have := HN.out; obtain ⟨-, -, a', c', e, h1, -⟩ := H.out.1; cases e; omega)
    clear hlen hl
    go_enter Tryz.func51, Tryz.ntmps51
    have eqn := fun W a n c n' c' => Lib.run_eql_slice_nil (P := Tryz.prog) W 68 _ a n c n' c' under_ints
    go_wp2
    go_ret
    refine ⟨_, rfl, ?_, Below.refl _ _⟩
    rw [HE.out]
    exact World.ownsRow_nil _ _ _ _
  | some ad =>
    have hO : IntsOwn (w.alloc (.cells #[] 3)) w.heap.size (.slice (some ⟨w.heap.size, 0, none⟩) 0 0) [] := by
      exact World.ownsRow_made (base := w.heap.size) (e := 3) (size := 1) w #[] 0 (Nat.le_refl _) (by unfold maxLen; omega) rfl
    obtain ⟨v', w', hr, hO', hg, -⟩ := ints_append hO (H.out.below ((Below.refl _ _).alloc (Nat.le_refl _) _)) (by rw [← HN.out]; simp; omega) (by simp)
    have hg' : Below w.heap.size w w' := ((Below.refl w.heap.size w).alloc (Nat.le_refl _) (.cells #[] 3)).grown hg (by simp) (by intro q e; simp [Value.ownBlock] at e; omega)
    have HO := hid hO'
    have HG := hid hg'
    clear hO' hg' hg hO
    go_enter Tryz.func51, Tryz.ntmps51
    have eqn := fun W a n c n' c' => Lib.run_eql_slice_nil (P := Tryz.prog) W 68 _ a n c n' c' under_ints
    go_wp2_with (at_builtin; refine wpList_append_eq rfl _ _ _ rfl _ _ rfl rfl hr ?_)
    go_ret
    exact ⟨_, rfl, HO.out, HG.out⟩
/-! Two lists, from a place on -/
theorem drop_at {α : Type} {l : List α} {i : Nat} {x : α} (h : l[i]? = some x) : l.drop i = x :: l.drop (i + 1) := by
  obtain ⟨hl, e⟩ := List.getElem?_eq_some_iff.1 h
  rw [List.drop_eq_getElem_cons hl, e]
theorem int_get {l : List Int} {n i : Nat} (hn : n = l.length) (h : i < n) : ∃ x, l[i]? = some x := ⟨_, List.getElem?_eq_getElem (by omega)⟩
/-- the walk of two slices side by side, while they are the same: Equal, SameInts -/
theorem same_at {l m : List Int} {i : Nat} {x y : Int} (hx : l[i]? = some x) (hy : m[i]? = some y) : (l.drop i = m.drop i) ↔ x = y ∧ l.drop (i + 1) = m.drop (i + 1) := by
  rw [drop_at hx, drop_at hy, List.cons.injEq]
set_option maxRecDepth 100000 in
set_option maxHeartbeats 4000000 in
theorem equal_ints {w : World} {v u : Value} {l m : List Int} (h : IntsAt w v l) (hu : IntsAt w u m) :
    Calls Tryz.prog 77 #[v, u] w fun e w' => e = .returned (.bool (decide (l = m))) ∧ Drew w w' := by
  obtain ⟨hl, a, c, rfl, -, hat⟩ := h.open
  obtain ⟨hm, a2, c2, rfl, -, hbt⟩ := hu.open
  obtain ⟨n, HN⟩ : ∃ n, Hid (n = l.length) := ⟨_, rfl⟩
  obtain ⟨n2, HN2⟩ : ∃ n, Hid (n = m.length) := ⟨_, rfl⟩
  rw [← HN.out] at hl ⊢
  rw [← HN2.out] at hm ⊢
  obtain ⟨z, HZ⟩ : ∃ z, Hid (z = decide (l = m)) := ⟨_, rfl⟩
  rw [← HZ.out]
  have HAT := hid hat
  have HBT := hid hbt
  clear hat hbt h hu
  by_cases hnn : n = n2
  · subst hnn
    go_enter Tryz.func77, Tryz.ntmps77
    go_wp2_with fail
    go_loopw [13] (fun v5 wr => ∃ i : Nat, v5 = .int .i64 i ∧ i ≤ n ∧ Hid (z = decide (l.drop i = m.drop i)) ∧ (∃ k, wr = w.drewN k)) (fun v5 _ => n - (intOf v5).toNat)
    case atStart => exact ⟨0, rfl, by omega, by rw [Hid, HZ.out]; simp, 0, rfl⟩
    case round =>
      obtain ⟨i, rfl, hi, HI, kw, rfl⟩ := hrel
      by_cases h1 : i < n
      · obtain ⟨x, hxi⟩ := int_get HN.out h1
        obtain ⟨y, hyi⟩ := int_get HN2.out h1
        obtain ⟨hx64, b, o, ha, g0⟩ := HAT.out i x hxi
        obtain ⟨hy64, b2, o2, ha2, g2⟩ := HBT.out i y hyi
        have HC := hid (same_at hxi hyi)
        have hix := index_run1 Tryz.underlying68 size_int ha i h1 (cap := c)
        have hix2 := index_run1 Tryz.underlying68 size_int ha2 i h1 (cap := c2)
        clear hxi hyi ha ha2
        by_cases hxy : x = y
        · have HC1 : Hid (z = decide (l.drop (i + 1) = m.drop (i + 1))) := by
            rw [Hid, HI.out, decide_eq_decide, HC.out]; simp [hxy]
          have hb1 : (x != y) = false := by simpa using hxy
          have hb2 : (x == y) = true := by simpa using hxy
          have HXY := hid hxy
          clear hxy
          go_wp2_with fail
          go_quiet (fail)
          go_wp2_with fail
          go_roundw
          case rel => exact ⟨i + 1, by go_num, h1, HC1.out, _, rfl⟩
          case measure => simp [intOf]; omega
        · have HC1 : Hid (z = false) := by
            rw [Hid, HI.out, decide_eq_false_iff_not, HC.out]; simp [hxy]
          have hb1 : (x != y) = true := by simpa using hxy
          have hb2 : (x == y) = false := by simpa using hxy
          have HXY := hid hxy
          clear hxy
          go_wp2_with fail
          go_quiet (fail)
          go_wp2_with fail
          go_ret
          exact ⟨by rw [HC1.out]; first | done | rfl, _, World.drewN_drewN _ _ _⟩
      · obtain rfl : i = n := by omega
        have HC1 : Hid (z = true) := by
          rw [Hid, HI.out, List.drop_eq_nil_of_le (by rw [← HN.out]; omega), List.drop_eq_nil_of_le (by rw [← HN2.out]; omega)]; simp
        go_wp2_with fail
        go_ret
        exact ⟨by rw [HC1.out]; first | done | rfl, _, rfl⟩
  · have HC1 : Hid (z = false) := by
      rw [Hid, HZ.out, decide_eq_false_iff_not]; rintro rfl; exact hnn (by rw [HN.out, HN2.out])
    have e1 : decide ((n : Int) = n2) = false := decide_eq_false (by omega)
    have e2 : ((n : Int) == n2) = false := by simp; omega
    have e3 : (n == n2) = false := by simp; omega
    clear hnn
    go_enter Tryz.func77, Tryz.ntmps77
    go_wp2_with fail
    go_ret
    exact ⟨by rw [HC1.out]; first | done | rfl, 0, rfl⟩
/-! The order of ways -/
def cmpW : List Int → List Int → Int
  | [], [] => 0
  | [], _ :: _ => -1
  | _ :: _, [] => 1
  | x :: a, y :: b => if x < y then -1 else if y < x then 1 else cmpW a b
theorem cmpW_iff : ∀ a b, cmpW a b < 0 ↔ ltW a b = true
  | [], [] => by simp [cmpW, ltW]
  | [], _ :: _ => by simp [cmpW, ltW]
  | _ :: _, [] => by simp [cmpW, ltW]
  | x :: a, y :: b => by
    have ih := cmpW_iff a b
    simp only [cmpW, ltW]
    by_cases h1 : x < y
    · rw [if_pos h1, if_neg (by omega)]; simp [h1]
    · rw [if_neg h1]
      by_cases h2 : y < x
      · rw [if_pos h2, if_neg (by omega)]; simp; omega
      · rw [if_neg h2, if_pos (by omega)]; exact ih
theorem cmpW_lt (a b : List Int) : decide (cmpW a b < 0) = ltW a b := by
  rw [Bool.eq_iff_iff, decide_eq_true_iff]; exact cmpW_iff a b
theorem cmpW_at {l m : List Int} {i : Nat} {x y : Int} (hx : l[i]? = some x) (hy : m[i]? = some y) : cmpW (l.drop i) (m.drop i) = if x < y then -1 else if y < x then 1 else cmpW (l.drop (i + 1)) (m.drop (i + 1)) := by
  rw [drop_at hx, drop_at hy, cmpW]
theorem cmpW_end1 {l m : List Int} {i : Nat} (hx : l.length ≤ i) : cmpW (l.drop i) (m.drop i) = if i < m.length then -1 else 0 := by
  rw [List.drop_eq_nil_of_le hx]
  split
  · rename_i h; rw [List.drop_eq_getElem_cons h]; rfl
  · rw [List.drop_eq_nil_of_le (by omega)]; rfl
theorem cmpW_end2 {l m : List Int} {i : Nat} (hx : i < l.length) (hy : m.length ≤ i) : cmpW (l.drop i) (m.drop i) = 1 := by
  rw [List.drop_eq_nil_of_le hy, List.drop_eq_getElem_cons hx]; rfl
set_option maxRecDepth 100000 in
set_option maxHeartbeats 4000000 in
theorem cmp_Compare_int (x y : Int) (w : World) :
    Calls Tryz.prog 76 #[.int .i64 x, .int .i64 y] w fun e w' => e = .returned (.int .i64 (if x < y then -1 else if y < x then 1 else 0)) ∧ w = w' := by
  by_cases h1 : x < y
  · rw [if_pos h1]
    have e2 : ¬ y < x := by omega
    go_enter Tryz.func76, Tryz.ntmps76
    go_wp2
    go_ret
    exact ⟨rfl, rfl⟩
  · rw [if_neg h1]
    by_cases h2 : y < x
    · rw [if_pos h2]
      go_enter Tryz.func76, Tryz.ntmps76
      go_wp2
      go_ret
      exact ⟨rfl, rfl⟩
    · rw [if_neg h2]
      go_enter Tryz.func76, Tryz.ntmps76
      go_wp2
      go_ret
      exact ⟨rfl, rfl⟩
set_option maxRecDepth 100000 in
set_option maxHeartbeats 4000000 in
theorem compare_ints {w : World} {v u : Value} {l m : List Int} (h : IntsAt w v l) (hu : IntsAt w u m) :
    Calls Tryz.prog 49 #[v, u] w fun e w' => e = .returned (.int .i64 (cmpW l m)) ∧ w' = w := by
  obtain ⟨hl, a, c, rfl, -, hat⟩ := h.open
  obtain ⟨hm, a2, c2, rfl, -, hbt⟩ := hu.open
  obtain ⟨n, HN⟩ : ∃ n, Hid (n = l.length) := ⟨_, rfl⟩
  obtain ⟨n2, HN2⟩ : ∃ n, Hid (n = m.length) := ⟨_, rfl⟩
  rw [← HN.out] at hl ⊢
  rw [← HN2.out] at hm ⊢
  obtain ⟨z, HZ⟩ : ∃ z, Hid (z = cmpW l m) := ⟨_, rfl⟩
  rw [← HZ.out]
  have HAT := hid hat
  have HBT := hid hbt
  clear hat hbt h hu
  go_enter Tryz.func49, Tryz.ntmps49
  go_wp2_with fail
  go_loop [11] (fun v5 => ∃ i : Nat, v5 = .int .i64 i ∧ i ≤ n ∧ i ≤ n2 ∧ Hid (z = cmpW (l.drop i) (m.drop i))) (fun v5 => n - (intOf v5).toNat)
  case atStart => exact ⟨0, rfl, by omega, by omega, by rw [Hid, HZ.out]; simp⟩
  case round =>
    obtain ⟨i, rfl, hi, hi2, HI⟩ := hrel
    by_cases h1 : i < n
    · obtain ⟨x, hxi⟩ := int_get HN.out h1
      obtain ⟨hx64, b, o, ha, g0⟩ := HAT.out i x hxi
      have hix := index_run1 Tryz.underlying68 size_int ha i h1 (cap := c)
      by_cases h2 : i < n2
      · obtain ⟨y, hyi⟩ := int_get HN2.out h2
        obtain ⟨hy64, b2, o2, ha2, g2⟩ := HBT.out i y hyi
        have HC := hid (cmpW_at hxi hyi)
        have hix2 := index_run1 Tryz.underlying68 size_int ha2 i h2 (cap := c2)
        have hge : ¬ (n2 ≤ i) := by omega
        clear hxi hyi ha ha2
        obtain ⟨q, HQ⟩ : ∃ q, Hid (q = (if x < y then -1 else if y < x then 1 else 0 : Int)) := ⟨_, rfl⟩
        by_cases hq : q = 0
        · have HC1 : Hid (z = cmpW (l.drop (i + 1)) (m.drop (i + 1))) := by
            have e1 : ¬ x < y := fun h => by have := HQ.out; rw [if_pos h] at this; omega
            have e2 : ¬ y < x := fun h => by have := HQ.out; rw [if_neg e1, if_pos h] at this; omega
            rw [Hid, HI.out, HC.out, if_neg e1, if_neg e2]
          subst hq
          go_wp2_with (go_at_call 76; refine (cmp_Compare_int x y _).mono ?_; rintro e w' ⟨rfl, rfl⟩; rw [← HQ.out])
          go_round
          case rel => exact ⟨i + 1, by go_num, h1, h2, HC1.out⟩
          case measure => simp [intOf]; omega
        · have HC1 : Hid (z = q) := by
            rw [Hid, HI.out, HC.out, HQ.out]
            by_cases e1 : x < y
            · rw [if_pos e1, if_pos e1]
            · rw [if_neg e1, if_neg e1]
              by_cases e2 : y < x
              · rw [if_pos e2, if_pos e2]
              · exact absurd (by rw [HQ.out, if_neg e1, if_neg e2]) hq
          have hb1 : (q != 0) = true := by simpa using hq
          have hb2 : (q == 0) = false := by simpa using hq
          clear hq
          go_wp2_with (go_at_call 76; refine (cmp_Compare_int x y _).mono ?_; rintro e w' ⟨rfl, rfl⟩; rw [← HQ.out])
          go_ret
          exact ⟨by rw [HC1.out]; first | done | rfl, rfl⟩
      · have HC1 : Hid (z = 1) := by
          rw [Hid, HI.out, cmpW_end2 (by rw [← HN.out]; exact h1) (by rw [← HN2.out]; omega)]
        have hge : n2 ≤ i := by omega
        clear hxi ha
        go_wp2_with fail
        go_ret
        exact ⟨by rw [HC1.out]; first | done | rfl, rfl⟩
    · obtain rfl : i = n := by omega
      by_cases h2 : i < n2
      · have HC1 : Hid (z = -1) := by
          rw [Hid, HI.out, cmpW_end1 (by rw [← HN.out]; omega), if_pos (by rw [← HN2.out]; exact h2)]
        go_wp2_with fail
        go_ret
        exact ⟨by rw [HC1.out]; first | done | rfl, rfl⟩
      · have HC1 : Hid (z = 0) := by
          rw [Hid, HI.out, cmpW_end1 (by rw [← HN.out]; omega), if_neg (by rw [← HN2.out]; exact h2)]
        go_wp2_with fail
        go_ret
        exact ⟨by rw [HC1.out]; first | done | rfl, rfl⟩
/-- the first so many -/
theorem IntsAt.h {w : World} {a : Option Addr} {n cap : Nat} {l : List Int} (h : IntsAt w (.slice a n cap) l) (hn : n = l.length) (j : Nat) (hj : j ≤ n) :
    ∃ a' cap', (∀ W, (Instr.slice 68 (.slice a n cap) none (some (.int .i64 (j : Int))) none).run Tryz.prog W = .ok (.slice a' j cap') W) ∧ IntsAt w (.slice a' j cap') (l.take j) := by
  subst hn
  have hcap : l.length ≤ cap := by obtain ⟨⟨_, _, a', cap', hv, h3, _⟩, -⟩ := h; cases hv; exact h3
  have hr := fun W => slice_h_run (P := Tryz.prog) under_ints size_int a l.length cap j (by omega) W
  have hs := Seg.sub h.1 0 j (by omega) hj
  unfold sliced at hr hs
  refine ⟨_, _, hr, ⟨?_, fun x hx => h.2 x (List.mem_of_mem_take hx)⟩⟩
  rw [List.length_take, Nat.min_eq_left (by omega), List.map_take]
  simpa using hs
/-- what is behind the first so many -/
theorem IntsAt.l {w : World} {a : Option Addr} {n cap : Nat} {l : List Int} (h : IntsAt w (.slice a n cap) l) (hn : n = l.length) (i : Nat) (hi : i ≤ n) :
    ∃ a' cap', (∀ W, (Instr.slice 68 (.slice a n cap) (some (.int .i64 (i : Int))) none none).run Tryz.prog W = .ok (.slice a' (n - i) cap') W) ∧ IntsAt w (.slice a' (n - i) cap') (l.drop i) := by
  subst hn
  have hr := fun W => slice_l_run (P := Tryz.prog) under_ints size_int a l.length cap i (by omega) W
  have hs := Seg.sub h.1 i l.length hi (Nat.le_refl _)
  unfold sliced at hr hs
  refine ⟨_, _, hr, ⟨?_, fun x hx => h.2 x (List.mem_of_mem_drop hx)⟩⟩
  rw [List.length_drop, List.map_drop]
  rw [List.take_of_length_le (by simp)] at hs
  simpa using hs
set_option maxRecDepth 100000 in
set_option maxHeartbeats 4000000 in
theorem mask_begins {w : World} {v u : Value} {l m : List Int} (h : IntsAt w v l) (hu : IntsAt w u m) :
    Calls Tryz.prog 50 #[v, u] w fun e w' => e = .returned (.bool (beginsW l m)) ∧ Drew w w' := by
  have H := hid h
  have HU := hid hu
  obtain ⟨hl, a, c, rfl, -, -⟩ := h.open
  obtain ⟨hm, a2, c2, rfl, -, -⟩ := hu.open
  obtain ⟨n, HN⟩ : ∃ n, Hid (n = l.length) := ⟨_, rfl⟩
  obtain ⟨n2, HN2⟩ : ∃ n, Hid (n = m.length) := ⟨_, rfl⟩
  rw [← HN.out] at hl H ⊢
  rw [← HN2.out] at hm HU ⊢
  obtain ⟨z, HZ⟩ : ∃ z, Hid (z = beginsW l m) := ⟨_, rfl⟩
  rw [← HZ.out]
  clear h hu
  by_cases hn : n2 ≤ n
  · obtain ⟨a', c', hsl, hI⟩ := H.out.h HN.out n2 hn
    have HI := hid hI
    have HZ2 : Hid (decide (l.take n2 = m) = z) := by
      rw [Hid, HZ.out, beginsW, ← HN2.out, ← HN.out, decide_eq_true hn, Bool.true_and]
    clear hI
    go_enter Tryz.func50, Tryz.ntmps50
    go_wp2_with (go_at_call 77; refine (equal_ints HI.out HU.out).mono ?_; rintro e w' ⟨rfl, kw, rfl⟩; rw [HZ2.out])
    go_ret
    exact ⟨rfl, _, rfl⟩
  · have HZ2 : Hid (z = false) := by
      rw [Hid, HZ.out, beginsW, ← HN2.out, ← HN.out, decide_eq_false hn, Bool.false_and]
    have hn2 : ¬ ((n2 : Int) ≤ n) := by omega
    go_enter Tryz.func50, Tryz.ntmps50
    go_wp2_with fail
    go_ret
    exact ⟨by rw [HZ2.out]; first | done | rfl, 0, rfl⟩
end Go.Proofs.YtaefpjecalnbcaaGreat
namespace Go.Proofs.YtaefpjecalnbcaaGreat
open Go.RowKit Go.Maps Go.Sort Go.Shelf
def RU (_ : Value) : Option (DataW Unit × List MemPlace) := some (.lit (.bool true), [])
theorem entL_mem {es : List (Int × Value)} : ∀ {i : Nat} {x : MapEntry}, x ∈ entL intK es i → ∃ p v, (p, v) ∈ es ∧ x.key = .int .i64 p ∧ i ≤ x.born ∧ x.born < i + es.length := by
  induction es with
  | nil => intro i x h; cases h
  | cons e r ih =>
    obtain ⟨p, v⟩ := e
    intro i x h
    rw [entL] at h
    rcases List.mem_cons.1 h with rfl | h
    · exact ⟨p, v, by simp, rfl, Nat.le_refl _, by simp⟩
    · obtain ⟨q, u, h1, h2, h3, h4⟩ := ih h
      exact ⟨q, u, by simp [h1], h2, by omega, by simp; omega⟩
theorem entL_born {es : List (Int × Value)} : ∀ i : Nat, ((entL intK es i).map (·.born)).Nodup := by
  induction es with
  | nil => intro i; simp [entL]
  | cons e r ih =>
    obtain ⟨p, v⟩ := e
    intro i
    rw [entL, List.map_cons, List.nodup_cons]
    refine ⟨fun h => ?_, ih (i + 1)⟩
    obtain ⟨x, hx, e⟩ := List.mem_map.1 h
    obtain ⟨-, -, -, -, h3, -⟩ := entL_mem hx
    simp only at e
    omega
theorem entL_keys {es : List (Int × Value)} : ∀ i : Nat, (entL intK es i).map (·.key) = (es.map Prod.fst).map intK := by
  induction es with
  | nil => intro i; rfl
  | cons e r ih =>
    obtain ⟨p, v⟩ := e
    intro i
    rw [entL, List.map_cons, ih]; rfl
theorem insert_perm (x : Lit × DataW Unit) : ∀ l : List (Lit × DataW Unit), (DataW.insert x l).Perm (x :: l)
  | [] => List.Perm.refl _
  | y :: r => by
    rw [DataW.insert]
    split
    · exact List.Perm.refl _
    · exact ((insert_perm x r).cons y).trans (List.Perm.swap x y r)
theorem foldr_perm : ∀ l : List (Lit × DataW Unit), (l.foldr DataW.insert []).Perm l
  | [] => List.Perm.refl _
  | x :: r => (insert_perm x _).trans ((foldr_perm r).cons x)
theorem i64_wf {p : Int} (h : i64ok p) : (Lit.int .i64 p).wf = true := by
  unfold i64ok at h
  show (decide (IntKind.i64.min ≤ p) && decide (p ≤ IntKind.i64.max)) = true
  rw [Bool.and_eq_true, decide_eq_true_eq, decide_eq_true_eq, (by decide : IntKind.i64.min = -9223372036854775808), (by decide : IntKind.i64.max = 9223372036854775807)]
  exact h
set_option maxRecDepth 100000 in
theorem owns_int {w : World} {r : Nat} {es : List (Int × Value)} (h : MapIs w r intK es) (hn : es.length ≤ 1073741824) (hd : (es.map Prod.fst).Nodup) (hsz : ∀ p ∈ es.map Prod.fst, i64ok p) :
    ∃ D0 : DataW Unit, w.ownsMap Tryz.prog 3 RU r es.length D0 ∧ (intKeys D0).Perm (es.map Prod.fst) ∧ Maps.size D0 = es.length := by
  refine ⟨_, ⟨(entL intK es 0).toArray, es.length, h, ⟨by simp [entL_len]; unfold maxLen; omega, ⟨fun x hx => ?_, by simpa using entL_born 0, ?_⟩, fun x hx => ?_⟩, by simp [entL_len], rfl⟩, ?_, ?_⟩
  · obtain ⟨-, -, -, -, -, h4⟩ := entL_mem (by simpa using hx)
    omega
  · show ((entL intK es 0).toArray.toList.map (·.key)).Nodup
    rw [List.toList_toArray, entL_keys]
    exact List.Pairwise.map _ (fun a b hab e => hab (by unfold intK at e; injection e)) hd
  · obtain ⟨p, v, h1, h2, -, -⟩ := entL_mem (i := 0) (by simpa using hx)
    have hp : (Lit.int .i64 p).wf = true := i64_wf (hsz p (List.mem_map.2 ⟨_, h1, rfl⟩))
    refine ⟨(.int .i64 p, .lit (.bool true)), ?_⟩
    unfold Go.WideElems.rd
    rw [h2, keyOf_int_mk Tryz.underlying3 hp]
    rfl
  · have hp := foldr_perm ((entL intK es 0).toArray.toList.map (Go.WideElems.rg Tryz.prog 3 RU))
    refine (hp.map fun p => Go.intOf p.1).trans ?_
    rw [List.toList_toArray, List.map_map]
    have : ∀ (l : List (Int × Value)) (i : Nat), (∀ p ∈ l.map Prod.fst, i64ok p) → (entL intK l i).map ((fun p => Go.intOf p.1) ∘ Go.WideElems.rg Tryz.prog 3 RU) = l.map Prod.fst := by
      intro l
      induction l with
      | nil => intro i _; rfl
      | cons e r ih =>
        obtain ⟨p, v⟩ := e
        intro i hl
        rw [entL, List.map_cons, ih (i + 1) fun q hq => hl q (by simp at hq ⊢; exact .inr hq), List.map_cons]
        congr 1
        have hp : (Lit.int .i64 p).wf = true := i64_wf (hl p (by simp))
        show Go.intOf (Go.WideElems.rg Tryz.prog 3 RU ⟨intK p, v, i⟩).1 = _
        unfold Go.WideElems.rg Go.WideElems.rd
        show Go.intOf (((keyOf Tryz.prog 3 (.int .i64 p)).bind fun key => (RU v).map fun y => (key, y.1)).getD (.bool false, .nil)).1 = _
        rw [keyOf_int_mk Tryz.underlying3 hp]
        rfl
    rw [this es 0 hsz]
  · show (List.foldr DataW.insert [] _).length = _
    rw [(foldr_perm _).length_eq]
    simp [entL_len]
theorem Tryz.sortsA (m : Nat) : AnyZI.SortsIn Tryz.prog Tryz.sortedA_ren Fence.wide m :=
  ⟨fun blk off cap ss W hH hblk hsz => callsIn_wide.2 (AnyM.slices_Sort_int Tryz.sortA blk off cap ss W hH hblk hsz),
   fun p cap W => callsIn_wide.2 (AnyM.slices_Sort_int_none Tryz.sortA p cap W)⟩
theorem maps_Keys (mb : Option Nat) (W : World) : Calls Tryz.prog 91 #[.map mb] W fun e w' => e = .returned (.func (.func 130) #[] #[.pointer (some ⟨W.heap.size, 0, none⟩)]) ∧ w' = W.alloc (.cells #[.map mb] 102) :=
  (callsIn_wide (n := 5)).1 (AnyZI.keys_in Tryz.keysA Fence.wide 5 trivial rfl mb W)
set_option maxHeartbeats 4000000 in
theorem sorted_Keys {w : World} {r : Nat} {es : List (Int × Value)} (h : MapIs w r intK es) (hn : es.length ≤ 1073741824) (hd : (es.map Prod.fst).Nodup) (hsz : ∀ p ∈ es.map Prod.fst, i64ok p) :
    Calls Tryz.prog 90 #[.func (.func 130) #[] #[.pointer (some ⟨w.heap.size, 0, none⟩)]] (w.alloc (.cells #[.map (some r)] 102)) fun e w' => ∃ (v : Value) (ss : List Int), e = .returned v ∧ ss.Perm (es.map Prod.fst) ∧
      w'.ownsRow (w.heap.size + 1) 3 1 v ss.length ((ss.mergeSort (fun x y => decide (x ≤ y))).map encZ) ∧ Below (w.heap.size + 1) (w.alloc (.cells #[.map (some r)] 102)) w' := by
  obtain ⟨D0, hown, hperm, hsize⟩ := owns_int h hn hd hsz
  have hbl := hown.lt
  have hseq : SeqGives Fence.wide 2 Tryz.prog 130 #[.pointer (some ⟨w.heap.size, 0, none⟩)] encZ (fun ss => ss.Perm (intKeys D0)) (Maps.size D0) (w.alloc (.cells #[.map (some r)] 102)) :=
    AnyZI.keys_gives (ρ := Tryz.keysA_ren) { Tryz.keysA with } Fence.wide _ trivial rfl (by omega) w.heap.size r es.length D0 _ (by simp) (by simp) (by
      obtain ⟨es', clock, hb, Ft, hs, hD⟩ := hown
      exact ⟨es', clock, (Below.heap_alloc _ _ r hbl).trans hb, Ft, hs, hD⟩)
  have cS := AnyZI.sorted_in Tryz.sortedA Fence.wide 5 trivial trivial trivial trivial rfl (by omega) (Tryz.sortsA _) (enters_of Tryz.func129 (by kernel_rfl) rfl) 130 #[.pointer (some ⟨w.heap.size, 0, none⟩)] trivial (enters_of Tryz.func130 (by kernel_rfl) rfl) _ _ (by rw [hsize]; unfold maxLen; omega) (by rw [hsize]; omega) _ hseq
  change CallsIn _ _ Tryz.prog 90 _ _ _ at cS
  refine ((callsIn_wide (n := 5)).1 cS).mono ?_
  rintro e w' ⟨v, ss, rfl, hS, hrow, -, hb⟩
  rw [World.size_alloc] at hrow hb
  exact ⟨v, ss, rfl, hS.trans hperm, hrow, hb⟩
end Go.Proofs.YtaefpjecalnbcaaGreat
namespace Go.Proofs.YtaefpjecalnbcaaGreat
open Go.RowKit
structure Val (α : Type) where
  num : Int
  words : List Nat
  texts : List (List UInt8)
  subs : List α
structure Msgd (α : Type) where
  vals : List (Val α)
  unk : List (List UInt8)
def M : Nat → Type
  | 0 => Empty
  | d + 1 => Msgd (M d)
def M.vals {d : Nat} (x : M (d + 1)) : List (Val (M d)) := Msgd.vals x
def M.unk {d : Nat} (x : M (d + 1)) : List (List UInt8) := Msgd.unk x
def Val.zero {α : Type} : Val α := ⟨0, [], [], []⟩
def strV (t : List UInt8) : Value := .string ⟨t.toArray⟩
def wordV (x : Nat) : Value := .int .u64 (x : Int)
/-- A []string, a []uint64. -/
def StrsAt (w : World) (v : Value) (l : List (List UInt8)) : Prop := Seg w v 1 l.length (l.map strV) ∧ ∀ t ∈ l, t.length ≤ 140737488355328
def WordsAt (w : World) (v : Value) (l : List Nat) : Prop := Seg w v 1 l.length (l.map wordV) ∧ ∀ x ∈ l, x < 2 ^ 64
/-- A slice whose elements are k cells each, one element for each of l. -/
def RowsAt {α : Type} (P : World → List Value → α → Prop) (k : Nat) (w : World) (v : Value) (l : List α) : Prop :=
  ∃ rows : List (List Value), rows.length = l.length ∧ (∀ r ∈ rows, r.length = k) ∧ Seg w v k l.length rows.flatten ∧ ∀ (i : Nat) (r : List Value) (x : α), rows[i]? = some r → l[i]? = some x → P w r x
def SubsAt {α : Type} (P : World → Value → α → Prop) (w : World) (v : Value) (l : List α) : Prop := RowsAt (fun w r x => P w (.agg r.toArray) x) 2 w v l
def ValAt {α : Type} (P : World → Value → α → Prop) (w : World) (v : Value) (x : Val α) : Prop :=
  ∃ wv tv sv, v = .agg #[.int .i64 x.num, wv, tv, sv] ∧ (-9223372036854775808 ≤ x.num ∧ x.num ≤ 9223372036854775807) ∧ WordsAt w wv x.words ∧ StrsAt w tv x.texts ∧ SubsAt P w sv x.subs
def ValsAt {α : Type} (P : World → Value → α → Prop) (w : World) (v : Value) (l : List (Val α)) : Prop := RowsAt (fun w r x => ValAt P w (.agg r.toArray) x) 4 w v l
def MsgAt : (d : Nat) → World → Value → M d → Prop
  | 0, _, _, _ => False
  | d + 1, w, v, x => ∃ vv uv, v = .agg #[vv, uv] ∧ ValsAt (MsgAt d) w vv (M.vals x) ∧ StrsAt w uv (M.unk x)
theorem StrsAt.keep {w w' : World} {v : Value} {l : List (List UInt8)} (h : StrsAt w v l) (hk : ∀ p u, w.cell? p = some u → w'.cell? p = some u) : StrsAt w' v l := ⟨h.1.keep hk, h.2⟩
theorem WordsAt.keep {w w' : World} {v : Value} {l : List Nat} (h : WordsAt w v l) (hk : ∀ p u, w.cell? p = some u → w'.cell? p = some u) : WordsAt w' v l := ⟨h.1.keep hk, h.2⟩
theorem RowsAt.keep {α : Type} {P : World → List Value → α → Prop} {k : Nat} {w w' : World} {v : Value} {l : List α} (h : RowsAt P k w v l) (hk : ∀ p u, w.cell? p = some u → w'.cell? p = some u) (hP : ∀ r x, P w r x → P w' r x) : RowsAt P k w' v l :=
  let ⟨rows, h1, h0, h2, h3⟩ := h
  ⟨rows, h1, h0, h2.keep hk, fun i r x hr hx => hP _ _ (h3 i r x hr hx)⟩
theorem SubsAt.keep {α : Type} {P : World → Value → α → Prop} {w w' : World} {v : Value} {l : List α} (h : SubsAt P w v l) (hk : ∀ p u, w.cell? p = some u → w'.cell? p = some u) (hP : ∀ v x, P w v x → P w' v x) : SubsAt P w' v l :=
  RowsAt.keep h hk fun _ _ hx => hP _ _ hx
theorem ValAt.keep {α : Type} {P : World → Value → α → Prop} {w w' : World} {v : Value} {x : Val α} (h : ValAt P w v x) (hk : ∀ p u, w.cell? p = some u → w'.cell? p = some u) (hP : ∀ v x, P w v x → P w' v x) : ValAt P w' v x :=
  let ⟨wv, tv, sv, h1, h2, h3, h4, h5⟩ := h
  ⟨wv, tv, sv, h1, h2, h3.keep hk, h4.keep hk, h5.keep hk hP⟩
theorem ValsAt.keep {α : Type} {P : World → Value → α → Prop} {w w' : World} {v : Value} {l : List (Val α)} (h : ValsAt P w v l) (hk : ∀ p u, w.cell? p = some u → w'.cell? p = some u) (hP : ∀ v x, P w v x → P w' v x) : ValsAt P w' v l :=
  RowsAt.keep h hk fun _ _ hx => hx.keep hk hP
theorem MsgAt.keep : ∀ {d : Nat} {w w' : World} {v : Value} {x : M d}, MsgAt d w v x → (∀ p u, w.cell? p = some u → w'.cell? p = some u) → MsgAt d w' v x
  | 0, _, _, _, _, h, _ => h.elim
  | d + 1, _, _, _, _, h, hk => by
    obtain ⟨vv, uv, h1, h2, h3⟩ := h
    exact ⟨vv, uv, h1, h2.keep hk fun v x hx => MsgAt.keep hx hk, h3.keep hk⟩
theorem MsgAt.below {d : Nat} {w w' : World} {v : Value} {x : M d} (h : MsgAt d w v x) (hb : Below w.heap.size w w') : MsgAt d w' v x := h.keep (below_keeps hb)
theorem VMsg.keep {d : Nat} {w w' : World} {v : Value} {x : Val (M d)} (h : ValAt (MsgAt d) w v x) (hk : ∀ p u, w.cell? p = some u → w'.cell? p = some u) : ValAt (MsgAt d) w' v x := ValAt.keep h hk fun _ _ hx => hx.keep hk
theorem VMsg.below {d : Nat} {w w' : World} {v : Value} {x : Val (M d)} (h : ValAt (MsgAt d) w v x) (hb : Below w.heap.size w w') : ValAt (MsgAt d) w' v x := VMsg.keep h (below_keeps hb)
/-- What a walk wants of a []string. -/
theorem StrsAt.open {w : World} {v : Value} {l : List (List UInt8)} (h : StrsAt w v l) :
    l.length ≤ 140737488355328 ∧ ∃ a cap, v = .slice a l.length cap ∧ (a = none → cap = 0) ∧ ∀ k t, l[k]? = some t → t.length ≤ 140737488355328 ∧ ∃ b o, a = some ⟨b, o, none⟩ ∧ w.cell? ⟨b, o + k, none⟩ = some (strV t) := by
  obtain ⟨⟨_, h2, a, cap, hv, h3, h4, h5, h6⟩, hl⟩ := h
  refine ⟨h2, a, cap, hv, h5, fun k t hk => ⟨hl _ (List.mem_of_getElem? hk), h6 k _ ?_⟩⟩
  simp [hk]
theorem WordsAt.open {w : World} {v : Value} {l : List Nat} (h : WordsAt w v l) :
    l.length ≤ 140737488355328 ∧ ∃ a cap, v = .slice a l.length cap ∧ (a = none → cap = 0) ∧ ∀ k x, l[k]? = some x → x < 2 ^ 64 ∧ ∃ b o, a = some ⟨b, o, none⟩ ∧ w.cell? ⟨b, o + k, none⟩ = some (wordV x) := by
  obtain ⟨⟨_, h2, a, cap, hv, h3, h4, h5, h6⟩, hl⟩ := h
  refine ⟨h2, a, cap, hv, h5, fun k t hk => ⟨hl _ (List.mem_of_getElem? hk), h6 k _ ?_⟩⟩
  simp [hk]
theorem flatten_get {k : Nat} : ∀ (rows : List (List Value)) (i j : Nat) (r : List Value), (∀ r ∈ rows, r.length = k) → rows[i]? = some r → j < k → rows.flatten[i * k + j]? = r[j]?
  | [], _, _, _, _, h, _ => by simp at h
  | y :: l, 0, j, r, hk, h, hj => by
    simp at h
    subst h
    rw [List.flatten_cons, Nat.zero_mul, Nat.zero_add, List.getElem?_append_left (by rw [hk y (by simp)]; exact hj)]
  | y :: l, i + 1, j, r, hk, h, hj => by
    have := flatten_get l i j r (fun r hr => hk r (by simp [hr])) (by simpa using h) hj
    rw [List.flatten_cons, List.getElem?_append_right (by rw [hk y (by simp), Nat.succ_mul]; omega), hk y (by simp)]
    rw [show (i + 1) * k + j - k = i * k + j by rw [Nat.succ_mul]; omega]
    exact this
theorem RowsAt.open {α : Type} {P : World → List Value → α → Prop} {k : Nat} (hk0 : 0 < k) {w : World} {v : Value} {l : List α} (h : RowsAt P k w v l) :
    l.length ≤ 140737488355328 ∧ ∃ a cap, v = .slice a l.length cap ∧ (a = none → cap = 0) ∧ ∀ i x, l[i]? = some x → ∃ b o r, a = some ⟨b, o, none⟩ ∧ r.length = k ∧ (∀ j u, r[j]? = some u → w.cell? ⟨b, o + i * k + j, none⟩ = some u) ∧ P w r x := by
  obtain ⟨rows, hl, hk, ⟨_, h2, a, cap, hv, h3, h4, h5, h6⟩, hP⟩ := h
  refine ⟨h2, a, cap, hv, h5, fun i x hi => ?_⟩
  have hil : i < l.length := (List.getElem?_eq_some_iff.1 hi).1
  have hr : rows[i]? = some (rows[i]'(by omega)) := List.getElem?_eq_getElem (by omega)
  have hrk := hk _ (List.mem_of_getElem? hr)
  generalize rows[i]'(by omega) = r at hr hrk
  have hc := fun j (hj : j < k) => flatten_get rows i j r hk hr hj
  have h0 : r[0]? = some (r[0]'(by omega)) := List.getElem?_eq_getElem (by omega)
  obtain ⟨b, o, ha, g0⟩ := h6 _ _ ((hc 0 hk0).trans h0)
  refine ⟨b, o, r, ha, hrk, fun j u hu => ?_, hP i r x hr hi⟩
  have hj : j < k := by rw [← hrk]; exact (List.getElem?_eq_some_iff.1 hu).1
  obtain ⟨b', o', ha', hcell⟩ := h6 _ u ((hc j hj).trans hu)
  rw [ha] at ha'
  cases ha'
  rw [Nat.add_assoc]; exact hcell
theorem SubsAt.open {α : Type} {P : World → Value → α → Prop} {w : World} {v : Value} {l : List α} (h : SubsAt P w v l) :
    l.length ≤ 140737488355328 ∧ ∃ a cap, v = .slice a l.length cap ∧ (a = none → cap = 0) ∧ ∀ k x, l[k]? = some x → ∃ b o v1 v2, a = some ⟨b, o, none⟩ ∧ w.cell? ⟨b, o + k * 2, none⟩ = some v1 ∧ w.cell? ⟨b, o + k * 2 + 1, none⟩ = some v2 ∧ P w (.agg #[v1, v2]) x := by
  obtain ⟨h1, a, cap, h2, h3, h4⟩ := RowsAt.open (by decide) h
  refine ⟨h1, a, cap, h2, h3, fun k x hx => ?_⟩
  obtain ⟨b, o, r, ha, hr, hc, hP⟩ := h4 k x hx
  match r, hr with
  | [v1, v2], _ => exact ⟨b, o, v1, v2, ha, hc 0 _ rfl, hc 1 _ rfl, hP⟩
theorem ValsAt.open {α : Type} {P : World → Value → α → Prop} {w : World} {v : Value} {l : List (Val α)} (h : ValsAt P w v l) :
    l.length ≤ 140737488355328 ∧ ∃ a cap, v = .slice a l.length cap ∧ (a = none → cap = 0) ∧ ∀ k x, l[k]? = some x → ∃ b o v1 v2 v3, a = some ⟨b, o, none⟩ ∧
      w.cell? ⟨b, o + k * 4, none⟩ = some (.int .i64 x.num) ∧ w.cell? ⟨b, o + k * 4 + 1, none⟩ = some v1 ∧ w.cell? ⟨b, o + k * 4 + 2, none⟩ = some v2 ∧ w.cell? ⟨b, o + k * 4 + 3, none⟩ = some v3 ∧
      ValAt P w (.agg #[.int .i64 x.num, v1, v2, v3]) x := by
  obtain ⟨h1, a, cap, h2, h3, h4⟩ := RowsAt.open (by decide) h
  refine ⟨h1, a, cap, h2, h3, fun k x hx => ?_⟩
  obtain ⟨b, o, r, ha, hr, hc, hP⟩ := h4 k x hx
  match r, hr with
  | [v0, v1, v2, v3], _ =>
    have hP' := hP
    obtain ⟨wv, tv, sv, e, -⟩ := hP'
    cases e
    exact ⟨b, o, v1, v2, v3, ha, hc 0 _ rfl, hc 1 _ rfl, hc 2 _ rfl, hc 3 _ rfl, hP⟩
/-! The weight: how many things and bytes there are. -/
def twt (l : List (List UInt8)) : Nat := (l.map fun t => 1 + t.length).sum
def vwt {α : Type} (f : α → Nat) (v : Val α) : Nat := 1 + v.words.length + twt v.texts + (v.subs.map f).sum
def mwt : (d : Nat) → M d → Nat
  | 0, _ => 0
  | d + 1, x => 1 + twt (M.unk x) + ((M.vals x).map (vwt (mwt d))).sum
theorem sum_take {α : Type} (f : α → Nat) (l : List α) (k : Nat) (x : α) (h : l[k]? = some x) : ((l.take (k + 1)).map f).sum = ((l.take k).map f).sum + f x := by
  rw [List.take_add_one, h]
  simp
theorem sum_take_le {α : Type} (f : α → Nat) (l : List α) (k : Nat) : ((l.take k).map f).sum ≤ (l.map f).sum := by
  conv => rhs; rw [← List.take_append_drop k l]
  rw [List.map_append, List.sum_append]
  omega
theorem mem_sum_le {α : Type} (f : α → Nat) (l : List α) (x : α) (h : x ∈ l) : f x ≤ (l.map f).sum := by
  obtain ⟨k, hk⟩ := List.mem_iff_getElem?.1 h
  have h1 := sum_take f l k x hk
  have h2 := sum_take_le f l (k + 1)
  omega
end Go.Proofs.YtaefpjecalnbcaaGreat
namespace Go.Proofs.YtaefpjecalnbcaaGreat
open Go.RowKit
/-- all that was is as it was, but for the block b -/
structure But (b : Nat) (w w' : World) : Prop where
  os : w'.os = w.os
  tape : w'.tape = w.tape
  output : w'.output = w.output
  size : w.heap.size ≤ w'.heap.size
  block : ∀ c, c < w.heap.size → c ≠ b → w'.heap[c]? = w.heap[c]?
theorem But.refl (b : Nat) (w : World) : But b w w := ⟨rfl, rfl, rfl, Nat.le_refl _, fun _ _ _ => rfl⟩
theorem But.trans {b : Nat} {w w1 w2 : World} (h : But b w w1) (g : But b w1 w2) : But b w w2 :=
  ⟨g.os.trans h.os, g.tape.trans h.tape, g.output.trans h.output, Nat.le_trans h.size g.size, fun c hc hn => (g.block c (Nat.lt_of_lt_of_le hc h.size) hn).trans (h.block c hc hn)⟩
theorem But.of_below {b : Nat} {w w' : World} (h : Below w.heap.size w w') : But b w w' := ⟨h.os, h.tape, h.output, h.size, fun c hc _ => h.block c hc⟩
theorem But.below {b : Nat} {w w1 w2 : World} (h : But b w w1) (g : Below w1.heap.size w1 w2) : But b w w2 := h.trans (But.of_below g)
theorem But.to_below {b n : Nat} {w w' : World} (h : But b w w') (hb : n ≤ b) (hn : n ≤ w.heap.size) : Below n w w' := ⟨h.os, h.tape, h.output, h.size, fun c hc => h.block c (by omega) (by omega)⟩
theorem But.blk {b c : Nat} {w w' : World} {cs : List Value} {T : TypeId} (h : But b w w') (hc : Blk w c cs T) (hn : c ≠ b) : Blk w' c cs T := (h.block c hc.lt hn).trans hc
theorem But.cell {b : Nat} {w w' : World} (h : But b w w') {p : Addr} {u : Value} (hp : p.block ≠ b) (hu : w.cell? p = some u) : w'.cell? p = some u := by
  rw [World.cell?_of_block (h.block p.block (World.block_lt_of_cell? w _ hu) hp)]; exact hu
theorem But.set {w : World} {b : Nat} {cs : List Value} {T : TypeId} (_h : Blk w b cs T) (j : Nat) (v : Value) : But b w (w.setCell ⟨b, j, none⟩ v) :=
  ⟨rfl, rfl, rfl, by show w.heap.size ≤ (w.heap.modify b _).size; rw [Array.size_modify]; exact Nat.le_refl _, fun c _ hn => Below.heap_setCell w ⟨b, j, none⟩ v c hn⟩
end Go.Proofs.YtaefpjecalnbcaaGreat
