/- Parts of a proof: texts of the author, merged. No condition of their own. -/
import Derived.Test.YtaefpjecalnbcaaGreatZ01
import Derived.Test.YtaefpjecalnbcaaGreatZ07
import Derived.Test.YtaefpjecalnbcaaGreatZ08
import Derived.Test.YtaefpjecalnbcaaGreatZ09
import Derived.Test.YtaefpjecalnbcaaGreatZ10
import Derived.Deep.AppendSrc
import Derived.Maps.AppendAt
import Derived.OwnWalk
import Derived.OwnWalkIn
namespace Go.Proofs.YtaefpjecalnbcaaGreat
open Go.RowKit
def intV (x : Int) : Value := .int .i64 x
def i64ok (x : Int) : Prop := -9223372036854775808 ≤ x ∧ x ≤ 9223372036854775807
def IntsAt (w : World) (v : Value) (l : List Int) : Prop := Seg w v 1 l.length (l.map intV) ∧ ∀ x ∈ l, i64ok x
theorem IntsAt.keep {w w' : World} {v : Value} {l : List Int} (h : IntsAt w v l) (hk : ∀ p u, w.cell? p = some u → w'.cell? p = some u) : IntsAt w' v l := ⟨h.1.keep hk, h.2⟩
theorem IntsAt.below {w w' : World} {v : Value} {l : List Int} (h : IntsAt w v l) (hb : Below w.heap.size w w') : IntsAt w' v l := h.keep (below_keeps hb)
theorem IntsAt.open {w : World} {v : Value} {l : List Int} (h : IntsAt w v l) :
    l.length ≤ 140737488355328 ∧ ∃ a cap, v = .slice a l.length cap ∧ (a = none → cap = 0) ∧ ∀ k x, l[k]? = some x → i64ok x ∧ ∃ b o, a = some ⟨b, o, none⟩ ∧ w.cell? ⟨b, o + k, none⟩ = some (.int .i64 x) := by
  obtain ⟨⟨_, h2, a, cap, hv, h3, h4, h5, h6⟩, hl⟩ := h
  refine ⟨h2, a, cap, hv, h5, fun k t hk => ⟨hl _ (List.mem_of_getElem? hk), h6 k _ ?_⟩⟩
  simp [hk, intV]
theorem size_int (w : World) : (sizeOf 3).run Tryz.prog w = .ok 1 w := by kernel_rfl
theorem under_ints : Tryz.prog.underlying 68 = some (.slice 3) := Tryz.underlying68
theorem info_int : (Tryz.prog.info? 3).map (fun i => (i.zero, i.size, i.bytes)) = some (some (.int .i64 0), 1, 8) := by kernel_rfl
def IntsOwn (w : World) (base : Nat) (v : Value) (l : List Int) : Prop := w.ownsRow base 3 1 v l.length (l.map intV)
theorem IntsOwn.ints {w : World} {base : Nat} {v : Value} {l : List Int} (h : IntsOwn w base v l) (hn : l.length ≤ 140737488355328) (hl : ∀ x ∈ l, i64ok x) : IntsAt w v l := ⟨row_seg h hn, hl⟩
theorem IntsOwn.form {w : World} {base : Nat} {v : Value} {l : List Int} (h : IntsOwn w base v l) : ∃ a c, v = .slice a l.length c := by
  rcases h.2 with ⟨h1, h2⟩ | ⟨g, cap, cur, hv, -⟩
  · exact ⟨none, 0, by rw [h1, h2]⟩
  · exact ⟨_, _, hv⟩
theorem ints_append {w : World} {base : Nat} {v x : Value} {l m : List Int} (h : IntsOwn w base v l) (hx : IntsAt w x m) (hlen : l.length + m.length ≤ 17592186044416) (hbase : base ≤ w.heap.size) :
    ∃ v' w', (Builtin.append_ #[68, 68] 68 #[v, x]).run Tryz.prog w = .ok v' w' ∧ IntsOwn w' base v' (l ++ m) ∧ w.grownBy w' v.ownBlock ∧ (v'.ownBlock = v.ownBlock ∨ v'.ownBlock = some w.heap.size) := by
  obtain ⟨v', w', hr, hO, hg, hat⟩ := seg_append (P := Tryz.prog) w base 68 68 3 (.int .i64 0) 1 8 under_ints info_int rfl (by decide) v x l.length m.length _ _ h hx.1
    (by intro u hu; obtain ⟨c, -, rfl⟩ := List.mem_map.1 hu; rfl) (by omega) (by omega) hbase
  refine ⟨v', w', hr, ?_, hg, hat⟩
  unfold IntsOwn
  rw [List.length_append, List.map_append]
  exact hO
set_option maxRecDepth 100000 in
set_option maxHeartbeats 4000000 in
theorem clone_ints {w : World} {v : Value} {l : List Int} (h : IntsAt w v l) (hl : l.length ≤ 17592186044416) :
    Calls Tryz.prog 51 #[v] w fun e w' => ∃ v', e = .returned v' ∧ IntsOwn w' w.heap.size v' l ∧ Below w.heap.size w w' := by
  have H := hid h
  obtain ⟨hlen, a, cap, rfl, hnil, -⟩ := h.open
  obtain ⟨n, HN⟩ : ∃ n, Hid (n = l.length) := ⟨_, rfl⟩
  rw [← HN.out] at hlen H hl ⊢
  clear h
  cases a with
  | none =>
    have := hnil rfl
    have HE : Hid (l = []) := List.eq_nil_of_length_eq_zero (by have := HN.out; obtain ⟨-, -, a', c', e, h1, -⟩ := H.out.1; cases e; omega)
    clear hlen hl
    go_enter Tryz.func51, Tryz.ntmps51
    have eqn := fun W a n c n' c' => Lib.run_eql_slice_nil (P := Tryz.prog) W 68 _ a n c n' c' under_ints
    go_wp2
    go_ret
    refine ⟨_, rfl, ?_, Below.refl _ _⟩
    rw [HE.out]
    exact World.ownsRow_nil _ _ _ _
  | some ad =>
    have hO : IntsOwn (w.alloc (.cells #[] 3)) w.heap.size (.slice (some ⟨w.heap.size, 0, none⟩) 0 0) [] := by
      exact World.ownsRow_made (base := w.heap.size) (e := 3) (size := 1) w #[] 0 (Nat.le_refl _) (by unfold maxLen; omega) rfl
    obtain ⟨v', w', hr, hO', hg, -⟩ := ints_append hO (H.out.below ((Below.refl _ _).alloc (Nat.le_refl _) _)) (by rw [← HN.out]; simp; omega) (by simp)
    have hg' : Below w.heap.size w w' := ((Below.refl w.heap.size w).alloc (Nat.le_refl _) (.cells #[] 3)).grown hg (by simp) (by intro q e; simp [Value.ownBlock] at e; omega)
    have HO := hid hO'
    have HG := hid hg'
    clear hO' hg' hg hO
    go_enter Tryz.func51, Tryz.ntmps51
    have eqn := fun W a n c n' c' => Lib.run_eql_slice_nil (P := Tryz.prog) W 68 _ a n c n' c' under_ints
    go_wp2_with (at_builtin; refine wpList_append_eq rfl _ _ _ rfl _ _ rfl rfl hr ?_)
    go_ret
    exact ⟨_, rfl, HO.out, HG.out⟩
/-! Two lists, from a place on -/
theorem drop_at {α : Type} {l : List α} {i : Nat} {x : α} (h : l[i]? = some x) : l.drop i = x :: l.drop (i + 1) := by
  obtain ⟨hl, e⟩ := List.getElem?_eq_some_iff.1 h
  rw [List.drop_eq_getElem_cons hl, e]
theorem int_get {l : List Int} {n i : Nat} (hn : n = l.length) (h : i < n) : ∃ x, l[i]? = some x := ⟨_, List.getElem?_eq_getElem (by omega)⟩
theorem same_at {l m : List Int} {i : Nat} {x y : Int} (hx : l[i]? = some x) (hy : m[i]? = some y) : (l.drop i = m.drop i) ↔ x = y ∧ l.drop (i + 1) = m.drop (i + 1) := by
  rw [drop_at hx, drop_at hy, List.cons.injEq]
set_option maxRecDepth 100000 in
set_option maxHeartbeats 4000000 in
theorem equal_ints {w : World} {v u : Value} {l m : List Int} (h : IntsAt w v l) (hu : IntsAt w u m) :
    Calls Tryz.prog 77 #[v, u] w fun e w' => e = .returned (.bool (decide (l = m))) ∧ Drew w w' := by
  obtain ⟨hl, a, c, rfl, -, hat⟩ := h.open
  obtain ⟨hm, a2, c2, rfl, -, hbt⟩ := hu.open
  obtain ⟨n, HN⟩ : ∃ n, Hid (n = l.length) := ⟨_, rfl⟩
  obtain ⟨n2, HN2⟩ : ∃ n, Hid (n = m.length) := ⟨_, rfl⟩
  rw [← HN.out] at hl ⊢
  rw [← HN2.out] at hm ⊢
  obtain ⟨z, HZ⟩ : ∃ z, Hid (z = decide (l = m)) := ⟨_, rfl⟩
  rw [← HZ.out]
  have HAT := hid hat
  have HBT := hid hbt
  clear hat hbt h hu
  by_cases hnn : n = n2
  · subst hnn
    go_enter Tryz.func77, Tryz.ntmps77
    go_wp2_with fail
    go_loopw [13] (fun v5 wr => ∃ i : Nat, v5 = .int .i64 i ∧ i ≤ n ∧ Hid (z = decide (l.drop i = m.drop i)) ∧ (∃ k, wr = w.drewN k)) (fun v5 _ => n - (intOf v5).toNat)
    case atStart => exact ⟨0, rfl, by omega, by rw [Hid, HZ.out]; simp, 0, rfl⟩
    case round =>
      obtain ⟨i, rfl, hi, HI, kw, rfl⟩ := hrel
      by_cases h1 : i < n
      · obtain ⟨x, hxi⟩ := int_get HN.out h1
        obtain ⟨y, hyi⟩ := int_get HN2.out h1
        obtain ⟨hx64, b, o, ha, g0⟩ := HAT.out i x hxi
        obtain ⟨hy64, b2, o2, ha2, g2⟩ := HBT.out i y hyi
        have HC := hid (same_at hxi hyi)
        have hix := index_run1 Tryz.underlying68 size_int ha i h1 (cap := c)
        have hix2 := index_run1 Tryz.underlying68 size_int ha2 i h1 (cap := c2)
        clear hxi hyi ha ha2
        by_cases hxy : x = y
        · have HC1 : Hid (z = decide (l.drop (i + 1) = m.drop (i + 1))) := by
            rw [Hid, HI.out, decide_eq_decide, HC.out]; simp [hxy]
          have hb1 : (x != y) = false := by simpa using hxy
          have hb2 : (x == y) = true := by simpa using hxy
          have HXY := hid hxy
          clear hxy
          go_wp2_with fail
          go_quiet (fail)
          go_wp2_with fail
          go_roundw
          case rel => exact ⟨i + 1, by go_num, h1, HC1.out, _, rfl⟩
          case measure => simp [intOf]; omega
        · have HC1 : Hid (z = false) := by
            rw [Hid, HI.out, decide_eq_false_iff_not, HC.out]; simp [hxy]
          have hb1 : (x != y) = true := by simpa using hxy
          have hb2 : (x == y) = false := by simpa using hxy
          have HXY := hid hxy
          clear hxy
          go_wp2_with fail
          go_quiet (fail)
          go_wp2_with fail
          go_ret
          exact ⟨by rw [HC1.out]; first | done | rfl, _, World.drewN_drewN _ _ _⟩
      · obtain rfl : i = n := by omega
        have HC1 : Hid (z = true) := by
          rw [Hid, HI.out, List.drop_eq_nil_of_le (by rw [← HN.out]; omega), List.drop_eq_nil_of_le (by rw [← HN2.out]; omega)]; simp
        go_wp2_with fail
        go_ret
        exact ⟨by rw [HC1.out]; first | done | rfl, _, rfl⟩
  · have HC1 : Hid (z = false) := by
      rw [Hid, HZ.out, decide_eq_false_iff_not]; rintro rfl; exact hnn (by rw [HN.out, HN2.out])
    have e1 : decide ((n : Int) = n2) = false := decide_eq_false (by omega)
    have e2 : ((n : Int) == n2) = false := by simp; omega
    have e3 : (n == n2) = false := by simp; omega
    clear hnn
    go_enter Tryz.func77, Tryz.ntmps77
    go_wp2_with fail
    go_ret
    exact ⟨by rw [HC1.out]; first | done | rfl, 0, rfl⟩
/-! The order of ways -/
def cmpW : List Int → List Int → Int
  | [], [] => 0
  | [], _ :: _ => -1
  | _ :: _, [] => 1
  | x :: a, y :: b => if x < y then -1 else if y < x then 1 else cmpW a b
theorem cmpW_iff : ∀ a b, cmpW a b < 0 ↔ ltW a b = true
  | [], [] => by simp [cmpW, ltW]
  | [], _ :: _ => by simp [cmpW, ltW]
  | _ :: _, [] => by simp [cmpW, ltW]
  | x :: a, y :: b => by
    have ih := cmpW_iff a b
    simp only [cmpW, ltW]
    by_cases h1 : x < y
    · rw [if_pos h1, if_neg (by omega)]; simp [h1]
    · rw [if_neg h1]
      by_cases h2 : y < x
      · rw [if_pos h2, if_neg (by omega)]; simp; omega
      · rw [if_neg h2, if_pos (by omega)]; exact ih
theorem cmpW_lt (a b : List Int) : decide (cmpW a b < 0) = ltW a b := by
  rw [Bool.eq_iff_iff, decide_eq_true_iff]; exact cmpW_iff a b
theorem cmpW_at {l m : List Int} {i : Nat} {x y : Int} (hx : l[i]? = some x) (hy : m[i]? = some y) : cmpW (l.drop i) (m.drop i) = if x < y then -1 else if y < x then 1 else cmpW (l.drop (i + 1)) (m.drop (i + 1)) := by
  rw [drop_at hx, drop_at hy, cmpW]
theorem cmpW_end1 {l m : List Int} {i : Nat} (hx : l.length ≤ i) : cmpW (l.drop i) (m.drop i) = if i < m.length then -1 else 0 := by
  rw [List.drop_eq_nil_of_le hx]
  split
  · rename_i h; rw [List.drop_eq_getElem_cons h]; rfl
  · rw [List.drop_eq_nil_of_le (by omega)]; rfl
theorem cmpW_end2 {l m : List Int} {i : Nat} (hx : i < l.length) (hy : m.length ≤ i) : cmpW (l.drop i) (m.drop i) = 1 := by
  rw [List.drop_eq_nil_of_le hy, List.drop_eq_getElem_cons hx]; rfl
set_option maxRecDepth 100000 in
set_option maxHeartbeats 4000000 in
theorem cmp_Compare_int (x y : Int) (w : World) :
    Calls Tryz.prog 76 #[.int .i64 x, .int .i64 y] w fun e w' => e = .returned (.int .i64 (if x < y then -1 else if y < x then 1 else 0)) ∧ w = w' := by
  by_cases h1 : x < y
  · rw [if_pos h1]
    have e2 : ¬ y < x := by omega
    go_enter Tryz.func76, Tryz.ntmps76
    go_wp2
    go_ret
    exact ⟨rfl, rfl⟩
  · rw [if_neg h1]
    by_cases h2 : y < x
    · rw [if_pos h2]
      go_enter Tryz.func76, Tryz.ntmps76
      go_wp2
      go_ret
      exact ⟨rfl, rfl⟩
    · rw [if_neg h2]
      go_enter Tryz.func76, Tryz.ntmps76
      go_wp2
      go_ret
      exact ⟨rfl, rfl⟩
set_option maxRecDepth 100000 in
set_option maxHeartbeats 4000000 in
theorem compare_ints {w : World} {v u : Value} {l m : List Int} (h : IntsAt w v l) (hu : IntsAt w u m) :
    Calls Tryz.prog 49 #[v, u] w fun e w' => e = .returned (.int .i64 (cmpW l m)) ∧ w' = w := by
  obtain ⟨hl, a, c, rfl, -, hat⟩ := h.open
  obtain ⟨hm, a2, c2, rfl, -, hbt⟩ := hu.open
  obtain ⟨n, HN⟩ : ∃ n, Hid (n = l.length) := ⟨_, rfl⟩
  obtain ⟨n2, HN2⟩ : ∃ n, Hid (n = m.length) := ⟨_, rfl⟩
  rw [← HN.out] at hl ⊢
  rw [← HN2.out] at hm ⊢
  obtain ⟨z, HZ⟩ : ∃ z, Hid (z = cmpW l m) := ⟨_, rfl⟩
  rw [← HZ.out]
  have HAT := hid hat
  have HBT := hid hbt
  clear hat hbt h hu
  go_enter Tryz.func49, Tryz.ntmps49
  go_wp2_with fail
  go_loop [11] (fun v5 => ∃ i : Nat, v5 = .int .i64 i ∧ i ≤ n ∧ i ≤ n2 ∧ Hid (z = cmpW (l.drop i) (m.drop i))) (fun v5 => n - (intOf v5).toNat)
  case atStart => exact ⟨0, rfl, by omega, by omega, by rw [Hid, HZ.out]; simp⟩
  case round =>
    obtain ⟨i, rfl, hi, hi2, HI⟩ := hrel
    by_cases h1 : i < n
    · obtain ⟨x, hxi⟩ := int_get HN.out h1
      obtain ⟨hx64, b, o, ha, g0⟩ := HAT.out i x hxi
      have hix := index_run1 Tryz.underlying68 size_int ha i h1 (cap := c)
      by_cases h2 : i < n2
      · obtain ⟨y, hyi⟩ := int_get HN2.out h2
        obtain ⟨hy64, b2, o2, ha2, g2⟩ := HBT.out i y hyi
        have HC := hid (cmpW_at hxi hyi)
        have hix2 := index_run1 Tryz.underlying68 size_int ha2 i h2 (cap := c2)
        have hge : ¬ (n2 ≤ i) := by omega
        clear hxi hyi ha ha2
        obtain ⟨q, HQ⟩ : ∃ q, Hid (q = (if x < y then -1 else if y < x then 1 else 0 : Int)) := ⟨_, rfl⟩
        by_cases hq : q = 0
        · have HC1 : Hid (z = cmpW (l.drop (i + 1)) (m.drop (i + 1))) := by
            have e1 : ¬ x < y := fun h => by have := HQ.out; rw [if_pos h] at this; omega
            have e2 : ¬ y < x := fun h => by have := HQ.out; rw [if_neg e1, if_pos h] at this; omega
            rw [Hid, HI.out, HC.out, if_neg e1, if_neg e2]
          subst hq
          go_wp2_with (go_at_call 76; refine (cmp_Compare_int x y _).mono ?_; rintro e w' ⟨rfl, rfl⟩; rw [← HQ.out])
          go_round
          case rel => exact ⟨i + 1, by go_num, h1, h2, HC1.out⟩
          case measure => simp [intOf]; omega
        · have HC1 : Hid (z = q) := by
            rw [Hid, HI.out, HC.out, HQ.out]
            by_cases e1 : x < y
            · rw [if_pos e1, if_pos e1]
            · rw [if_neg e1, if_neg e1]
              by_cases e2 : y < x
              · rw [if_pos e2, if_pos e2]
              · exact absurd (by rw [HQ.out, if_neg e1, if_neg e2]) hq
          have hb1 : (q != 0) = true := by simpa using hq
          have hb2 : (q == 0) = false := by simpa using hq
          clear hq
          go_wp2_with (go_at_call 76; refine (cmp_Compare_int x y _).mono ?_; rintro e w' ⟨rfl, rfl⟩; rw [← HQ.out])
          go_ret
          exact ⟨by rw [HC1.out]; first | done | rfl, rfl⟩
      · have HC1 : Hid (z = 1) := by
          rw [Hid, HI.out, cmpW_end2 (by rw [← HN.out]; exact h1) (by rw [← HN2.out]; omega)]
        have hge : n2 ≤ i := by omega
        clear hxi ha
        go_wp2_with fail
        go_ret
        exact ⟨by rw [HC1.out]; first | done | rfl, rfl⟩
    · obtain rfl : i = n := by omega
      by_cases h2 : i < n2
      · have HC1 : Hid (z = -1) := by
          rw [Hid, HI.out, cmpW_end1 (by rw [← HN.out]; omega), if_pos (by rw [← HN2.out]; exact h2)]
        go_wp2_with fail
        go_ret
        exact ⟨by rw [HC1.out]; first | done | rfl, rfl⟩
      · have HC1 : Hid (z = 0) := by
          rw [Hid, HI.out, cmpW_end1 (by rw [← HN.out]; omega), if_neg (by rw [← HN2.out]; exact h2)]
        go_wp2_with fail
        go_ret
        exact ⟨by rw [HC1.out]; first | done | rfl, rfl⟩
theorem IntsAt.h {w : World} {a : Option Addr} {n cap : Nat} {l : List Int} (h : IntsAt w (.slice a n cap) l) (hn : n = l.length) (j : Nat) (hj : j ≤ n) :
    ∃ a' cap', (∀ W, (Instr.slice 68 (.slice a n cap) none (some (.int .i64 (j : Int))) none).run Tryz.prog W = .ok (.slice a' j cap') W) ∧ IntsAt w (.slice a' j cap') (l.take j) := by
  subst hn
  have hcap : l.length ≤ cap := by obtain ⟨⟨_, _, a', cap', hv, h3, _⟩, -⟩ := h; cases hv; exact h3
  have hr := fun W => slice_h_run (P := Tryz.prog) under_ints size_int a l.length cap j (by omega) W
  have hs := Seg.sub h.1 0 j (by omega) hj
  unfold sliced at hr hs
  refine ⟨_, _, hr, ⟨?_, fun x hx => h.2 x (List.mem_of_mem_take hx)⟩⟩
  rw [List.length_take, Nat.min_eq_left (by omega), List.map_take]
  simpa using hs
theorem IntsAt.l {w : World} {a : Option Addr} {n cap : Nat} {l : List Int} (h : IntsAt w (.slice a n cap) l) (hn : n = l.length) (i : Nat) (hi : i ≤ n) :
    ∃ a' cap', (∀ W, (Instr.slice 68 (.slice a n cap) (some (.int .i64 (i : Int))) none none).run Tryz.prog W = .ok (.slice a' (n - i) cap') W) ∧ IntsAt w (.slice a' (n - i) cap') (l.drop i) := by
  subst hn
  have hr := fun W => slice_l_run (P := Tryz.prog) under_ints size_int a l.length cap i (by omega) W
  have hs := Seg.sub h.1 i l.length hi (Nat.le_refl _)
  unfold sliced at hr hs
  refine ⟨_, _, hr, ⟨?_, fun x hx => h.2 x (List.mem_of_mem_drop hx)⟩⟩
  rw [List.length_drop, List.map_drop]
  rw [List.take_of_length_le (by simp)] at hs
  simpa using hs
set_option maxRecDepth 100000 in
set_option maxHeartbeats 4000000 in
theorem mask_begins {w : World} {v u : Value} {l m : List Int} (h : IntsAt w v l) (hu : IntsAt w u m) :
    Calls Tryz.prog 50 #[v, u] w fun e w' => e = .returned (.bool (beginsW l m)) ∧ Drew w w' := by
  have H := hid h
  have HU := hid hu
  obtain ⟨hl, a, c, rfl, -, -⟩ := h.open
  obtain ⟨hm, a2, c2, rfl, -, -⟩ := hu.open
  obtain ⟨n, HN⟩ : ∃ n, Hid (n = l.length) := ⟨_, rfl⟩
  obtain ⟨n2, HN2⟩ : ∃ n, Hid (n = m.length) := ⟨_, rfl⟩
  rw [← HN.out] at hl H ⊢
  rw [← HN2.out] at hm HU ⊢
  obtain ⟨z, HZ⟩ : ∃ z, Hid (z = beginsW l m) := ⟨_, rfl⟩
  rw [← HZ.out]
  clear h hu
  by_cases hn : n2 ≤ n
  · obtain ⟨a', c', hsl, hI⟩ := H.out.h HN.out n2 hn
    have HI := hid hI
    have HZ2 : Hid (decide (l.take n2 = m) = z) := by
      rw [Hid, HZ.out, beginsW, ← HN2.out, ← HN.out, decide_eq_true hn, Bool.true_and]
    clear hI
    go_enter Tryz.func50, Tryz.ntmps50
    go_wp2_with (go_at_call 77; refine (equal_ints HI.out HU.out).mono ?_; rintro e w' ⟨rfl, kw, rfl⟩; rw [HZ2.out])
    go_ret
    exact ⟨rfl, _, rfl⟩
  · have HZ2 : Hid (z = false) := by
      rw [Hid, HZ.out, beginsW, ← HN2.out, ← HN.out, decide_eq_false hn, Bool.false_and]
    have hn2 : ¬ ((n2 : Int) ≤ n) := by omega
    go_enter Tryz.func50, Tryz.ntmps50
    go_wp2_with fail
    go_ret
    exact ⟨by rw [HZ2.out]; first | done | rfl, 0, rfl⟩
end Go.Proofs.YtaefpjecalnbcaaGreat
namespace Go.Proofs.YtaefpjecalnbcaaGreat
def mOf (l : List (List Int)) : List (List Int) := rOf l l.length
theorem mOf_mask (l : List (List Int)) : IsMask l (mOf l) := rOf_mask l
theorem insW_len (w : List Int) : ∀ o, (insW w o).length = o.length + 1
  | [] => rfl
  | u :: r => by
    rw [insW]
    split
    · simp [insW_len w r]
    · simp
theorem rOf_len (l : List (List Int)) : ∀ n, (rOf l n).length ≤ n
  | 0 => by simp [rOf]
  | n + 1 => by
    have := rOf_len l n
    rw [rOf]
    split
    · rw [insW_len]; omega
    · omega
theorem mOf_len (l : List (List Int)) : (mOf l).length ≤ l.length := rOf_len l _
def wholeW (n : Int) (l : List Int) : Bool := decide (l = [n])
def underW (l : List (List Int)) (n : Int) : List (List Int) := (l.filter (fun w => decide (1 < w.length) && decide (w.head? = some n))).map List.tail
theorem under_mem (l : List (List Int)) (n : Int) (w : List Int) : w ∈ underW l n ↔ w ≠ [] ∧ n :: w ∈ l := by
  unfold underW
  simp only [List.mem_map, List.mem_filter, Bool.and_eq_true, decide_eq_true_eq]
  constructor
  · rintro ⟨v, ⟨h1, h2, h3⟩, rfl⟩
    cases v with
    | nil => simp at h2
    | cons x v =>
      simp at h2 h3
      subst h3
      exact ⟨fun e => by simp at e; subst e; simp at h2, h1⟩
  · rintro ⟨h1, h2⟩
    exact ⟨n :: w, ⟨h2, by have := List.length_pos_iff.2 h1; simp; omega, rfl⟩, rfl⟩
theorem under_sorted {l : List (List Int)} (h : l.Pairwise (fun a b => ltW a b = true)) (n : Int) : (underW l n).Pairwise (fun a b => ltW a b = true) := by
  unfold underW
  rw [List.pairwise_map]
  refine List.Pairwise.imp_of_mem ?_ (h.filter _)
  intro a b ha hb hab
  have ha' := (List.mem_filter.1 ha).2
  have hb' := (List.mem_filter.1 hb).2
  simp only [Bool.and_eq_true, decide_eq_true_eq] at ha' hb'
  cases a with
  | nil => simp at ha'
  | cons x a =>
    cases b with
    | nil => simp at hb'
    | cons y b =>
      simp at ha' hb'
      obtain ⟨-, rfl⟩ := ha'
      obtain ⟨-, rfl⟩ := hb'
      simpa [ltW] using hab
theorem under_self (l : List (List Int)) (n : Int) : mOf (underW (mOf l) n) = underW (mOf l) n := by
  refine (mOf_mask _).one ⟨under_sorted (mOf_mask l).1 n, fun w => ⟨fun hw => ?_, fun hw => hw.1⟩⟩
  obtain ⟨h1, h2⟩ := (under_mem _ _ _).1 hw
  refine ⟨hw, h1, fun u hu hn hp => ?_⟩
  obtain ⟨g1, g2⟩ := (under_mem _ _ _).1 hu
  have e := (((mOf_mask l).2 _).1 h2).2.2 (n :: u) (((mOf_mask l).2 _).1 g2).1 (by simp) (by rw [List.cons_prefix_cons]; exact ⟨rfl, hp⟩)
  exact (List.cons.inj e).2
end Go.Proofs.YtaefpjecalnbcaaGreat
namespace Go.Proofs.YtaefpjecalnbcaaGreat
open Go.RowKit
def WayP (w : World) (r : List Value) (l : List Int) : Prop := ∃ v, r = [v] ∧ IntsAt w v l
def WaysAt (w : World) (v : Value) (ls : List (List Int)) : Prop := RowsAt WayP 1 w v ls
theorem WayP.keep {w w' : World} {r : List Value} {l : List Int} (h : WayP w r l) (hk : ∀ p u, w.cell? p = some u → w'.cell? p = some u) : WayP w' r l := let ⟨v, h1, h2⟩ := h; ⟨v, h1, h2.keep hk⟩
theorem WaysAt.keep {w w' : World} {v : Value} {ls : List (List Int)} (h : WaysAt w v ls) (hk : ∀ p u, w.cell? p = some u → w'.cell? p = some u) : WaysAt w' v ls := RowsAt.keep h hk fun _ _ hx => hx.keep hk
theorem WaysAt.below {w w' : World} {v : Value} {ls : List (List Int)} (h : WaysAt w v ls) (hb : Below w.heap.size w w') : WaysAt w' v ls := h.keep (below_keeps hb)
theorem WaysAt.open {w : World} {v : Value} {ls : List (List Int)} (h : WaysAt w v ls) :
    ls.length ≤ 140737488355328 ∧ ∃ a cap, v = .slice a ls.length cap ∧ (a = none → cap = 0) ∧ ∀ k l, ls[k]? = some l → ∃ b o a2 c2, a = some ⟨b, o, none⟩ ∧ w.cell? ⟨b, o + k, none⟩ = some (.slice a2 l.length c2) ∧ IntsAt w (.slice a2 l.length c2) l := by
  obtain ⟨h1, a, cap, h2, h3, h4⟩ := RowsAt.open (by decide) h
  refine ⟨h1, a, cap, h2, h3, fun k l hl => ?_⟩
  obtain ⟨b, o, r, ha, -, hc, v', rfl, hI⟩ := h4 k l hl
  have hI' := hI
  obtain ⟨-, a2, c2, rfl, -, -⟩ := hI'.open
  have := hc 0 _ rfl
  rw [Nat.mul_one, Nat.add_zero] at this
  exact ⟨b, o, a2, c2, ha, this, hI⟩
theorem size_ints (w : World) : (sizeOf 68).run Tryz.prog w = .ok 1 w := by kernel_rfl
theorem under_ways : Tryz.prog.underlying 28 = some (.slice 68) := Tryz.underlying28
theorem info_ints : (Tryz.prog.info? 68).map (fun i => (i.zero, i.size, i.bytes)) = some (some (.slice none 0 0), 1, 24) := by kernel_rfl
theorem way_get {ls : List (List Int)} {n i : Nat} (hn : n = ls.length) (h : i < n) : ∃ x, ls[i]? = some x := ⟨_, List.getElem?_eq_getElem (by omega)⟩
end Go.Proofs.YtaefpjecalnbcaaGreat
namespace Go.Proofs.YtaefpjecalnbcaaGreat
open Go.RowKit
theorem any_at {α : Type} {p : α → Bool} {l : List α} {i : Nat} {x : α} (h : l[i]? = some x) : (l.drop i).any p = (p x || (l.drop (i + 1)).any p) := by
  rw [drop_at h]; rfl
theorem any_end {α : Type} {p : α → Bool} {l : List α} {i : Nat} (h : l.length ≤ i) : (l.drop i).any p = false := by
  rw [List.drop_eq_nil_of_le h]; rfl
def IndexPost (z : Bool) (w : World) (e : Ending) (w' : World) : Prop := ∃ r : Int, e = .returned (.int .i64 r) ∧ decide (0 ≤ r) = z ∧ Drew w w'
set_option maxRecDepth 100000 in
set_option maxHeartbeats 4000000 in
theorem indexFunc_ways {w : World} {v : Value} {ls : List (List Int)} (h : WaysAt w v ls) (F : Nat) (cap : Array Value) (p : List Int → Bool) (hcf : ∀ (args : Array Value) (w : World), (callFunc F args).run Tryz.prog w = .ok (.enter F args) w)
    (hcl : ∀ (u : Value) (l : List Int) (wr : World), IntsAt wr u l → Drew w wr → Calls Tryz.prog F (#[u] ++ cap) wr fun e w' => e = .returned (.bool (p l)) ∧ Drew wr w') :
    Calls Tryz.prog 149 #[v, .func (.func F) #[] cap] w (IndexPost (ls.any p) w) := by
  obtain ⟨hlen, a, c, rfl, -, hat⟩ := h.open
  obtain ⟨n, HN⟩ : ∃ n, Hid (n = ls.length) := ⟨_, rfl⟩
  rw [← HN.out] at hlen ⊢
  obtain ⟨z, HZ⟩ : ∃ z, Hid (z = ls.any p) := ⟨_, rfl⟩
  rw [← HZ.out]
  have HAT := hid hat
  have HCL := hid hcl
  clear hat hcl
  go_enter Tryz.func149, Tryz.ntmps149
  go_wp2
  go_loopw [8] (fun v8 wr => ∃ k : Nat, k ≤ n ∧ v8 = .int .i64 k ∧ Hid (z = (ls.drop k).any p) ∧ Hid (Drew w wr)) (fun v8 _ => n - (intOf v8).toNat)
  case atStart => exact ⟨0, by omega, rfl, by rw [Hid, HZ.out]; rfl, Drew.refl _⟩
  case round =>
    obtain ⟨k, hk, rfl, HK, HB⟩ := hrel
    by_cases hlt : k < n
    · obtain ⟨x, hxi⟩ := way_get HN.out hlt
      obtain ⟨b, o, xa, xc, ha, g0, hX⟩ := HAT.out k x hxi
      replace g0 := HB.out.keeps _ _ g0
      have HX := hid (hX.keep HB.out.keeps)
      have HA := hid (any_at (p := p) hxi)
      have hix := index_run1 Tryz.underlying28 size_ints ha k hlt (cap := c)
      obtain ⟨xn, HXN⟩ : ∃ xn, Hid (xn = x.length) := ⟨_, rfl⟩
      rw [← HXN.out] at g0 HX
      clear hxi hX ha
      go_wp2_with fail
      have hcl := HCL.out
      refine (hcl _ x _ HX.out HB.out).mono ?_
      rintro e w5 ⟨rfl, hb5⟩
      clear hcl
      have HB5 : Hid (Drew w w5) := HB.out.trans hb5
      clear hb5
      cases hp : p x with
      | true =>
        have HE : Hid (z = true) := by rw [Hid, HK.out, HA.out, hp]; rfl
        clear hp
        go_wp2
        go_ret
        exact ⟨_, rfl, by rw [HE.out]; simp, HB5.out⟩
      | false =>
        have HE : Hid (z = (ls.drop (k + 1)).any p) := by rw [Hid, HK.out, HA.out, hp]; rfl
        clear hp
        go_wp2
        go_roundw
        case rel => exact ⟨k + 1, by omega, by go_num, HE.out, HB5.out⟩
        case measure => simp [intOf]; omega
    · have HE : Hid (z = false) := by rw [Hid, HK.out, any_end (by rw [← HN.out]; omega)]
      go_wp2
      go_ret
      exact ⟨_, rfl, by rw [HE.out]; rfl, HB.out⟩
set_option maxRecDepth 100000 in
set_option maxHeartbeats 4000000 in
theorem containsFunc_ways {w : World} {v : Value} {ls : List (List Int)} (h : WaysAt w v ls) (F : Nat) (cap : Array Value) (p : List Int → Bool) (hcf : ∀ (args : Array Value) (w : World), (callFunc F args).run Tryz.prog w = .ok (.enter F args) w)
    (hcl : ∀ (u : Value) (l : List Int) (wr : World), IntsAt wr u l → Drew w wr → Calls Tryz.prog F (#[u] ++ cap) wr fun e w' => e = .returned (.bool (p l)) ∧ Drew wr w') :
    Calls Tryz.prog 118 #[v, .func (.func F) #[] cap] w fun e w' => e = .returned (.bool (ls.any p)) ∧ Drew w w' := by
  have HI := hid (indexFunc_ways h F cap p hcf hcl)
  obtain ⟨-, a, c, rfl, -, -⟩ := h.open
  obtain ⟨z, HZ⟩ : ∃ z, Hid (z = ls.any p) := ⟨_, rfl⟩
  rw [← HZ.out] at HI ⊢
  clear h hcl
  go_enter Tryz.func118, Tryz.ntmps118
  go_wp2_with fail
  refine HI.out.mono ?_
  rintro e w1 ⟨r, rfl, hr, hb⟩
  have HR := hid hr
  have HB := hid hb
  clear hr hb
  by_cases h0 : 0 ≤ r
  · have HT : Hid (z = true) := by rw [Hid, ← HR.out]; exact decide_eq_true h0
    go_wp2_with fail
    go_ret
    exact ⟨by rw [HT.out]; first | done | rfl, HB.out⟩
  · have HT : Hid (z = false) := by rw [Hid, ← HR.out]; exact decide_eq_false h0
    have e1 : decide (0 ≤ r) = false := decide_eq_false h0
    go_wp2_with fail
    go_ret
    exact ⟨by rw [HT.out]; first | done | rfl, HB.out⟩
def maskV (v : Value) : Value := .agg #[v]
end Go.Proofs.YtaefpjecalnbcaaGreat
namespace Go.Proofs.YtaefpjecalnbcaaGreat
open Go.RowKit
theorem wp_append2_eq {P : Program} {w : World} {o : Oper} {a : Act} {K : Act → World → Prop} {Q : Exit → Act → World → Prop} (s x : Operand) (t u : TypeId)
    (ho : o.op = .call { callee := .builtin .append, args := #[s, x], argTypes := #[t, u] }) (v xv : Value) (hs : a.eval s = v) (hx : a.eval x = xv) {v' : Value} {w' : World}
    (hr : (Builtin.append_ #[t, u] o.type #[v, xv]).run P w = .ok v' w') (h : K (a.put o.dst v') w') : o.wp P a w K Q := by
  unfold Oper.wp execOp
  simp only [ho, resolve, invoke, builtin, Sem.run_bind, Sem.run_pure, Result.andThen_ok, List.map_toArray, List.map_cons, List.map_nil, hs, hx, hr]
  exact h
theorem wpList_append2_eq {P : Program} {w : World} {ops : Array Oper} {rest : List Oper} {o : Oper} {a : Act} {Q : Exit → Act → World → Prop} (hgd : o.guard = none) (s x : Operand) (t u : TypeId)
    (ho : o.op = .call { callee := .builtin .append, args := #[s, x], argTypes := #[t, u] }) (v xv : Value) (hs : a.eval s = v) (hx : a.eval x = xv) {v' : Value} {w' : World}
    (hr : (Builtin.append_ #[t, u] o.type #[v, xv]).run P w = .ok v' w') (h : wpList P ops Q rest (a.put o.dst v') w') : wpList P ops Q (o :: rest) a w :=
  wpList_plain hgd fun _ hK => wp_append2_eq s x t u ho v xv hs hx hr (hK _ _ h)
end Go.Proofs.YtaefpjecalnbcaaGreat
namespace Go.Proofs.YtaefpjecalnbcaaGreat
open Go.RowKit
set_option maxRecDepth 100000 in
set_option maxHeartbeats 4000000 in
theorem mask_Whole_1 {w : World} {q : Nat} {u : Value} {x : Int} {l : List Int} (hq : w.cell? ⟨q, 0, none⟩ = some (.int .i64 x)) (hu : IntsAt w u l) :
    Calls Tryz.prog 119 #[u, .pointer (some ⟨q, 0, none⟩)] w fun e w' => e = .returned (.bool (wholeW x l)) ∧ Drew w w' := by
  obtain ⟨-, a2, c2, rfl, -, hat⟩ := hu.open
  match l, hat with
  | [], _ =>
    go_enter Tryz.func119, Tryz.ntmps119
    go_wp2_with fail
    go_quiet (fail)
    go_wp2_with fail
    go_ret
    exact ⟨rfl, Drew.at_drewN _ _⟩
  | [y], hat =>
    obtain ⟨-, b, o, ha, g0⟩ := hat 0 y rfl
    have hix := index_0 Tryz.underlying68 size_int ha (by decide : 0 < 1) (cap := c2)
    rw [Nat.add_zero] at g0
    clear hat ha
    by_cases hxy : y = x
    · subst hxy
      go_enter Tryz.func119, Tryz.ntmps119
      go_wp2_with fail
      go_quiet (fail)
      go_wp2_with fail
      go_ret
      exact ⟨by simp [wholeW], Drew.at_drewN _ _⟩
    · have e1 : (y == x) = false := by simpa using hxy
      have HE : Hid (wholeW x [y] = false) := by simp [Hid, wholeW, hxy]
      clear hxy
      go_enter Tryz.func119, Tryz.ntmps119
      go_wp2_with fail
      go_quiet (fail)
      go_wp2_with fail
      go_ret
      exact ⟨by rw [HE.out]; first | done | rfl, Drew.at_drewN _ _⟩
  | y :: y2 :: r, _ =>
    obtain ⟨n, HN⟩ : ∃ n, Hid (n = (y :: y2 :: r).length) := ⟨_, rfl⟩
    have HE : Hid (wholeW x (y :: y2 :: r) = false) := by simp [Hid, wholeW]
    rw [HE.out, ← HN.out]
    have e1 : ((n : Int) == 1) = false := by have := HN.out; simp at this; simp; omega
    have e2 : decide ((n : Int) = 1) = false := by have := HN.out; simp at this; simp; omega
    have e3 : (n == 1) = false := by have := HN.out; simp at this; simp; omega
    clear hat hu
    go_enter Tryz.func119, Tryz.ntmps119
    go_wp2_with fail
    go_quiet (fail)
    go_wp2_with fail
    go_ret
    exact ⟨rfl, Drew.at_drewN _ _⟩
def WaysRow (w : World) (base : Nat) (v : Value) (vs : List Value) : Prop := w.ownsRow base 68 1 v vs.length vs
set_option maxRecDepth 100000 in
set_option maxHeartbeats 4000000 in
theorem clone_ways {w : World} {v : Value} {vs : List Value} (h : Seg w v 1 vs.length vs) (h1 : ∀ u ∈ vs, u.oneCell' = true) (hl : vs.length ≤ 1099511627776) :
    Calls Tryz.prog 47 #[v] w fun e w' => ∃ v', e = .returned v' ∧ WaysRow w' w.heap.size v' vs ∧ Below w.heap.size w w' := by
  have H := hid h
  obtain ⟨-, -, a, cap, rfl, -, -, hnil, -⟩ := h
  obtain ⟨n, HN⟩ : ∃ n, Hid (n = vs.length) := ⟨_, rfl⟩
  rw [← HN.out] at hl H ⊢
  cases a with
  | none =>
    have := hnil rfl
    have HE : Hid (vs = []) := List.eq_nil_of_length_eq_zero (by have := HN.out; obtain ⟨-, -, a', c', e, h1, -⟩ := H.out; cases e; omega)
    clear hl
    go_enter Tryz.func47, Tryz.ntmps47
    have eqn := fun W a n c n' c' => Lib.run_eql_slice_nil (P := Tryz.prog) W 28 _ a n c n' c' under_ways
    go_wp2
    go_ret
    refine ⟨_, rfl, ?_, Below.refl _ _⟩
    rw [HE.out]
    exact World.ownsRow_nil _ _ _ _
  | some ad =>
    have hO : WaysRow (w.alloc (.cells #[] 68)) w.heap.size (.slice (some ⟨w.heap.size, 0, none⟩) 0 0) [] := by
      exact World.ownsRow_made (base := w.heap.size) (e := 68) (size := 1) w #[] 0 (Nat.le_refl _) (by unfold maxLen; omega) rfl
    obtain ⟨v', w', hr, hO', hg, -⟩ := seg_append (P := Tryz.prog) _ w.heap.size 28 28 68 (.slice none 0 0) 1 24 under_ways info_ints rfl (by decide) _ _ _ n _ _ hO (H.out.below ((Below.refl _ _).alloc (Nat.le_refl _) _))
      h1 (by simp; omega) (by simp; omega) (by simp)
    have hg' : Below w.heap.size w w' := ((Below.refl w.heap.size w).alloc (Nat.le_refl _) (.cells #[] 68)).grown hg (by simp) (by intro q e; simp [Value.ownBlock] at e; omega)
    have HO : Hid (WaysRow w' w.heap.size v' vs) := by
      unfold Hid WaysRow; rw [← HN.out]; simpa using hO'
    have HG := hid hg'
    clear hO' hg' hg hO h1
    go_enter Tryz.func47, Tryz.ntmps47
    have eqn := fun W a n c n' c' => Lib.run_eql_slice_nil (P := Tryz.prog) W 28 _ a n c n' c' under_ways
    go_wp2_with (at_builtin; refine wpList_append_eq rfl _ _ _ rfl _ _ rfl rfl hr ?_)
    go_ret
    exact ⟨_, rfl, HO.out, HG.out⟩
end Go.Proofs.YtaefpjecalnbcaaGreat
