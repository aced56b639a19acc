/- slices.Grow of nil, slices.Concat of two lists of ways; mask.Union. At most 2^40 ways. mask.Meet. darningref13: less, Of, Under. At most 2^40 ways. -/
import Derived.Test.YtfimpmennkfjcaaGreatDoorZ31
import Derived.Lib.AppendZerosOnto
namespace Go.Proofs.YtfimpmennkfjcaaGreatDoor
open Go.RowKit
theorem flatten_one {α : Type} (f : α → Value) : ∀ l : List α, (l.map fun p => [f p]).flatten = l.map f
  | [] => rfl
  | p :: l => by rw [List.map_cons, List.flatten_cons, flatten_one f l, List.map_cons]; rfl
/-- ways in a row, whose values were there before -/
theorem ways_of_row {w w0 : World} {v : Value} (ps : List (WV w0)) (h : Seg w v 1 ps.length (ps.map WV.val)) (hk : ∀ p u, w0.cell? p = some u → w.cell? p = some u) : WaysAt w v (ps.map WV.way) := by
  refine ⟨ps.map fun p => [p.val], by simp, by intro r hr; obtain ⟨p, -, rfl⟩ := List.mem_map.1 hr; rfl, ?_, ?_⟩
  · have e := flatten_one WV.val ps
    rw [e, List.length_map]; exact h
  · intro i r x hr hx
    rw [List.getElem?_map] at hr hx
    obtain ⟨p, hp, rfl⟩ := Option.map_eq_some_iff.1 hr
    rw [hp] at hx
    cases hx
    exact ⟨p.val, rfl, (p.2).keep hk⟩
end Go.Proofs.YtfimpmennkfjcaaGreatDoor
namespace Go.Proofs.YtfimpmennkfjcaaGreatDoor
open Go.RowKit
end Go.Proofs.YtfimpmennkfjcaaGreatDoor
namespace Go.Proofs.YtfimpmennkfjcaaGreatDoor
open Go.RowKit
theorem ltW_at {l m : List Int} {i : Nat} {x y : Int} (hx : l[i]? = some x) (hy : m[i]? = some y) : ltW (l.drop i) (m.drop i) = if x = y then ltW (l.drop (i + 1)) (m.drop (i + 1)) else decide (x < y) := by
  rw [drop_at hx, drop_at hy, ltW]
theorem ltW_end {l m : List Int} {i : Nat} (h : l.length ≤ i ∨ m.length ≤ i) (hi : i ≤ l.length) (hi2 : i ≤ m.length) : ltW (l.drop i) (m.drop i) = decide (l.length < m.length) := by
  by_cases h1 : l.length ≤ i
  · rw [List.drop_eq_nil_of_le h1]
    by_cases h2 : m.length ≤ i
    · rw [List.drop_eq_nil_of_le h2, ltW]; simp; omega
    · rw [List.drop_eq_getElem_cons (by omega), ltW]; simp; omega
  · rw [List.drop_eq_nil_of_le (by omega : m.length ≤ i), List.drop_eq_getElem_cons (by omega), ltW]; simp; omega
set_option maxRecDepth 100000 in
set_option maxHeartbeats 4000000 in
theorem ref13_less {w : World} {v u : Value} {l m : List Int} (h : IntsAt w v l) (hu : IntsAt w u m) :
    Calls Tryz.prog 65 #[v, u] w fun e w' => e = .returned (.bool (ltW l m)) ∧ Drew w w' := by
  obtain ⟨hl, a, c, rfl, -, hat⟩ := h.open
  obtain ⟨hm, a2, c2, rfl, -, hbt⟩ := hu.open
  obtain ⟨n, HN⟩ : ∃ n, Hid (n = l.length) := ⟨_, rfl⟩
  obtain ⟨n2, HN2⟩ : ∃ n, Hid (n = m.length) := ⟨_, rfl⟩
  rw [← HN.out] at hl ⊢
  rw [← HN2.out] at hm ⊢
  obtain ⟨z, HZ⟩ : ∃ z, Hid (z = ltW l m) := ⟨_, rfl⟩
  rw [← HZ.out]
  have HAT := hid hat
  have HBT := hid hbt
  clear hat hbt h hu
  go_enter Tryz.func65, Tryz.ntmps65
  go_wp2_with fail
  go_loopw [5] (fun v5 wr => ∃ i : Nat, v5 = .int .i64 i ∧ i ≤ n ∧ i ≤ n2 ∧ Hid (z = ltW (l.drop i) (m.drop i)) ∧ Hid (Drew w wr)) (fun v5 _ => n - (intOf v5).toNat)
  case atStart => exact ⟨0, rfl, by omega, by omega, by rw [Hid, HZ.out]; simp, Drew.refl _⟩
  case round =>
    obtain ⟨i, rfl, hi, hi2, HI, HB⟩ := hrel
    by_cases h12 : i < n ∧ i < n2
    · obtain ⟨h1, h2⟩ := h12
      obtain ⟨x, hxi⟩ := int_get HN.out h1
      obtain ⟨y, hyi⟩ := int_get HN2.out h2
      obtain ⟨hx64, b, o, ha, g0⟩ := HAT.out i x hxi
      obtain ⟨hy64, b2, o2, ha2, g2⟩ := HBT.out i y hyi
      have HC := hid (ltW_at hxi hyi)
      have hix := index_run1 Tryz.underlying56 size_int ha i h1 (cap := c)
      have hix2 := index_run1 Tryz.underlying56 size_int ha2 i h2 (cap := c2)
      replace g0 := HB.out.keeps _ _ g0
      replace g2 := HB.out.keeps _ _ g2
      clear hxi hyi ha ha2
      by_cases hxy : x = y
      · have HC1 : Hid (z = ltW (l.drop (i + 1)) (m.drop (i + 1))) := by rw [Hid, HI.out, HC.out, if_pos hxy]
        have hb1 : (x != y) = false := by simpa using hxy
        have hb2 : (x == y) = true := by simpa using hxy
        clear hxy
        go_wp2_with fail
        go_quiet (fail)
        go_wp2_with fail
        go_roundw
        case rel => exact ⟨i + 1, by go_num, h1, h2, HC1.out, HB.out.step _⟩
        case measure => simp [intOf]; omega
      · have HC1 : Hid (z = decide (x < y)) := by rw [Hid, HI.out, HC.out, if_neg hxy]
        have hb1 : (x != y) = true := by simpa using hxy
        have hb2 : (x == y) = false := by simpa using hxy
        clear hxy
        go_wp2_with fail
        go_quiet (fail)
        go_wp2_with fail
        go_quiet (fail)
        go_wp2_with fail
        go_ret
        exact ⟨by rw [HC1.out]; first | done | rfl, (HB.out.step _).step _⟩
    · have HC1 : Hid (z = decide (n < n2)) := by
        rw [Hid, HI.out, ltW_end (by rw [← HN.out, ← HN2.out]; omega) (by rw [← HN.out]; omega) (by rw [← HN2.out]; omega), ← HN.out, ← HN2.out]
      by_cases h1 : i < n
      · have h2 : n2 ≤ i := by omega
        have hn : ¬ n < n2 := by omega
        have HC2 : Hid (z = false) := by rw [Hid, HC1.out]; exact decide_eq_false hn
        clear h12
        go_wp2_with fail
        go_ret
        exact ⟨by rw [HC2.out]; first | done | rfl, HB.out⟩
      · by_cases hn : n < n2
        · have HC2 : Hid (z = true) := by rw [Hid, HC1.out]; exact decide_eq_true hn
          clear h12
          go_wp2_with fail
          go_ret
          exact ⟨by rw [HC2.out]; first | done | rfl, HB.out⟩
        · have HC2 : Hid (z = false) := by rw [Hid, HC1.out]; exact decide_eq_false hn
          clear h12
          go_wp2_with fail
          go_ret
          exact ⟨by rw [HC2.out]; first | done | rfl, HB.out⟩
theorem row_form {w : World} {base size n : Nat} {e : TypeId} {v : Value} {xs : List Value} (h : w.ownsRow base e size v n xs) : ∃ a c, v = .slice a n c := by
  rcases h.2 with ⟨h1, h2⟩ | ⟨g, cap, cur, hv, -⟩
  · exact ⟨none, 0, by rw [h1, h2]⟩
  · exact ⟨_, _, hv⟩
theorem row_mono {w : World} {base base' size n : Nat} {e : TypeId} {v : Value} {xs : List Value} (h : w.ownsRow base e size v n xs) (hb : base' ≤ base) : w.ownsRow base' e size v n xs := by
  refine ⟨h.1, ?_⟩
  rcases h.2 with h2 | ⟨g, cap, cur, hv, hg, h3⟩
  · exact .inl h2
  · exact .inr ⟨g, cap, cur, hv, by omega, h3⟩
/-- the first so many of a slice of one-cell elements -/
theorem Seg.h1 {P : Program} {t e : TypeId} (ht : P.underlying t = some (.slice e)) (hs : ∀ w : World, (sizeOf e).run P w = .ok 1 w) {w : World} {a : Option Addr} {n cap : Nat} {xs : List Value} (h : Seg w (.slice a n cap) 1 n xs) (j : Nat) (hj : j ≤ n) :
    ∃ a' cap', (∀ W, (Instr.slice t (.slice a n cap) none (some (.int .i64 (j : Int))) none).run P W = .ok (.slice a' j cap') W) ∧ Seg w (.slice a' j cap') 1 j (xs.take j) := by
  have hcap : n ≤ cap := by obtain ⟨_, _, a', cap', hv, h3, _⟩ := h; cases hv; exact h3
  have hr := fun W => slice_h_run ht hs a n cap j (by omega) W
  have hsb := Seg.sub h 0 j (by omega) hj
  unfold sliced at hr hsb
  refine ⟨_, _, hr, ?_⟩
  simpa using hsb
/-- what is behind the first so many -/
theorem Seg.l1 {P : Program} {t e : TypeId} (ht : P.underlying t = some (.slice e)) (hs : ∀ w : World, (sizeOf e).run P w = .ok 1 w) {w : World} {a : Option Addr} {n cap : Nat} {xs : List Value} (h : Seg w (.slice a n cap) 1 n xs) (i : Nat) (hi : i ≤ n) :
    ∃ a' cap', (∀ W, (Instr.slice t (.slice a n cap) (some (.int .i64 (i : Int))) none none).run P W = .ok (.slice a' (n - i) cap') W) ∧ Seg w (.slice a' (n - i) cap') 1 (n - i) (xs.drop i) := by
  have hr := fun W => slice_l_run ht hs a n cap i hi W
  have hsb := Seg.sub h i n hi (Nat.le_refl _)
  have hl := h.1
  unfold sliced at hr hsb
  refine ⟨_, _, hr, ?_⟩
  rw [List.take_of_length_le (by simp [hl])] at hsb
  simpa using hsb
def badW (l : List (List Int)) (i k : Nat) : Bool := decide (k ≠ i) && decide ((l.getD k []) ≠ []) && beginsW (l.getD i []) (l.getD k []) && (decide ((l.getD k []).length < (l.getD i []).length) || decide (k < i))
def keepTo (l : List (List Int)) (i k : Nat) : Bool := decide ((l.getD i []) ≠ []) && (List.range k).all fun k => !badW l i k
theorem keepTo_all (l : List (List Int)) (i : Nat) : keepTo l i l.length = keepW l i := rfl
theorem keepTo_succ (l : List (List Int)) (i k : Nat) : keepTo l i (k + 1) = (keepTo l i k && !badW l i k) := by
  unfold keepTo
  rw [List.range_succ, List.all_append, Bool.and_assoc]
  simp
def posW (w : List Int) (o : List (List Int)) : Nat := (o.takeWhile fun u => ltW u w).length
theorem insW_pos (w : List Int) : ∀ o, insW w o = o.take (posW w o) ++ w :: o.drop (posW w o)
  | [] => rfl
  | u :: r => by
    rw [insW, posW, List.takeWhile_cons]
    cases h : ltW u w with
    | true => simp only [if_true, List.length_cons, List.take_succ_cons, List.drop_succ_cons]; rw [insW_pos w r]; rfl
    | false => simp
theorem posW_le (w : List Int) (o : List (List Int)) : posW w o ≤ o.length := (List.takeWhile_prefix _).length_le
/-- the search for the place -/
theorem posW_from (w : List Int) (o : List (List Int)) (k : Nat) : (k < posW w o → ∃ u, o[k]? = some u ∧ ltW u w = true) ∧ (k = posW w o → ∀ u, o[k]? = some u → ltW u w = false) := by
  unfold posW
  induction o generalizing k with
  | nil => simp
  | cons u r ih =>
    rw [List.takeWhile_cons]
    cases h : ltW u w with
    | true =>
      simp only [if_true, List.length_cons]
      cases k with
      | zero => exact ⟨fun _ => ⟨u, rfl, h⟩, fun h => by omega⟩
      | succ k =>
        have := ih k
        exact ⟨fun hk => by simpa using this.1 (by omega), fun hk => by simpa using this.2 (by omega)⟩
    | false =>
      simp only [Bool.false_eq_true, if_false, List.length_nil]
      exact ⟨fun h => by omega, fun hk v hv => by subst hk; simp at hv; subst hv; exact h⟩
set_option maxRecDepth 100000 in
set_option maxHeartbeats 4000000 in
theorem ref13_Of {w : World} {v : Value} {ls : List (List Int)} (h : WaysAt w v ls) (hl : ls.length ≤ 1099511627776) :
    Calls Tryz.prog 34 #[v] w fun e w' => ∃ v', e = .returned v' ∧ WaysAt w' v' (mOf ls) ∧ Below w.heap.size w w' := by
  obtain ⟨-, a, c, rfl, -, hat⟩ := h.open
  obtain ⟨n, HN⟩ : ∃ n, Hid (n = ls.length) := ⟨_, rfl⟩
  rw [← HN.out] at hl ⊢
  have HAT := hid hat
  have HLS : Hid (∀ k x, ls[k]? = some x → ls.getD k [] = x) := fun k x hx => by rw [List.getD_eq_getElem?_getD, hx]; rfl
  clear hat h
  go_enter Tryz.func34, Tryz.ntmps34
  go_wp2_with fail
  go_loopw [3, 4] (fun v3 v4 wr => ∃ (i : Nat) (ps : List (WV w)), v4 = .int .i64 i ∧ i ≤ n ∧ Hid (ps.map WV.way = rOf ls i ∧ wr.ownsRow w.heap.size 56 1 v3 ps.length (ps.map WV.val) ∧ Below w.heap.size w wr)) (fun _ v4 _ => n - (intOf v4).toNat)
  case atStart => exact ⟨0, [], rfl, by omega, rfl, World.ownsRow_nil _ _ _ _, Below.refl _ _⟩
  case round =>
    obtain ⟨i, ps, rfl, hi, HI⟩ := hrel
    obtain ⟨m, HM⟩ : ∃ m, Hid (m = ps.length) := ⟨_, rfl⟩
    have hml : m ≤ i := by have h1 := rOf_len ls i; rw [← HI.out.1, List.length_map, ← HM.out] at h1; exact h1
    obtain ⟨oa, oc, hoe⟩ := row_form HI.out.2.1
    rw [← HM.out] at hoe
    subst hoe
    by_cases hlt : i < n
    · obtain ⟨x, hx⟩ := way_get HN.out hlt
      obtain ⟨b, q, xa, xc, ha, g0, hX⟩ := HAT.out i x hx
      have hix := index_run1 Tryz.underlying34 size_ints ha i hlt (cap := c)
      have HX := hid hX
      have HXD := hid (HLS.out i x hx)
      obtain ⟨xn, HXN⟩ : ∃ xn, Hid (xn = x.length) := ⟨_, rfl⟩
      rw [← HXN.out] at g0 HX
      replace g0 := below_keeps HI.out.2.2 _ _ g0
      obtain ⟨wo, rfl⟩ : ∃ wo : World, wo = wr := ⟨_, rfl⟩
      have G0 := hid g0
      clear hx ha hX
      go_wp2_with fail
      go_loopw [5, 6] (fun v5 v6 wr => ∃ (k : Nat) (zb : Bool), v6 = .int .i64 k ∧ v5 = .bool zb ∧ k ≤ n ∧ Hid (zb = keepTo ls i k) ∧ Hid (Drew wo wr)) (fun _ v6 _ => n - (intOf v6).toNat)
      case atStart =>
        refine ⟨0, decide (0 < xn), rfl, ?_, by omega, ?_, Drew.refl _⟩
        · first | rfl | (congr 1; simp) | (congr 1; rw [decide_eq_decide]; omega)
        · rw [Hid, keepTo, HXD.out, HXN.out]; simp [List.length_pos_iff]
      case round =>
        obtain ⟨k, zb, rfl, rfl, hk, HZB, HD⟩ := hrel
        by_cases hlk : k < n
        · obtain ⟨y, hy⟩ := way_get HN.out hlk
          obtain ⟨b2, q2, ya, yc, ha2, g2, hY⟩ := HAT.out k y hy
          have hix2 := index_run1 Tryz.underlying34 size_ints ha2 k hlk (cap := c)
          obtain ⟨yn, HYN⟩ : ∃ yn, Hid (yn = y.length) := ⟨_, rfl⟩
          rw [← HYN.out] at g2 hY
          have HYD := hid (HLS.out k y hy)
          obtain ⟨bz, HBZ⟩ : ∃ bz, Hid (bz = beginsW x y) := ⟨_, rfl⟩
          have hkeep : ∀ j, ∀ p u, w.cell? p = some u → (wr.drewN j).cell? p = some u := fun j p u hu => (HD.out.step j).keeps _ _ (below_keeps HI.out.2.2 _ _ hu)
          have HBEG := hid fun j => ref13_Begins (HX.out.keep (hkeep j)) (hY.keep (hkeep j))
          rw [← HBZ.out] at HBEG
          replace g2 := HD.out.keeps _ _ (below_keeps HI.out.2.2 _ _ g2)
          have g0 := HD.out.keeps _ _ G0.out
          have HBAD : Hid (badW ls i k = (decide (k ≠ i) && decide (0 < yn) && bz && (decide (yn < xn) || decide (k < i)))) := by
            rw [Hid, badW, HXD.out, HYD.out, HBZ.out, HXN.out, HYN.out]
            simp [List.length_pos_iff]
          clear hy ha2 hY hkeep
          by_cases hki : k = i
          · have HBAD2 : Hid (badW ls i k = false) := by rw [Hid, HBAD.out, hki]; simp
            have e1 : ((k : Int) != (i : Int)) = false := by simp; omega
            have e2 : ((k : Int) == (i : Int)) = true := by simp; omega
            have e3 : (k == i) = true := by simp; omega
            have e4 : (k != i) = false := by simp; omega
            have HE : Hid (keepTo ls i (k + 1) = zb) := by rw [Hid, keepTo_succ, HBAD2.out, ← HZB.out]; simp
            clear hki
            go_wp2_with fail
            go_quiet ((go_at_call 64; exact Drew.quiet (HBEG.out _)))
            go_wp2_with fail
            go_roundw
            case rel => exact ⟨k + 1, zb, by go_num, rfl, hlk, by rw [Hid, HE.out], HD.out.step _⟩
            case measure => simp [intOf]; omega
          · rw [decide_eq_true hki, Bool.true_and] at HBAD
            have e1 : ((k : Int) != (i : Int)) = true := by simp; omega
            have e2 : ((k : Int) == (i : Int)) = false := by simp; omega
            have e3 : (k == i) = false := by simp; omega
            have e4 : (k != i) = true := by simp; omega
            have HKI := hid hki
            clear hki
            by_cases hy0 : 0 < yn
            · rw [decide_eq_true hy0, Bool.true_and] at HBAD
              cases bz with
              | true =>
                rw [Bool.true_and] at HBAD
                by_cases hyx : yn < xn
                · have HE : Hid (keepTo ls i (k + 1) = false) := by rw [Hid, keepTo_succ, HBAD.out, decide_eq_true hyx]; simp
                  go_wp2_with fail
                  go_quiet ((go_at_call 64; exact Drew.quiet (HBEG.out _)))
                  go_wp2_with fail
                  go_roundw
                  case rel => exact ⟨k + 1, false, by go_num, rfl, hlk, by rw [Hid, HE.out], HD.out.step _⟩
                  case measure => simp [intOf]; omega
                · rw [decide_eq_false hyx, Bool.false_or] at HBAD
                  have f1 : decide ((yn : Int) < (xn : Int)) = false := decide_eq_false (by omega)
                  have f2 : decide (yn < xn) = false := decide_eq_false hyx
                  clear hyx
                  by_cases hki2 : k < i
                  · have HE : Hid (keepTo ls i (k + 1) = false) := by rw [Hid, keepTo_succ, HBAD.out, decide_eq_true hki2]; simp
                    go_wp2_with fail
                    go_quiet ((go_at_call 64; exact Drew.quiet (HBEG.out _)))
                    go_wp2_with fail
                    go_roundw
                    case rel => exact ⟨k + 1, false, by go_num, rfl, hlk, by rw [Hid, HE.out], HD.out.step _⟩
                    case measure => simp [intOf]; omega
                  · have HE : Hid (keepTo ls i (k + 1) = zb) := by rw [Hid, keepTo_succ, HBAD.out, decide_eq_false hki2, ← HZB.out]; simp
                    have f3 : decide ((k : Int) < (i : Int)) = false := decide_eq_false (by omega)
                    have f4 : decide (k < i) = false := decide_eq_false hki2
                    clear hki2
                    go_wp2_with fail
                    go_quiet ((go_at_call 64; exact Drew.quiet (HBEG.out _)))
                    go_wp2_with fail
                    go_roundw
                    case rel => exact ⟨k + 1, zb, by go_num, rfl, hlk, by rw [Hid, HE.out], HD.out.step _⟩
                    case measure => simp [intOf]; omega
              | false =>
                have HE : Hid (keepTo ls i (k + 1) = zb) := by rw [Hid, keepTo_succ, HBAD.out, ← HZB.out]; simp
                go_wp2_with fail
                go_quiet ((go_at_call 64; exact Drew.quiet (HBEG.out _)))
                go_wp2_with fail
                go_roundw
                case rel => exact ⟨k + 1, zb, by go_num, rfl, hlk, by rw [Hid, HE.out], HD.out.step _⟩
                case measure => simp [intOf]; omega
            · have HE : Hid (keepTo ls i (k + 1) = zb) := by rw [Hid, keepTo_succ, HBAD.out, decide_eq_false hy0, ← HZB.out]; simp
              obtain rfl : yn = 0 := by omega
              go_wp2_with fail
              go_quiet ((go_at_call 64; exact Drew.quiet (HBEG.out _)))
              go_wp2_with fail
              go_roundw
              case rel => exact ⟨k + 1, zb, by go_num, rfl, hlk, by rw [Hid, HE.out], HD.out.step _⟩
              case measure => simp [intOf]; omega
        · obtain rfl : k = n := by omega
          have HKW : Hid (zb = keepW ls i) := by rw [Hid, HZB.out, HN.out, keepTo_all]
          cases zb with
          | false =>
            have HRO : Hid (rOf ls (i + 1) = rOf ls i) := by rw [Hid, rOf, ← HKW.out]; rfl
            go_wp2_with fail
            go_roundw
            case rel => exact ⟨i + 1, ps, by go_num, hlt, by rw [HRO.out]; exact HI.out.1, row_keep HI.out.2.1 (fun b cur _ he => HD.out.below.block b (Array.getElem?_eq_some_iff.1 he).1), below_step HI.out.2.2 HD.out.below HI.out.2.2.size⟩
            case measure => simp [intOf]; omega
          | true =>
            obtain ⟨o, HO⟩ : ∃ o, Hid (o = rOf ls i) := ⟨_, rfl⟩
            have HPO : Hid (ps.map WV.way = o) := by rw [Hid, HO.out]; exact HI.out.1
            have HMO : Hid (m = o.length) := by rw [Hid, HM.out, ← HPO.out, List.length_map]
            have HRO : Hid (rOf ls (i + 1) = insW x o) := by rw [Hid, rOf, ← HKW.out, HXD.out, HO.out]; rfl
            obtain ⟨pw, HPW⟩ : ∃ pw, Hid (pw = posW x o) := ⟨_, rfl⟩
            have hpm : pw ≤ m := by rw [HPW.out, HMO.out]; exact posW_le _ _
            have HSEG : Hid (Seg wo (.slice oa m oc) 1 m (ps.map WV.val)) := by
              have h1 := row_seg HI.out.2.1 (by rw [← HM.out]; omega)
              rw [← HM.out] at h1
              exact h1
            have HOUT : Hid (∀ k p, ps[k]? = some p → ∃ b o a2 c2, oa = some ⟨b, o, none⟩ ∧ wo.cell? ⟨b, o + k, none⟩ = some (.slice a2 p.way.length c2) ∧ IntsAt w (.slice a2 p.way.length c2) p.way) := by
              have h1 := HSEG.out
              rw [HM.out] at h1
              obtain ⟨a3, c3, e3, h3⟩ := seg_wv h1
              cases e3
              exact h3
            have HDW := hid HD.out
            obtain ⟨w2, rfl⟩ : ∃ w2 : World, w2 = wr := ⟨_, rfl⟩
            go_wp2_with fail
            go_loopw [7] (fun v7 wr => ∃ k : Nat, v7 = .int .i64 k ∧ k ≤ pw ∧ Hid (Drew wo wr)) (fun v7 _ => pw - (intOf v7).toNat)
            case atStart => exact ⟨0, rfl, by omega, HDW.out⟩
            case round =>
              obtain ⟨k, rfl, hk, HD2⟩ := hrel
              by_cases hkm : k < m
              · obtain ⟨p, hp⟩ : ∃ p, ps[k]? = some p := ⟨_, List.getElem?_eq_getElem (by rw [← HM.out]; exact hkm)⟩
                obtain ⟨b2, q2, ya, yc, ha2, g2, hY⟩ := HOUT.out k p hp
                have hix2 := index_run1 Tryz.underlying34 size_ints ha2 k hkm (cap := oc)
                have hok : o[k]? = some p.way := by rw [← HPO.out, List.getElem?_map, hp]; rfl
                have hpos := posW_from x o k
                rw [← HPW.out] at hpos
                obtain ⟨yn, HYN⟩ : ∃ yn, Hid (yn = p.way.length) := ⟨_, rfl⟩
                rw [← HYN.out] at g2 hY
                have hkeep : ∀ j, ∀ p u, w.cell? p = some u → (wr.drewN j).cell? p = some u := fun j p u hu => (HD2.out.step j).keeps _ _ (below_keeps HI.out.2.2 _ _ hu)
                have HLESS := hid fun j => ref13_less (hY.keep (hkeep j)) (HX.out.keep (hkeep j))
                replace g2 := HD2.out.keeps _ _ g2
                have g0 := HD2.out.keeps _ _ G0.out
                by_cases hkp : k < pw
                · have hl1 : ltW p.way x = true := by
                    obtain ⟨u, hu, h1⟩ := hpos.1 hkp
                    rw [hok] at hu; cases hu; exact h1
                  rw [hl1] at HLESS
                  clear hp ha2 hY hok hpos hkeep hl1
                  go_wp2_with fail
                  go_quiet ((go_at_call 65; exact Drew.quiet (HLESS.out _)))
                  go_wp2_with fail
                  go_roundw
                  case rel => exact ⟨k + 1, by go_num, hkp, HD2.out.step _⟩
                  case measure => simp [intOf]; omega
                · obtain rfl : k = pw := by omega
                  have hl1 : ltW p.way x = false := hpos.2 rfl _ hok
                  rw [hl1] at HLESS
                  clear hp ha2 hY hok hpos hkeep hl1 hkp
                  go_wp2_with fail
                  go_quiet ((go_at_call 65; exact Drew.quiet (HLESS.out _)))
                  obtain ⟨w3, HW3⟩ : ∃ w3, Hid (w3 = wr.drewN nq) := ⟨_, rfl⟩
                  have HD3 : Hid (Drew wo w3) := by rw [HW3.out]; exact HD2.out.step _
                  rw [← HW3.out]
                  have hbo : Below wo.heap.size wo w3 := HD3.out.below
                  have own0 : World.ownsRow (w3.alloc (.cells #[] 56)) w3.heap.size 56 1 (.slice (some ⟨w3.heap.size, 0, none⟩) 0 0) 0 [] := World.ownsRow_made (base := w3.heap.size) (e := 56) (size := 1) w3 #[] 0 (Nat.le_refl _) (by unfold maxLen; omega) rfl
                  have hvl : (ps.map WV.val).length = m := by rw [List.length_map, HM.out]
                  have hone : ∀ u ∈ ps.map WV.val, u.oneCell' = true := wv_vals_one ps
                  obtain ⟨a5, c5, hs5, S5⟩ := Seg.h1 (P := Tryz.prog) under_ways size_ints (HSEG.out.below hbo) k (by omega)
                  obtain ⟨v6, w6, hr6, own6, hg6, -⟩ := seg_append (P := Tryz.prog) _ w3.heap.size 34 34 56 (.slice none 0 0) 1 24 under_ways info_ints rfl (by decide) _ _ 0 k _ _ own0 (S5.below ((Below.refl _ _).alloc (Nat.le_refl _) _)) (fun u hu => hone u (List.mem_of_mem_take hu)) (by omega) (by omega) (by simp)
                  have hB6 : Below w3.heap.size w3 w6 := ((Below.refl w3.heap.size w3).alloc (Nat.le_refl _) (.cells #[] 56)).grown hg6 (by simp) (by intro q e; simp [Value.ownBlock] at e; omega)
                  rw [Nat.zero_add, List.nil_append] at own6
                  obtain ⟨a6, c6, e6⟩ := row_form own6
                  subst e6
                  have S7 : Seg (w6.alloc (.cells #[.slice xa xn xc] 56)) (.slice (some ⟨w6.heap.size, 0, none⟩) 1 1) 1 1 [.slice xa xn xc] := seg_blk (Blk.new w6 [.slice xa xn xc] _) 1 1 rfl (by omega)
                  obtain ⟨v8, w8, hr8, own8, hg8, -⟩ := seg_append (P := Tryz.prog) _ w3.heap.size 34 34 56 (.slice none 0 0) 1 24 under_ways info_ints rfl (by decide) _ _ _ 1 _ _ (World.ownsRow.alloc own6 _) S7 (by intro u hu; simp at hu; subst hu; rfl) (by omega) (by omega) (by have := hB6.size; simp; omega)
                  have hB8 : Below w3.heap.size w3 w8 := (hB6.alloc hB6.size _).grown hg8 (by have := hB6.size; simp; omega) (fun q e => (World.ownsRow.lt own6 q e).1)
                  obtain ⟨a8, c8, e8⟩ := row_form own8
                  subst e8
                  obtain ⟨a9, c9, hs9, S9⟩ := Seg.l1 (P := Tryz.prog) under_ways size_ints ((HSEG.out.below hbo).below hB8) k (by omega)
                  obtain ⟨v10, w10, hr10, own10, hg10, -⟩ := seg_append (P := Tryz.prog) w8 w3.heap.size 34 34 56 (.slice none 0 0) 1 24 under_ways info_ints rfl (by decide) _ _ _ (m - k) _ _ own8 S9 (fun u hu => hone u (List.mem_of_mem_drop hu)) (by omega) (by omega) hB8.size
                  have hB10 : Below w3.heap.size w3 w10 := hB8.grown hg10 hB8.size (fun q e => (World.ownsRow.lt own8 q e).1)
                  obtain ⟨a10, c10, e10⟩ := row_form own10
                  subst e10
                  have HREL : Hid (∃ ps' : List (WV w), ps'.map WV.way = rOf ls (i + 1) ∧ w10.ownsRow w.heap.size 56 1 (.slice a10 (k + 1 + (m - k)) c10) ps'.length (ps'.map WV.val) ∧ Below w.heap.size w w10) := by
                    refine ⟨ps.take k ++ WV.mk (.slice xa xn xc) x HX.out :: ps.drop k, ?_, ?_, ?_⟩
                    · rw [HRO.out, insW_pos, ← HPW.out, ← HPO.out, List.map_append, List.map_cons, WV.way_mk, List.map_take, List.map_drop]
                    · have hlen : (ps.take k ++ WV.mk (.slice xa xn xc) x HX.out :: ps.drop k).length = k + 1 + (m - k) := by
                        rw [List.length_append, List.length_cons, List.length_take, List.length_drop, ← HM.out]; omega
                      rw [hlen, List.map_append, List.map_cons, WV.val_mk, List.map_take, List.map_drop]
                      have h1 : w.heap.size ≤ w3.heap.size := Nat.le_trans HI.out.2.2.size hbo.size
                      have h2 := row_mono own10 h1
                      simpa using h2
                    · exact below_step (below_step HI.out.2.2 hbo HI.out.2.2.size) hB10 (Nat.le_trans HI.out.2.2.size hbo.size)
                  have g6 := below_keeps (below_step hbo hB6 hbo.size) _ _ G0.out
                  clear hbo own0 hvl hone S5 own6 hg6 hB6 S7 own8 hg8 hB8 S9 own10 hg10 hB10
                  go_wp2_with (at_builtin; first | refine wpList_append_eq (o := ⟨some 90, _, _, _, _, _⟩) rfl _ _ _ rfl _ _ rfl rfl hr6 ?_ | refine wpList_append_eq (o := ⟨some 97, _, _, _, _, _⟩) rfl _ _ _ rfl _ _ rfl rfl hr8 ?_ | refine wpList_append_eq (o := ⟨some 102, _, _, _, _, _⟩) rfl _ _ _ rfl _ _ rfl rfl hr10 ?_)
                  go_roundw
                  case rel =>
                    obtain ⟨ps', h1, h2, h3⟩ := HREL.out
                    exact ⟨i + 1, ps', by go_num, hlt, h1, h2, h3⟩
                  case measure => simp [intOf]; omega
              · have hd1 : decide ((k : Int) < (m : Int)) = false := decide_eq_false (by omega)
                have hd2 : decide (k < m) = false := decide_eq_false hkm
                obtain rfl : k = pw := by omega
                have HKM := hid hkm
                clear hkm
                go_wp2_with fail
                go_quiet (fail)
                obtain ⟨w3, HW3⟩ : ∃ w3, Hid (w3 = wr.drewN nq) := ⟨_, rfl⟩
                have HD3 : Hid (Drew wo w3) := by rw [HW3.out]; exact HD2.out.step _
                rw [← HW3.out]
                have hbo : Below wo.heap.size wo w3 := HD3.out.below
                have own0 : World.ownsRow (w3.alloc (.cells #[] 56)) w3.heap.size 56 1 (.slice (some ⟨w3.heap.size, 0, none⟩) 0 0) 0 [] := World.ownsRow_made (base := w3.heap.size) (e := 56) (size := 1) w3 #[] 0 (Nat.le_refl _) (by unfold maxLen; omega) rfl
                have hvl : (ps.map WV.val).length = m := by rw [List.length_map, HM.out]
                have hone : ∀ u ∈ ps.map WV.val, u.oneCell' = true := wv_vals_one ps
                obtain ⟨a5, c5, hs5, S5⟩ := Seg.h1 (P := Tryz.prog) under_ways size_ints (HSEG.out.below hbo) k (by omega)
                obtain ⟨v6, w6, hr6, own6, hg6, -⟩ := seg_append (P := Tryz.prog) _ w3.heap.size 34 34 56 (.slice none 0 0) 1 24 under_ways info_ints rfl (by decide) _ _ 0 k _ _ own0 (S5.below ((Below.refl _ _).alloc (Nat.le_refl _) _)) (fun u hu => hone u (List.mem_of_mem_take hu)) (by omega) (by omega) (by simp)
                have hB6 : Below w3.heap.size w3 w6 := ((Below.refl w3.heap.size w3).alloc (Nat.le_refl _) (.cells #[] 56)).grown hg6 (by simp) (by intro q e; simp [Value.ownBlock] at e; omega)
                rw [Nat.zero_add, List.nil_append] at own6
                obtain ⟨a6, c6, e6⟩ := row_form own6
                subst e6
                have S7 : Seg (w6.alloc (.cells #[.slice xa xn xc] 56)) (.slice (some ⟨w6.heap.size, 0, none⟩) 1 1) 1 1 [.slice xa xn xc] := seg_blk (Blk.new w6 [.slice xa xn xc] _) 1 1 rfl (by omega)
                obtain ⟨v8, w8, hr8, own8, hg8, -⟩ := seg_append (P := Tryz.prog) _ w3.heap.size 34 34 56 (.slice none 0 0) 1 24 under_ways info_ints rfl (by decide) _ _ _ 1 _ _ (World.ownsRow.alloc own6 _) S7 (by intro u hu; simp at hu; subst hu; rfl) (by omega) (by omega) (by have := hB6.size; simp; omega)
                have hB8 : Below w3.heap.size w3 w8 := (hB6.alloc hB6.size _).grown hg8 (by have := hB6.size; simp; omega) (fun q e => (World.ownsRow.lt own6 q e).1)
                obtain ⟨a8, c8, e8⟩ := row_form own8
                subst e8
                obtain ⟨a9, c9, hs9, S9⟩ := Seg.l1 (P := Tryz.prog) under_ways size_ints ((HSEG.out.below hbo).below hB8) k (by omega)
                obtain ⟨v10, w10, hr10, own10, hg10, -⟩ := seg_append (P := Tryz.prog) w8 w3.heap.size 34 34 56 (.slice none 0 0) 1 24 under_ways info_ints rfl (by decide) _ _ _ (m - k) _ _ own8 S9 (fun u hu => hone u (List.mem_of_mem_drop hu)) (by omega) (by omega) hB8.size
                have hB10 : Below w3.heap.size w3 w10 := hB8.grown hg10 hB8.size (fun q e => (World.ownsRow.lt own8 q e).1)
                obtain ⟨a10, c10, e10⟩ := row_form own10
                subst e10
                have HREL : Hid (∃ ps' : List (WV w), ps'.map WV.way = rOf ls (i + 1) ∧ w10.ownsRow w.heap.size 56 1 (.slice a10 (k + 1 + (m - k)) c10) ps'.length (ps'.map WV.val) ∧ Below w.heap.size w w10) := by
                  refine ⟨ps.take k ++ WV.mk (.slice xa xn xc) x HX.out :: ps.drop k, ?_, ?_, ?_⟩
                  · rw [HRO.out, insW_pos, ← HPW.out, ← HPO.out, List.map_append, List.map_cons, WV.way_mk, List.map_take, List.map_drop]
                  · have hlen : (ps.take k ++ WV.mk (.slice xa xn xc) x HX.out :: ps.drop k).length = k + 1 + (m - k) := by
                      rw [List.length_append, List.length_cons, List.length_take, List.length_drop, ← HM.out]; omega
                    rw [hlen, List.map_append, List.map_cons, WV.val_mk, List.map_take, List.map_drop]
                    have h1 : w.heap.size ≤ w3.heap.size := Nat.le_trans HI.out.2.2.size hbo.size
                    have h2 := row_mono own10 h1
                    simpa using h2
                  · exact below_step (below_step HI.out.2.2 hbo HI.out.2.2.size) hB10 (Nat.le_trans HI.out.2.2.size hbo.size)
                have g6 := below_keeps (below_step hbo hB6 hbo.size) _ _ G0.out
                clear hbo own0 hvl hone S5 own6 hg6 hB6 S7 own8 hg8 hB8 S9 own10 hg10 hB10
                go_wp2_with (at_builtin; first | refine wpList_append_eq (o := ⟨some 90, _, _, _, _, _⟩) rfl _ _ _ rfl _ _ rfl rfl hr6 ?_ | refine wpList_append_eq (o := ⟨some 97, _, _, _, _, _⟩) rfl _ _ _ rfl _ _ rfl rfl hr8 ?_ | refine wpList_append_eq (o := ⟨some 102, _, _, _, _, _⟩) rfl _ _ _ rfl _ _ rfl rfl hr10 ?_)
                go_roundw
                case rel =>
                  obtain ⟨ps', h1, h2, h3⟩ := HREL.out
                  exact ⟨i + 1, ps', by go_num, hlt, h1, h2, h3⟩
                case measure => simp [intOf]; omega
    · obtain rfl : i = n := by omega
      have HFIN : Hid (WaysAt wr (.slice oa m oc) (mOf ls)) := by
        have hs := row_seg HI.out.2.1 (by rw [← HM.out]; omega)
        have h1 := ways_of_row ps hs (below_keeps HI.out.2.2)
        rw [HI.out.1, HN.out] at h1
        exact h1
      go_wp2_with fail
      go_ret
      exact ⟨_, rfl, HFIN.out, HI.out.2.2⟩
end Go.Proofs.YtfimpmennkfjcaaGreatDoor
