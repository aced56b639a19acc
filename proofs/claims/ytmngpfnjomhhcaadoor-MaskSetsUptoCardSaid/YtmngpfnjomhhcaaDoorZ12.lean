/- darninglaw13.MaskSets returns true. The lists have at most 2^39 ways together. Reading a list of strings from an argument's data; its weight is at most the reading's bulk. -/
import Derived.Test.YtmngpfnjomhhcaaDoorRows
import Derived.Test.YtmngpfnjomhhcaaDoorZ06
import Derived.Test.YtmngpfnjomhhcaaDoorZ07
import Derived.Test.YtmngpfnjomhhcaaDoorZ10
import Derived.Test.YtmngpfnjomhhcaaDoorZ11
import Derived.Deep.RegionHeld3
import Derived.Deep.CutRange
import Derived.Deep.Slices
import Derived.SizedLaws
import Derived.ProofKit
namespace Go.Proofs.YtmngpfnjomhhcaaDoor
open Go.RowKit
theorem newWays_kept {w w' : World} {v : Value} {o : List (List Int)} (h : NewWays w w' v o) : Kept2 0 w.heap.size w'.heap.size w' fun W => WaysAt W v o := fun w2 hw2 => by
  obtain ⟨hl, base, hb, h⟩ := h
  exact h.at (by omega) fun b h1 h2 => hw2 b (.inr ⟨by omega, h1⟩)
theorem ints_two {W : World} {x y : Value} {l m : List Int} (hx : IntsAt W x l) (hy : IntsAt W y m) (hl : l.length + m.length ≤ 17592186044416) :
    ∃ a2 n2 c2 w2, (Builtin.append_ #[23, 23] 23 #[.slice (some ⟨W.heap.size, 0, none⟩) 0 0, x]).run Tryd.prog (W.alloc (.cells #[] 3)) = .ok (.slice a2 n2 c2) w2 ∧ Below W.heap.size W w2 ∧
      ∃ a3 n3 c3 w3, (Builtin.append_ #[23, 23] 23 #[.slice a2 n2 c2, y]).run Tryd.prog w2 = .ok (.slice a3 n3 c3) w3 ∧ IntsAt w3 (.slice a3 n3 c3) (l ++ m) ∧ Below W.heap.size W w3 := by
  have hb1 : Below W.heap.size W (W.alloc (.cells #[] 3)) := (Below.refl _ _).alloc (Nat.le_refl _) _
  have hO0 : IntsOwn (W.alloc (.cells #[] 3)) W.heap.size (.slice (some ⟨W.heap.size, 0, none⟩) 0 0) [] := World.ownsRow_made (base := W.heap.size) (e := 3) (size := 1) W #[] 0 (Nat.le_refl _) (by unfold maxLen; omega) rfl
  obtain ⟨v2, w2, hr2, hO2, hg2, -⟩ := ints_append hO0 (hx.below hb1) (by simp; omega) hb1.size
  have hb2 : Below W.heap.size W w2 := hb1.grown hg2 hb1.size fun q e => by simp [Value.ownBlock] at e; omega
  obtain ⟨a2, c2, rfl⟩ := hO2.form
  rw [List.nil_append] at hO2
  obtain ⟨v3, w3, hr3, hO3, hg3, -⟩ := ints_append hO2 (hy.below hb2) (by omega) hb2.size
  have hb3 : Below W.heap.size W w3 := hb2.grown hg3 hb2.size fun q e => (World.ownsRow.lt hO2 q e).1
  obtain ⟨a3, c3, rfl⟩ := hO3.form
  exact ⟨_, _, _, _, hr2, hb2, _, _, _, _, hr3, hO3.ints (by rw [List.length_append]; omega) (fun z hz => (List.mem_append.1 hz).elim (hx.2 z) (hy.2 z)), hb3⟩
set_option maxRecDepth 100000 in
set_option maxHeartbeats 16000000 in
theorem law13_MaskSets {w : World} {va vb vw : Value} {la lb : List (List Int)} {way : List Int} (hA : WaysAt w va la) (hB : WaysAt w vb lb) (hW : IntsAt w vw way) (hLS : ∀ l ∈ la, l.length ≤ 1099511627776) (hLa : LightW la) (hLb : LightW lb) (hL : la.length + lb.length ≤ 549755813888) :
    Calls Tryd.prog 3 #[va, vb, vw] w (LawPost w) := by
  have HA := hid hA
  have HB := hid hB
  have HW := hid hW
  have HLL := hid (And.intro hLa hLb)
  have HLS := hid hLS
  obtain ⟨-, aa, ac, rfl, -, -⟩ := hA.open
  obtain ⟨-, ba, bc, rfl, -, -⟩ := hB.open
  obtain ⟨hwl, wa, wc, rfl, -, -⟩ := hW.open
  obtain ⟨na, HNA⟩ : ∃ n, Hid (n = la.length) := ⟨_, rfl⟩
  obtain ⟨nb, HNB⟩ : ∃ n, Hid (n = lb.length) := ⟨_, rfl⟩
  obtain ⟨nw, HNW⟩ : ∃ n, Hid (n = way.length) := ⟨_, rfl⟩
  rw [← HNA.out] at HA hL ⊢
  rw [← HNB.out] at HB hL ⊢
  rw [← HNW.out] at HW ⊢
  obtain ⟨Q, HQ⟩ : ∃ Q : Ending → World → Prop, Hid (Q = LawPost w) := ⟨_, rfl⟩
  rw [← HQ.out]
  have HTRUE : Hid (∀ w', Below w.heap.size w w' → Q (.returned (.bool true)) w') := fun w' hb => by rw [HQ.out]; exact ⟨rfl, hb⟩
  clear hA hB hW hLa hLb hwl hLS
  go_enter Tryd.func3, Tryd.ntmps3
  go_wp2_with fail
  refine (law13_alive _).mono ?_
  rintro e w1 ⟨rfl, hb⟩
  have HB1 := hid hb
  clear hb
  go_wp2_with fail
  refine (law13_Many (HA.out.below HB1.out)).mono ?_
  rintro e w1' ⟨⟨m1, rfl⟩, rfl⟩
  cases m1 with
  | true =>
    go_wp2_with fail
    exact HTRUE.out _ HB1.out
  | false =>
    go_wp2_with fail
    refine (law13_Many (HB.out.below HB1.out)).mono ?_
    rintro e w1' ⟨⟨m2, rfl⟩, rfl⟩
    cases m2 with
    | true =>
      go_wp2_with fail
      exact HTRUE.out _ HB1.out
    | false =>
      by_cases h100 : 100 < nw
      · go_wp2_with fail
        exact HTRUE.out _ HB1.out
      · have e1 : decide ((100 : Int) < nw) = false := decide_eq_false (by omega)
        have e2 : decide (100 < nw) = false := decide_eq_false h100
        have HW100 : Hid (nw ≤ 100) := by show _ ≤ _; omega
        clear h100
        go_wp2_with fail
        refine (mask_Of (HA.out.below HB1.out) HLL.out.1).mono ?_
        intro e w2 hp
        obtain ⟨xa, xc, rfl, hX, hb2, -⟩ := hp.open
        have HB2 : Hid (Below w.heap.size w w2) := below_step HB1.out hb2 HB1.out.size
        have HX := hid hX
        unfold maskV
        clear hp hX hb2
        go_wp2_with fail
        refine (mask_Of (HB.out.below HB2.out) HLL.out.2).mono ?_
        intro e w3 hp
        obtain ⟨ya, yc, rfl, hY, hb3, -⟩ := hp.open
        have HB3 : Hid (Below w.heap.size w w3) := below_step HB2.out hb3 HB2.out.size
        have HY := hid hY
        have HX3 := hid (HX.out.below hb3)
        unfold maskV
        clear hp hY hb3
        obtain ⟨X, HXM⟩ : ∃ X, Hid (X = mOf la) := ⟨_, rfl⟩
        obtain ⟨Y, HYM⟩ : ∃ Y, Hid (Y = mOf lb) := ⟨_, rfl⟩
        rw [← HXM.out] at HX3 ⊢
        rw [← HYM.out] at HY ⊢
        obtain ⟨xn, HXN⟩ : ∃ n, Hid (n = X.length) := ⟨_, rfl⟩
        obtain ⟨yn, HYN⟩ : ∃ n, Hid (n = Y.length) := ⟨_, rfl⟩
        rw [← HXN.out] at HX3 ⊢
        rw [← HYN.out] at HY ⊢
        have HLX : Hid (LightW X) := by rw [HXM.out]; exact mOf_light HLL.out.1
        have HLY : Hid (LightW Y) := by rw [HYM.out]; exact mOf_light HLL.out.2
        have hxn : xn ≤ na := by rw [HXN.out, HNA.out, HXM.out]; exact mOf_len la
        have hyn : yn ≤ nb := by rw [HYN.out, HNB.out, HYM.out]; exact mOf_len lb
        go_wp2_with fail
        obtain ⟨w4, HW4⟩ : ∃ w4, Hid (w4 = (w3.alloc (.cells #[.slice xa xn xc] 27)).alloc (.cells #[.slice ya yn yc] 27)) := ⟨_, rfl⟩
        have hb34 : Below w3.heap.size w3 w4 := by rw [HW4.out]; (repeat (first | with_reducible exact Below.refl _ _ | with_reducible refine Below.setCell ?_ (by first | omega | (simp; omega) | (simp; done)) _ | with_reducible refine Below.alloc ?_ (by first | omega | (simp; omega) | (simp; done)) _ | with_reducible refine below_drewN ?_ _ | with_reducible refine Below.drew ?_))
        have HB4 : Hid (Below w.heap.size w w4) := below_step HB3.out hb34 HB3.out.size
        have HX4 : Hid (WaysAt w4.drew (.slice xa xn xc) X) := (HX3.out.below hb34).keep fun _ _ h => h
        have HY4 : Hid (WaysAt w4.drew (.slice ya yn yc) Y) := (HY.out.below hb34).keep fun _ _ h => h
        have HWW4 : Hid (IntsAt w4.drew (.slice wa nw wc) way) := (HW.out.below HB4.out).keep fun _ _ h => h
        have c7 : w4.cell? ⟨w3.heap.size, 0, none⟩ = some (.slice xa xn xc) := by rw [HW4.out]; exact (Blk.alloc (Blk.new w3 [.slice xa xn xc] _) _).cell 0 _ rfl
        have c8 : w4.cell? ⟨w3.heap.size + 1, 0, none⟩ = some (.slice ya yn yc) := by rw [HW4.out]; exact (Blk.new' _ [.slice ya yn yc] _ _ (by simp)).cell 0 _ rfl
        have q0 := And.intro (show w4.drew.cell? ⟨w3.heap.size, 0, none⟩ = some (.slice xa xn xc) from c7) (show w4.drew.cell? ⟨w3.heap.size + 1, 0, none⟩ = some (.slice ya yn yc) from c8)
        obtain ⟨y1, HY1⟩ : ∃ y1, Hid (y1 = hasW X way) := ⟨_, rfl⟩
        obtain ⟨y2, HY2⟩ : ∃ y2, Hid (y2 = hasW Y way) := ⟨_, rfl⟩
        have h1 := mask_Has HX4.out HWW4.out
        unfold maskV at h1
        rw [← HY1.out] at h1
        have HHX := hid h1
        clear hb34 c7 c8 h1
        rw [← HW4.out]
        go_region_held3 (fun w' => w'.cell? ⟨w3.heap.size, 0, none⟩ = some (.slice xa xn xc) ∧ w'.cell? ⟨w3.heap.size + 1, 0, none⟩ = some (.slice ya yn yc)) (first | (with_reducible exact q0) | (with_reducible exact q1) | (with_reducible exact q2) | go_keep) (first | (go_at_call 7; (with_reducible refine HHX.out.mono ?_); rintro e k1 ⟨rfl, hd⟩; have HK1 := hid hd; have q1 := And.intro (below_keeps hd _ _ q0.1) (below_keeps hd _ _ q0.2); have h2 := mask_Has (HY4.out.below hd) (HWW4.out.below hd); unfold maskV at h2; rw [← HY2.out] at h2; have HHY := hid h2; clear hd h2) | (go_at_call 7; (with_reducible refine HHY.out.mono ?_); rintro e k2 ⟨rfl, hd⟩; have HK2 := hid (below_step HK1.out hd HK1.out.size); have q2 := And.intro (below_keeps hd _ _ q1.1) (below_keeps hd _ _ q1.2); clear hd))
        have HKK : Hid (Below w4.heap.size w4 k2) := below_step (Below.drew (Below.refl _ _)) HK2.out (Nat.le_refl _)
        have HX5 : Hid (WaysAt k2.drew (.slice xa xn xc) X) := (HX4.out.below HK2.out).keep fun _ _ h => h
        have HY5 : Hid (WaysAt k2.drew (.slice ya yn yc) Y) := (HY4.out.below HK2.out).keep fun _ _ h => h
        have HBW5 : Hid (Below w.heap.size w k2) := below_step HB4.out HKK.out HB4.out.size
        have r0 := And.intro (show k2.drew.cell? ⟨w3.heap.size, 0, none⟩ = some (.slice xa xn xc) from q2.1) (show k2.drew.cell? ⟨w3.heap.size + 1, 0, none⟩ = some (.slice ya yn yc) from q2.2)
        obtain ⟨b7, HB7⟩ : ∃ b, Hid (b = w3.heap.size) := ⟨_, rfl⟩
        obtain ⟨b8, HB8⟩ : ∃ b, Hid (b = w3.heap.size + 1) := ⟨_, rfl⟩
        obtain ⟨U, HUM⟩ : ∃ U, Hid (U = mOf (X ++ Y)) := ⟨_, rfl⟩
        obtain ⟨V, HVM⟩ : ∃ V, Hid (V = mOf (halfW (mOf X) Y ++ halfW (mOf Y) X)) := ⟨_, rfl⟩
        have HUN : Hid (∀ W, Below k2.drew.heap.size k2.drew W → Calls Tryd.prog 8 #[.agg #[.slice xa xn xc], .agg #[.slice ya yn yc]] W (MaskPost W U)) := by
          intro W hW
          have h2 := mask_Union (HX5.out.below hW) (HY5.out.below hW) HLX.out HLY.out (by rw [← HXN.out, ← HYN.out]; omega)
          unfold maskV at h2
          rw [← HUM.out] at h2
          exact h2
        have HME : Hid (∀ W, Below k2.drew.heap.size k2.drew W → Calls Tryd.prog 9 #[.agg #[.slice xa xn xc], .agg #[.slice ya yn yc]] W (MaskPost W V)) := by
          intro W hW
          have h2 := mask_Meet (HX5.out.below hW) (HY5.out.below hW) HLX.out HLY.out (by rw [← HXN.out, ← HYN.out]; omega)
          unfold maskV at h2
          rw [← HVM.out] at h2
          exact h2
        have hbk7 : Blk k2 b7 [.slice xa xn xc] 27 := by
          rw [HB7.out]; exact (show Blk w4 w3.heap.size [.slice xa xn xc] 27 by rw [HW4.out]; exact Blk.alloc (Blk.new w3 [.slice xa xn xc] _) _).below HKK.out
        have hbk8 : Blk k2 b8 [.slice ya yn yc] 27 := by
          rw [HB8.out]; exact (show Blk w4 (w3.heap.size + 1) [.slice ya yn yc] 27 by rw [HW4.out]; exact Blk.new' _ [.slice ya yn yc] _ _ (by simp)).below HKK.out
        have HBK := hid (And.intro hbk7 hbk8)
        have hlt7 := hbk7.lt
        have hlt8 := hbk8.lt
        rw [← HB8.out, ← HB7.out] at r0
        rw [← HB8.out, ← HB7.out]
        have hn5 := World.new_ne k2 _ (show k2.cell? ⟨b7, 0, none⟩ = some (.slice xa xn xc) from r0.1)
        have hn6 := World.new_ne k2 _ (show k2.cell? ⟨b8, 0, none⟩ = some (.slice ya yn yc) from r0.2)
        clear q0 q1 q2 hbk7 hbk8
        go_upto_region 7 with fail
        obtain ⟨D, HD⟩ : ∃ W, Hid (W = k2.drew) := ⟨_, rfl⟩
        rw [← HD.out] at HX5 HY5 r0 HUN HME
        have HDB : Hid (Below w.heap.size w D) := by rw [HD.out]; exact HBW5.out.drew
        have HC : Hid (∀ W, Below D.heap.size D W → W.cell? ⟨b7, 0, none⟩ = some (.slice xa xn xc) ∧ W.cell? ⟨b8, 0, none⟩ = some (.slice ya yn yc)) := fun W hW => ⟨below_keeps hW _ _ r0.1, below_keeps hW _ _ r0.2⟩
        clear HKK HBW5 HBK hlt7 hlt8 hn5 hn6 HK2 HK1 HHX HHY HX4 HY4 HX3 HY HX
        unfold maskV at *
        refine wp_region_float (fun w' => Below D.heap.size D w') 8 ⟨6, 11, [.slice none 0 0], 27⟩ ⟨7, 12, [.slice none 0 0], 27⟩ [(0, 0), (1, 0), (3, 0), (4, 0), (2, 1), (5, 1)] [(8, 2, 0), (9, 2, 0)] (by kernel_rfl) rfl rfl rfl (by kernel_rfl) (fun _ _ dst _ _ h => by cases dst <;> exact h) ⟨_, rfl, rfl, rfl, fun a w => by kernel_rfl⟩ ⟨_, rfl, rfl, rfl, fun a w => by kernel_rfl⟩ (by decide) (fun w w' h hb => h.trans (hb.mono h.size)) D.heap.size (fun w h => h.size) (by rw [← HD.out]; exact Below.refl _ _) (fun OPS _ => ?_)
        simp only [List.map_cons, List.map_nil, List.filterMap_cons, List.filterMap_nil, List.getElem?_cons_succ, List.getElem?_cons_zero]
        refine ⟨.agg #[.slice xa xn xc], fun u u2 w hw => ?_, ?_⟩
        · obtain ⟨c0, c1⟩ := HC.out w hw
          unfold actF
          simp only [Act.put, List.setIfInBounds_toArray, List.set_cons_zero, List.set_cons_succ]
          go_simp
          all_goals rfl
        simp only [Act.put, List.setIfInBounds_toArray, List.set_cons_zero, List.set_cons_succ]
        refine ⟨.agg #[.slice ya yn yc], fun u u2 w hw => ?_, ?_⟩
        · obtain ⟨c0, c1⟩ := HC.out w hw
          unfold actF
          simp only [Act.put, List.setIfInBounds_toArray, List.set_cons_zero, List.set_cons_succ]
          go_simp
          all_goals rfl
        simp only [Act.put, List.setIfInBounds_toArray, List.set_cons_zero, List.set_cons_succ]
        refine ⟨.agg #[.slice xa xn xc], fun u u2 w hw => ?_, ?_⟩
        · obtain ⟨c0, c1⟩ := HC.out w hw
          unfold actF
          simp only [Act.put, List.setIfInBounds_toArray, List.set_cons_zero, List.set_cons_succ]
          go_simp
          all_goals rfl
        simp only [Act.put, List.setIfInBounds_toArray, List.set_cons_zero, List.set_cons_succ]
        refine ⟨.agg #[.slice ya yn yc], fun u u2 w hw => ?_, ?_⟩
        · obtain ⟨c0, c1⟩ := HC.out w hw
          unfold actF
          simp only [Act.put, List.setIfInBounds_toArray, List.set_cons_zero, List.set_cons_succ]
          go_simp
          all_goals rfl
        simp only [Act.put, List.setIfInBounds_toArray, List.set_cons_zero, List.set_cons_succ]
        intro u u2 w6 hV6 K HKK
        have HV6 := hid hV6
        clear hV6
        unfold actF
        simp only [Act.put, List.setIfInBounds_toArray, List.set_cons_zero, List.set_cons_succ]
        go_wp2_with fail
        refine (HUN.out w6 HV6.out).mono ?_
        intro e w7 hp
        obtain ⟨ua, uc, rfl, -, hb7', hN7⟩ := hp.open
        unfold maskV
        go_wp2_with fail
        refine HKK.out _ w7 (fun W => Below D.heap.size D W ∧ w7.heap.size ≤ W.heap.size ∧ Kept2 0 w6.heap.size w7.heap.size W (fun W2 => WaysAt W2 (.slice ua U.length uc) U)) (fun W W' h hb => ⟨h.1.trans (hb.mono h.1.size), Nat.le_trans h.2.1 hb.size, h.2.2.below (Nat.zero_le _) h.2.1 hb⟩) (fun W h => h.1) (fun W h => h.2.1) ⟨HV6.out.trans (hb7'.mono HV6.out.size), Nat.le_refl _, newWays_kept hN7⟩ hb7' ?_
        simp only [Act.put, List.setIfInBounds_toArray, List.set_cons_zero, List.set_cons_succ]
        clear HV6 hb7' hN7 hp HKK
        intro u u2 w8 hV8 K HKK
        have HV8 := hid hV8
        clear hV8
        unfold actF
        simp only [Act.put, List.setIfInBounds_toArray, List.set_cons_zero, List.set_cons_succ]
        go_wp2_with fail
        refine (HME.out w8 HV8.out.1).mono ?_
        intro e w9 hp
        obtain ⟨ma, mc, rfl, -, hb9, hN9⟩ := hp.open
        unfold maskV
        go_wp2_with fail
        refine HKK.out _ w9 (fun W => Below D.heap.size D W ∧ w9.heap.size ≤ W.heap.size ∧ w7.heap.size ≤ W.heap.size ∧ Kept2 0 w6.heap.size w7.heap.size W (fun W2 => WaysAt W2 (.slice ua U.length uc) U) ∧ Kept2 0 w8.heap.size w9.heap.size W (fun W2 => WaysAt W2 (.slice ma V.length mc) V)) (fun W W' h hb => ⟨h.1.trans (hb.mono h.1.size), Nat.le_trans h.2.1 hb.size, Nat.le_trans h.2.2.1 hb.size, h.2.2.2.1.below (Nat.zero_le _) h.2.2.1 hb, h.2.2.2.2.below (Nat.zero_le _) h.2.1 hb⟩) (fun W h => ⟨h.1, h.2.2.1, h.2.2.2.1⟩) (fun W h => h.2.1) ⟨HV8.out.1.trans (hb9.mono HV8.out.1.size), Nat.le_refl _, Nat.le_trans HV8.out.2.1 hb9.size, HV8.out.2.2.below (Nat.zero_le _) HV8.out.2.1 hb9, newWays_kept hN9⟩ hb9 ?_
        simp only [Act.put, List.setIfInBounds_toArray, List.set_cons_zero, List.set_cons_succ]
        clear HV8 hb9 hN9 hp HKK HUN HME
        intro P1 P2 w10 hV10 hne hP1 hP2 hR1 hR2 hk1 hk2
        obtain ⟨un, HUNN⟩ : ∃ n, Hid (n = U.length) := ⟨_, rfl⟩
        obtain ⟨mn, HMNN⟩ : ∃ n, Hid (n = V.length) := ⟨_, rfl⟩
        rw [← HUNN.out, ← HMNN.out] at hV10 ⊢
        unfold actF ptrF
        simp only [Act.put, List.setIfInBounds_toArray, List.set_cons_zero, List.set_cons_succ]
        have hk1' : Blk (w10.setCell ⟨P1, 0, none⟩ (.slice ua un uc)) P1 [.slice ua un uc] 27 := hk1.set 0 (.slice ua un uc)
        have hk2' : Blk (w10.setCell ⟨P1, 0, none⟩ (.slice ua un uc)) P2 [.slice none 0 0] 27 := Blk.set_other hk2 _ _ (fun h => hne h.symm)
        obtain ⟨W11, HW11⟩ : ∃ W, Hid (W = w10.setCell ⟨P1, 0, none⟩ (.slice ua un uc)) := ⟨_, rfl⟩
        have hV11 : (fun W => Below D.heap.size D W ∧ w9.heap.size ≤ W.heap.size ∧ w7.heap.size ≤ W.heap.size ∧ Kept2 0 w6.heap.size w7.heap.size W (fun W2 => WaysAt W2 (.slice ua un uc) U) ∧ Kept2 0 w8.heap.size w9.heap.size W (fun W2 => WaysAt W2 (.slice ma mn mc) V)) W11 := by
          rw [HW11.out]
          exact ⟨hV10.1.setCell hP1 _, by simpa using hV10.2.1, by simpa using hV10.2.2.1, hV10.2.2.2.1.set (Nat.zero_le _) (hR1 (w6.heap.size, w7.heap.size) (by simp)) _, hV10.2.2.2.2.set (Nat.zero_le _) (hR1 (w8.heap.size, w9.heap.size) (by simp)) _⟩
        rw [← HW11.out] at hk1' hk2'
        obtain ⟨W12, HW12⟩ : ∃ W, Hid (W = W11.setCell ⟨P2, 0, none⟩ (.slice ma mn mc)) := ⟨_, rfl⟩
        have hk3 : Blk W12 P2 [.slice ma mn mc] 27 := by rw [HW12.out]; exact hk2'.set 0 (.slice ma mn mc)
        have hk4 : Blk W12 P1 [.slice ua un uc] 27 := by rw [HW12.out]; exact Blk.set_other hk1' _ _ hne
        have hV12 : (fun W => Below D.heap.size D W ∧ w9.heap.size ≤ W.heap.size ∧ w7.heap.size ≤ W.heap.size ∧ Kept2 0 w6.heap.size w7.heap.size W (fun W2 => WaysAt W2 (.slice ua un uc) U) ∧ Kept2 0 w8.heap.size w9.heap.size W (fun W2 => WaysAt W2 (.slice ma mn mc) V)) W12 := by
          rw [HW12.out]
          exact ⟨hV11.1.setCell hP2 _, by simpa using hV11.2.1, by simpa using hV11.2.2.1, hV11.2.2.2.1.set (Nat.zero_le _) (hR2 (w6.heap.size, w7.heap.size) (by simp)) _, hV11.2.2.2.2.set (Nat.zero_le _) (hR2 (w8.heap.size, w9.heap.size) (by simp)) _⟩
        have HV11 := hid hV11
        have HV12 := hid hV12
        have HK34 := hid (And.intro hk4 hk3)
        have HK2' := hid hk2'
        have c0 := hk1.cell 0 _ rfl
        have f0 := hk1.free 0
        have l1 := hk1.lt
        clear hV10 hV11 hV12 hk1 hk2 hk1' hk2' hk3 hk4 hR1 hR2 hP1 hP2 hne
        refine seqH2 (fun K12 HK12 => ?_)
        go_wp2_with fail
        rw [← HW11.out]
        refine HK12.out _ _ HV11.out ?_
        clear HK12 K12 c0 f0 l1
        intro _
        have c0 := HK2'.out.cell 0 _ rfl
        have f0 := HK2'.out.free 0
        have l1 := HK2'.out.lt
        refine seqH2 (fun K12 HK12 => ?_)
        go_wp2_with fail
        rw [← HW12.out]
        refine HK12.out _ _ HV12.out ?_
        clear HK12 K12 c0 f0 l1
        intro _
        refine seqH_end ?_
        obtain ⟨hB12, -, -, hKU, hKV⟩ := HV12.out
        have HU := hid hKU.here
        have HV := hid hKV.here
        have HB12 := hid (HDB.out.trans (hB12.mono HDB.out.size))
        have HX6 := hid (HX5.out.below hB12)
        have HY6 := hid (HY5.out.below hB12)
        obtain ⟨z0, z1⟩ := HC.out W12 hB12
        have HK7 := hid (And.intro z0 z1)
        clear hB12 hKU hKV HV12 HV11 HK2' HW12 HW11 z0 z1 HC HD HDB HX5 HY5
        have hXX : mOf X = X := by rw [HXM.out, mOf_self]
        have hu : hasW U way = (y1 || y2) := by rw [HUM.out, union_has, ← HY1.out, ← HY2.out]
        have hv : hasW V way = (y1 && y2) := by
          have hYY : mOf Y = Y := by rw [HYM.out, mOf_self]
          rw [HVM.out, hXX, hYY, show halfW X Y ++ halfW Y X = meetW X Y from rfl, meet_has, ← HY1.out, ← HY2.out]
        have ha : hasW la way = y1 := by rw [HY1.out, HXM.out, mOf_has]
        have HXX := hid hXX
        have HC1 : Hid (∀ W, Below W12.heap.size W12 W → Calls Tryd.prog 7 #[.agg #[.slice ua un uc], .slice wa nw wc] W fun e w' => e = .returned (.bool (y1 || y2)) ∧ Below W.heap.size W w') := fun W hW => by
          have h := mask_Has (HU.out.below hW) (HW.out.below (HB12.out.trans (hW.mono HB12.out.size)))
          rw [hu] at h
          exact h
        have HC2 : Hid (∀ W, Below W12.heap.size W12 W → Calls Tryd.prog 7 #[.agg #[.slice ma mn mc], .slice wa nw wc] W fun e w' => e = .returned (.bool (y1 && y2)) ∧ Below W.heap.size W w') := fun W hW => by
          have h := mask_Has (HV.out.below hW) (HW.out.below (HB12.out.trans (hW.mono HB12.out.size)))
          rw [hv] at h
          exact h
        have HC3 : Hid (∀ W, Below W12.heap.size W12 W → Calls Tryd.prog 7 #[.agg #[.slice aa na ac], .slice wa nw wc] W fun e w' => e = .returned (.bool y1) ∧ Below W.heap.size W w') := fun W hW => by
          have h := mask_Has (HA.out.below (HB12.out.trans (hW.mono HB12.out.size))) (HW.out.below (HB12.out.trans (hW.mono HB12.out.size)))
          rw [ha] at h
          exact h
        clear hXX hu hv ha HY1 HY2
        go_upto_region 8 with fail
        go_cut [9, 10, 33, 36, 68] from 43 to 67 (fun _ _ _ _ s68 wx => s68 = .bool false ∧ Hid (Below W12.heap.size W12 wx))
        case first =>
          have k0 := HK34.out.1.cell 0 _ rfl
          have kl := HK34.out.1.lt
          clear HX6 HY6 HK7 HU HV HXX HLX HLY HUM HVM HXM HYM HA HB HW HLL HLS HXN HYN HNA HNB HUNN HMNN
          cases y1 with
          | false =>
            cases y2 with
            | false =>
              go_wp2_with (first
                | (go_at_call 7; (with_reducible refine (HC1.out W12 (Below.refl _ _)).mono ?_); rintro e r1 ⟨rfl, hb1⟩; have HR1 := hid hb1; have hk := HK34.out.2.below hb1; have m0 := hk.cell 0 _ rfl; have ml := hk.lt; clear hb1 hk k0 kl)
                | (go_at_call 7; (with_reducible refine (HC2.out r1 HR1.out).mono ?_); rintro e r2 ⟨rfl, hb2⟩; have HR2 := hid (HR1.out.trans (hb2.mono HR1.out.size)); clear hb2 m0 ml)
                | (go_at_call 7; (with_reducible refine (HC3.out r2 HR2.out).mono ?_); rintro e r3 ⟨rfl, hb3⟩; have HR3 := hid (HR2.out.trans (hb3.mono HR2.out.size)); clear hb3))
              go_meet
              exact ⟨rfl, HR3.out⟩
            | true =>
              go_wp2_with (first
                | (go_at_call 7; (with_reducible refine (HC1.out W12 (Below.refl _ _)).mono ?_); rintro e r1 ⟨rfl, hb1⟩; have HR1 := hid hb1; have hk := HK34.out.2.below hb1; have m0 := hk.cell 0 _ rfl; have ml := hk.lt; clear hb1 hk k0 kl)
                | (go_at_call 7; (with_reducible refine (HC2.out r1 HR1.out).mono ?_); rintro e r2 ⟨rfl, hb2⟩; have HR2 := hid (HR1.out.trans (hb2.mono HR1.out.size)); clear hb2 m0 ml)
                | (go_at_call 7; (with_reducible refine (HC3.out r2 HR2.out).mono ?_); rintro e r3 ⟨rfl, hb3⟩; have HR3 := hid (HR2.out.trans (hb3.mono HR2.out.size)); clear hb3))
              go_meet
              exact ⟨rfl, HR3.out⟩
          | true =>
            cases y2 with
            | false =>
              go_wp2_with (first
                | (go_at_call 7; (with_reducible refine (HC1.out W12 (Below.refl _ _)).mono ?_); rintro e r1 ⟨rfl, hb1⟩; have HR1 := hid hb1; have hk := HK34.out.2.below hb1; have m0 := hk.cell 0 _ rfl; have ml := hk.lt; clear hb1 hk k0 kl)
                | (go_at_call 7; (with_reducible refine (HC2.out r1 HR1.out).mono ?_); rintro e r2 ⟨rfl, hb2⟩; have HR2 := hid (HR1.out.trans (hb2.mono HR1.out.size)); clear hb2 m0 ml)
                | (go_at_call 7; (with_reducible refine (HC3.out r2 HR2.out).mono ?_); rintro e r3 ⟨rfl, hb3⟩; have HR3 := hid (HR2.out.trans (hb3.mono HR2.out.size)); clear hb3))
              go_meet
              exact ⟨rfl, HR3.out⟩
            | true =>
              go_wp2_with (first
                | (go_at_call 7; (with_reducible refine (HC1.out W12 (Below.refl _ _)).mono ?_); rintro e r1 ⟨rfl, hb1⟩; have HR1 := hid hb1; have hk := HK34.out.2.below hb1; have m0 := hk.cell 0 _ rfl; have ml := hk.lt; clear hb1 hk k0 kl)
                | (go_at_call 7; (with_reducible refine (HC2.out r1 HR1.out).mono ?_); rintro e r2 ⟨rfl, hb2⟩; have HR2 := hid (HR1.out.trans (hb2.mono HR1.out.size)); clear hb2 m0 ml)
                | (go_at_call 7; (with_reducible refine (HC3.out r2 HR2.out).mono ?_); rintro e r3 ⟨rfl, hb3⟩; have HR3 := hid (HR2.out.trans (hb3.mono HR2.out.size)); clear hb3))
              go_meet
              exact ⟨rfl, HR3.out⟩
        case rest =>
          obtain ⟨rfl, HBC⟩ := hcut
          obtain ⟨W13, hW13⟩ : ∃ W, W = wc := ⟨wc, rfl⟩
          subst hW13
          have HB13 := hid (HB12.out.trans (HBC.out.mono HB12.out.size))
          have HX13 := hid (HX6.out.below HBC.out)
          have HU13 := hid (HU.out.below HBC.out)
          have HKA : Hid (∀ W, Below W13.heap.size W13 W → W.cell? ⟨b7, 0, none⟩ = some (.slice xa xn xc) ∧ W.cell? ⟨P1, 0, none⟩ = some (.slice ua un uc)) := fun W hW =>
            ⟨below_keeps hW _ _ (below_keeps HBC.out _ _ HK7.out.1), ((HK34.out.1.below HBC.out).below hW).cell 0 _ rfl⟩
          clear HK34 HK7 HV HY6 HX6 HU HC1 HC2 HC3 HBC HVM HYM HLY HB HA
          go_upto_region 10 with fail
          go_wp2_with fail
          go_loopw [13] (fun v13 wr => ∃ i : Nat, v13 = .int .i64 (i : Int) ∧ i ≤ xn ∧ Hid (Below W13.heap.size W13 wr)) (fun v13 _ => xn - (intOf v13).toNat)
          case atStart => exact ⟨0, rfl, by omega, Below.refl _ _⟩
          case round =>
            obtain ⟨i, rfl, hi, HI⟩ := hrel
            obtain ⟨q0, q1⟩ := HKA.out wr HI.out
            have l0 := World.block_lt_of_cell? wr _ q0
            by_cases hlt : i < xn
            · obtain ⟨xi, hxi⟩ : ∃ xi, X[i]? = some xi := ⟨_, List.getElem?_eq_getElem (by rw [← HXN.out]; exact hlt)⟩
              obtain ⟨-, xa2, xc2, he, -, hat⟩ := (HX13.out.below HI.out).open
              obtain ⟨bi, oi, ai, ci, hxa, g0, hII⟩ := hat i xi hxi
              obtain ⟨rfl, rfl⟩ : xa = xa2 ∧ xc = xc2 := by cases he; exact ⟨rfl, rfl⟩
              clear he hat
              have hmx : xi ∈ X := List.mem_of_getElem? hxi
              have hml : xi ∈ la := by rw [HXM.out] at hmx; exact (((mOf_mask la).2 xi).1 hmx).1
              have hh1 : hasW X xi = true := by rw [HXM.out] at hmx ⊢; exact mOf_hasOwn hmx
              have hh2 : hasW X (xi ++ way) = true := hasW_under hh1 (List.prefix_append _ _)
              have hh3 : hasW U xi = true := by rw [HUM.out, union_has, hh1]; rfl
              have hxl := HLS.out xi hml
              obtain ⟨ni, HNI⟩ : ∃ n, Hid (n = xi.length) := ⟨_, rfl⟩
              rw [← HNI.out] at g0 hII
              obtain ⟨W14, HW14⟩ : ∃ W, Hid (W = wr.drew) := ⟨_, rfl⟩
              have hbd : Below wr.heap.size wr W14 := by rw [HW14.out]; exact (Below.refl _ _).drew
              have HB14 := hid (HI.out.trans (hbd.mono HI.out.size))
              have HB014 := hid (HB13.out.trans (HB14.out.mono HB13.out.size))
              obtain ⟨a2, n2, c2, w2, hr2, hb2, a3, n3, c3, w3, hr3, hO3, hb3⟩ := ints_two (hII.below hbd) (HW.out.below HB014.out) (by have := HNW.out; have := HW100.out; omega)
              have hix := index_run1 Tryd.underlying22 size_ints hxa i hlt (cap := xc)
              have HM1 := hid (mask_Has ((HX13.out.below HB14.out).below hb3) hO3)
              unfold maskV at HM1
              rw [hh2] at HM1
              have HM2 : Hid (∀ W, Below W14.heap.size W14 W → Calls Tryd.prog 7 #[.agg #[.slice ua un uc], .slice ai ni ci] W fun e w' => e = .returned (.bool true) ∧ Below W.heap.size W w') := fun W hW => by
                have h := mask_Has ((HU13.out.below HB14.out).below hW) ((hII.below hbd).below hW)
                rw [hh3] at h
                exact h
              obtain ⟨r0, r1⟩ := HKA.out W14 HB14.out
              have hq : W14.cell? ⟨b7, 0, none⟩ = some (.slice xa xn xc) ∧ W14.cell? ⟨P1, 0, none⟩ = some (.slice ua un uc) ∧ W14.cell? ⟨bi, oi + i, none⟩ = some (.slice ai ni ci) := ⟨r0, r1, below_keeps hbd _ _ g0⟩
              have HQ0 := hid hq
              have HBA := hid (show Below W14.heap.size W14 (W14.alloc (.cells #[] 3)) by (repeat (first | with_reducible exact Below.refl _ _ | with_reducible refine Below.setCell ?_ (by first | omega | (simp; omega) | (simp; done)) _ | with_reducible refine Below.alloc ?_ (by first | omega | (simp; omega) | (simp; done)) _ | with_reducible refine below_drewN ?_ _ | with_reducible refine Below.drew ?_)))
              have HB2' := hid hb2
              have HB3' := hid hb3
              clear g0 hII hmx hml hh1 hh2 hh3 hxl hbd r0 r1 hb2 hb3 hO3 hxi hxa
              go_upto_region 13 with fail
              clear q0 q1 l0
              refine wp_region_guard (fun w' => w'.cell? ⟨b7, 0, none⟩ = some (.slice xa xn xc) ∧ w'.cell? ⟨P1, 0, none⟩ = some (.slice ua un uc) ∧ w'.cell? ⟨bi, oi + i, none⟩ = some (.slice ai ni ci)) (fun _ => True) 1 [(0, 0, 0), (2, 0, 0), (3, 0, 0), (4, 0, 0), (5, 0, 0), (6, 0, 0), (8, 0, 0), (1, 2, 0), (7, 2, 0), (9, 2, 0), (10, 2, 0), (11, 0, 0), (12, 0, 0), (13, 4, 88), (14, 4, 88), (15, 4, 88), (16, 4, 88), (17, 4, 88), (18, 4, 88), (19, 6, 88), (20, 4, 88), (21, 0, 0)] (by kernel_rfl) rfl rfl (by kernel_rfl) (fun _ _ dst _ _ h => by cases dst <;> exact h) (by rw [← HW14.out]; exact hq) trivial (fun OPS2 _ => ?_)
              clear hq
              rw [← HW14.out]
              simp only [List.map_cons, List.map_nil, List.filterMap_cons, List.filterMap_nil, List.getElem?_cons_succ, List.getElem?_cons_zero]
              refine seqH0 (v := ?v100) ?hy100 ?hr100
              case hy100 => (intro w hw; go_simp; all_goals rfl)
              simp only [Act.put, List.setIfInBounds_toArray, List.set_cons_zero, List.set_cons_succ]
              refine seqH0 (v := ?v101) ?hy101 ?hr101
              case hy101 => (intro w hw; go_simp; all_goals rfl)
              simp only [Act.put, List.setIfInBounds_toArray, List.set_cons_zero, List.set_cons_succ]
              refine seqH0 (v := ?v102) ?hy102 ?hr102
              case hy102 => (intro w hw; go_simp; all_goals rfl)
              simp only [Act.put, List.setIfInBounds_toArray, List.set_cons_zero, List.set_cons_succ]
              refine seqH0 (v := ?v103) ?hy103 ?hr103
              case hy103 => (intro w hw; go_simp; all_goals rfl)
              simp only [Act.put, List.setIfInBounds_toArray, List.set_cons_zero, List.set_cons_succ]
              refine seqH0 (v := ?v104) ?hy104 ?hr104
              case hy104 => (intro w hw; go_simp; all_goals rfl)
              simp only [Act.put, List.setIfInBounds_toArray, List.set_cons_zero, List.set_cons_succ]
              refine seqH0 (v := ?v105) ?hy105 ?hr105
              case hy105 => (intro w hw; go_simp; all_goals rfl)
              simp only [Act.put, List.setIfInBounds_toArray, List.set_cons_zero, List.set_cons_succ]
              refine seqH0 (v := ?v106) ?hy106 ?hr106
              case hy106 => (intro w hw; go_simp; all_goals rfl)
              simp only [Act.put, List.setIfInBounds_toArray, List.set_cons_zero, List.set_cons_succ]
              refine seqH2 (fun K12 HK12 => ?_)
              go_wp2_with fail
              refine HK12.out _ _ (⟨below_keeps HBA.out _ _ HQ0.out.1, below_keeps HBA.out _ _ HQ0.out.2.1, below_keeps HBA.out _ _ HQ0.out.2.2⟩) ?_
              clear HK12 K12
              intro _
              refine seqH2 (fun K12 HK12 => ?_)
              go_wp2_with (at_builtin; refine wpList_append_eq rfl _ _ _ rfl _ _ rfl rfl hr2 ?_)
              refine HK12.out _ _ (⟨below_keeps HB2'.out _ _ HQ0.out.1, below_keeps HB2'.out _ _ HQ0.out.2.1, below_keeps HB2'.out _ _ HQ0.out.2.2⟩) ?_
              clear HK12 K12
              intro _
              refine seqH2 (fun K12 HK12 => ?_)
              go_wp2_with (at_builtin; refine wpList_append_eq rfl _ _ _ rfl _ _ rfl rfl hr3 ?_)
              refine HK12.out _ _ (⟨below_keeps HB3'.out _ _ HQ0.out.1, below_keeps HB3'.out _ _ HQ0.out.2.1, below_keeps HB3'.out _ _ HQ0.out.2.2⟩) ?_
              clear HK12 K12 hr2 hr3
              intro _
              refine seqH2 (fun K12 HK12 => ?_)
              go_wp2_with fail
              refine HM1.out.mono ?_
              rintro e w4 ⟨rfl, hb4⟩
              have HB4 := hid (HB3'.out.trans (hb4.mono HB3'.out.size))
              clear hb4
              go_wp2_with fail
              refine HK12.out _ _ (⟨below_keeps HB4.out _ _ HQ0.out.1, below_keeps HB4.out _ _ HQ0.out.2.1, below_keeps HB4.out _ _ HQ0.out.2.2⟩) ?_
              clear HK12 K12
              intro _
              refine seqH0 (v := ?v120) ?hy120 ?hr120
              case hy120 => (intro w hw; go_simp; all_goals rfl)
              simp only [Act.put, List.setIfInBounds_toArray, List.set_cons_zero, List.set_cons_succ]
              refine seqH0 (v := ?v121) ?hy121 ?hr121
              case hy121 => (intro w hw; go_simp; all_goals rfl)
              simp only [Act.put, List.setIfInBounds_toArray, List.set_cons_zero, List.set_cons_succ]
              refine seqH4 (v := ?v122) ?ht122 ?hy122 ?hr122
              case ht122 => rfl
              case hy122 => (intro w hw; go_simp; all_goals rfl)
              simp only [Act.put, List.setIfInBounds_toArray, List.set_cons_zero, List.set_cons_succ]
              refine seqH4 (v := ?v123) ?ht123 ?hy123 ?hr123
              case ht123 => rfl
              case hy123 => (intro w hw; go_simp; all_goals rfl)
              simp only [Act.put, List.setIfInBounds_toArray, List.set_cons_zero, List.set_cons_succ]
              refine seqH4 (v := ?v124) ?ht124 ?hy124 ?hr124
              case ht124 => rfl
              case hy124 => (intro w hw; go_simp; all_goals rfl)
              simp only [Act.put, List.setIfInBounds_toArray, List.set_cons_zero, List.set_cons_succ]
              refine seqH4 (v := ?v125) ?ht125 ?hy125 ?hr125
              case ht125 => rfl
              case hy125 => (intro w hw; go_simp; all_goals rfl)
              simp only [Act.put, List.setIfInBounds_toArray, List.set_cons_zero, List.set_cons_succ]
              refine seqH4 (v := ?v126) ?ht126 ?hy126 ?hr126
              case ht126 => rfl
              case hy126 => (intro w hw; go_simp; all_goals rfl)
              simp only [Act.put, List.setIfInBounds_toArray, List.set_cons_zero, List.set_cons_succ]
              refine seqH4 (v := ?v127) ?ht127 ?hy127 ?hr127
              case ht127 => rfl
              case hy127 => (intro w hw; go_simp; all_goals rfl)
              simp only [Act.put, List.setIfInBounds_toArray, List.set_cons_zero, List.set_cons_succ]
              refine seqH6 (by rfl) (fun K12 HK12 => ?_)
              go_wp2_with fail
              refine (HM2.out w4 HB4.out).mono ?_
              rintro e w5 ⟨rfl, hb5⟩
              have HB5 := hid (HB4.out.trans (hb5.mono HB4.out.size))
              clear hb5
              go_wp2_with fail
              refine HK12.out _ _ (⟨below_keeps HB5.out _ _ HQ0.out.1, below_keeps HB5.out _ _ HQ0.out.2.1, below_keeps HB5.out _ _ HQ0.out.2.2⟩) ?_
              clear HK12 K12
              intro _
              refine seqH4 (v := ?v140) ?ht140 ?hy140 ?hr140
              case ht140 => rfl
              case hy140 => (intro w hw; go_simp; all_goals rfl)
              simp only [Act.put, List.setIfInBounds_toArray, List.set_cons_zero, List.set_cons_succ]
              refine seqH0 (v := ?v141) ?hy141 ?hr141
              case hy141 => (intro w hw; go_simp; all_goals rfl)
              simp only [Act.put, List.setIfInBounds_toArray, List.set_cons_zero, List.set_cons_succ]
              refine seqH_end ?_
              have HBE := hid (HB14.out.trans (HB5.out.mono HB14.out.size))
              clear HM1 HM2 HQ0 HBA HB2' HB3' hix
              go_wp2_with fail
              go_roundw
              case rel => exact ⟨i + 1, by go_num, hlt, HBE.out⟩
              case measure => simp [intOf]; omega
            · obtain rfl : i = xn := by omega
              obtain ⟨W14, HW14⟩ : ∃ W, Hid (W = wr.drew) := ⟨_, rfl⟩
              have hbd : Below wr.heap.size wr W14 := by rw [HW14.out]; exact (Below.refl _ _).drew
              have HB14 := hid (HI.out.trans (hbd.mono HI.out.size))
              have HB014 := hid (HB13.out.trans (HB14.out.mono HB13.out.size))
              have HX14 := hid (HX13.out.below HB14.out)
              have HO1 : Hid (∀ W, Below W14.heap.size W14 W → Calls Tryd.prog 6 #[.slice xa i xc] W (MaskPost W X)) := fun W hW => by
                have h := mask_Of (HX14.out.below hW) HLX.out
                rw [HXX.out] at h
                exact h
              have HO2 : Hid (∀ W, Below W14.heap.size W14 W → Calls Tryd.prog 8 #[.agg #[.slice xa i xc], .agg #[.slice xa i xc]] W (MaskPost W X)) := fun W hW => by
                have h := mask_Union (HX14.out.below hW) (HX14.out.below hW) HLX.out HLX.out (by rw [← HXN.out]; omega)
                unfold maskV at h
                rw [HXM.out, union_self, ← HXM.out] at h
                exact h
              have HO3 : Hid (∀ W, Below W14.heap.size W14 W → Calls Tryd.prog 9 #[.agg #[.slice xa i xc], .agg #[.slice xa i xc]] W (MaskPost W X)) := fun W hW => by
                have h := mask_Meet (HX14.out.below hW) (HX14.out.below hW) HLX.out HLX.out (by rw [← HXN.out]; omega)
                unfold maskV at h
                rw [HXX.out, HXM.out, show halfW (mOf la) (mOf la) ++ halfW (mOf la) (mOf la) = meetW (mOf la) (mOf la) from rfl, meet_self, ← HXM.out] at h
                exact h
              have HSM : Hid (∀ W a c, Below W14.heap.size W14 W → WaysAt W (.slice a i c) X → Calls Tryd.prog 10 #[.slice a i c, .slice xa i xc] W fun e w' => e = .returned (.bool true) ∧ Drew W w') := fun W a c hW ha => by
                have h := ref13_Same ha (HX14.out.below hW)
                rw [decide_eq_true (rfl : X = X)] at h
                exact h
              obtain ⟨r0, -⟩ := HKA.out W14 HB14.out
              have HQ0 : Hid (∀ W, Below W14.heap.size W14 W → W.cell? ⟨b7, 0, none⟩ = some (.slice xa i xc)) := fun W hW => below_keeps hW _ _ r0
              have hfd := field_mask
              clear hbd q1 HUM HU13 HLS HKA
              go_upto_region 15 with fail
              clear q0 l0
              refine wp_region_guard (fun w' => w'.cell? ⟨b7, 0, none⟩ = some (.slice xa i xc)) (fun _ => True) 2 [(0, 0, 0), (1, 0, 0), (4, 0, 0), (5, 0, 0), (2, 2, 0), (3, 0, 0), (6, 2, 0), (7, 0, 0), (8, 4, 105), (9, 4, 105), (12, 4, 105), (13, 4, 105), (10, 6, 105), (11, 4, 105), (14, 6, 105), (15, 0, 0), (16, 0, 0), (17, 4, 114), (18, 4, 114), (21, 4, 114), (22, 4, 114), (19, 6, 114), (20, 4, 114), (23, 6, 114), (24, 0, 0), (25, 0, 0)] (by kernel_rfl) rfl rfl (by kernel_rfl) (fun _ _ dst _ _ h => by cases dst <;> exact h) (by rw [← HW14.out]; exact r0) trivial (fun OPS2 _ => ?_)
              clear r0
              rw [← HW14.out]
              simp only [List.map_cons, List.map_nil, List.filterMap_cons, List.filterMap_nil, List.getElem?_cons_succ, List.getElem?_cons_zero]
              have HE0 := hid (Below.refl W14.heap.size W14)
              refine seqH0 (v := ?v200) ?hy200 ?hr200
              case hy200 => (intro w hw; go_simp; all_goals rfl)
              simp only [Act.put, List.setIfInBounds_toArray, List.set_cons_zero, List.set_cons_succ]
              refine seqH0 (v := ?v201) ?hy201 ?hr201
              case hy201 => (intro w hw; go_simp; all_goals rfl)
              simp only [Act.put, List.setIfInBounds_toArray, List.set_cons_zero, List.set_cons_succ]
              refine seqH0 (v := ?v202) ?hy202 ?hr202
              case hy202 => (intro w hw; go_simp; all_goals rfl)
              simp only [Act.put, List.setIfInBounds_toArray, List.set_cons_zero, List.set_cons_succ]
              refine seqH0 (v := ?v203) ?hy203 ?hr203
              case hy203 => (intro w hw; go_simp; all_goals rfl)
              simp only [Act.put, List.setIfInBounds_toArray, List.set_cons_zero, List.set_cons_succ]
              refine seqH2 (fun K12 HK12 => ?_)
              go_wp2_with fail
              refine (HO1.out W14 HE0.out).mono ?_
              intro e w2 hp
              obtain ⟨a2, c2, rfl, hx, hb, -⟩ := hp.open
              unfold maskV
              have HE2 := hid (HE0.out.trans (hb.mono HE0.out.size))
              have HN2 := hid hx
              rw [← HXN.out] at HN2 ⊢
              clear hp hx hb
              go_wp2_with fail
              refine HK12.out _ _ (HQ0.out _ HE2.out) ?_
              clear HK12 K12
              intro _
              refine seqH0 (v := ?v210) ?hy210 ?hr210
              case hy210 => (intro w hw; go_simp; all_goals rfl)
              simp only [Act.put, List.setIfInBounds_toArray, List.set_cons_zero, List.set_cons_succ]
              refine seqH2 (fun K12 HK12 => ?_)
              go_wp2_with fail
              refine (HSM.out w2 _ _ HE2.out HN2.out).mono ?_
              rintro e w3 ⟨rfl, hd⟩
              have HE3 := hid (HE2.out.trans (hd.below.mono HE2.out.size))
              clear hd
              go_wp2_with fail
              refine HK12.out _ _ (HQ0.out _ HE3.out) ?_
              clear HK12 K12
              intro _
              refine seqH0 (v := ?v220) ?hy220 ?hr220
              case hy220 => (intro w hw; go_simp; all_goals rfl)
              simp only [Act.put, List.setIfInBounds_toArray, List.set_cons_zero, List.set_cons_succ]
              refine seqH4 (v := ?v221) ?ht221 ?hy221 ?hr221
              case ht221 => rfl
              case hy221 => (intro w hw; go_simp; all_goals rfl)
              simp only [Act.put, List.setIfInBounds_toArray, List.set_cons_zero, List.set_cons_succ]
              refine seqH4 (v := ?v222) ?ht222 ?hy222 ?hr222
              case ht222 => rfl
              case hy222 => (intro w hw; go_simp; all_goals rfl)
              simp only [Act.put, List.setIfInBounds_toArray, List.set_cons_zero, List.set_cons_succ]
              refine seqH4 (v := ?v223) ?ht223 ?hy223 ?hr223
              case ht223 => rfl
              case hy223 => (intro w hw; go_simp; all_goals rfl)
              simp only [Act.put, List.setIfInBounds_toArray, List.set_cons_zero, List.set_cons_succ]
              refine seqH4 (v := ?v224) ?ht224 ?hy224 ?hr224
              case ht224 => rfl
              case hy224 => (intro w hw; go_simp; all_goals rfl)
              simp only [Act.put, List.setIfInBounds_toArray, List.set_cons_zero, List.set_cons_succ]
              refine seqH6 (by rfl) (fun K12 HK12 => ?_)
              go_wp2_with fail
              refine (HO2.out w3 HE3.out).mono ?_
              intro e w4 hp
              obtain ⟨a4, c4, rfl, hx, hb, -⟩ := hp.open
              unfold maskV
              have HE4 := hid (HE3.out.trans (hb.mono HE3.out.size))
              have HN4 := hid hx
              rw [← HXN.out] at HN4 ⊢
              clear hp hx hb
              go_wp2_with fail
              refine HK12.out _ _ (HQ0.out _ HE4.out) ?_
              clear HK12 K12
              intro _
              refine seqH4 (v := ?v230) ?ht230 ?hy230 ?hr230
              case ht230 => rfl
              case hy230 => (intro w hw; go_simp; all_goals rfl)
              simp only [Act.put, List.setIfInBounds_toArray, List.set_cons_zero, List.set_cons_succ]
              refine seqH6 (by rfl) (fun K12 HK12 => ?_)
              go_wp2_with fail
              refine (HSM.out w4 _ _ HE4.out HN4.out).mono ?_
              rintro e w5 ⟨rfl, hd⟩
              have HE5 := hid (HE4.out.trans (hd.below.mono HE4.out.size))
              clear hd
              go_wp2_with fail
              refine HK12.out _ _ (HQ0.out _ HE5.out) ?_
              clear HK12 K12
              intro _
              refine seqH0 (v := ?v240) ?hy240 ?hr240
              case hy240 => (intro w hw; go_simp; all_goals rfl)
              simp only [Act.put, List.setIfInBounds_toArray, List.set_cons_zero, List.set_cons_succ]
              refine seqH0 (v := ?v241) ?hy241 ?hr241
              case hy241 => (intro w hw; go_simp; all_goals rfl)
              simp only [Act.put, List.setIfInBounds_toArray, List.set_cons_zero, List.set_cons_succ]
              refine seqH4 (v := ?v242) ?ht242 ?hy242 ?hr242
              case ht242 => rfl
              case hy242 => (intro w hw; go_simp; all_goals rfl)
              simp only [Act.put, List.setIfInBounds_toArray, List.set_cons_zero, List.set_cons_succ]
              refine seqH4 (v := ?v243) ?ht243 ?hy243 ?hr243
              case ht243 => rfl
              case hy243 => (intro w hw; go_simp; all_goals rfl)
              simp only [Act.put, List.setIfInBounds_toArray, List.set_cons_zero, List.set_cons_succ]
              refine seqH4 (v := ?v244) ?ht244 ?hy244 ?hr244
              case ht244 => rfl
              case hy244 => (intro w hw; go_simp; all_goals rfl)
              simp only [Act.put, List.setIfInBounds_toArray, List.set_cons_zero, List.set_cons_succ]
              refine seqH4 (v := ?v245) ?ht245 ?hy245 ?hr245
              case ht245 => rfl
              case hy245 => (intro w hw; go_simp; all_goals rfl)
              simp only [Act.put, List.setIfInBounds_toArray, List.set_cons_zero, List.set_cons_succ]
              refine seqH6 (by rfl) (fun K12 HK12 => ?_)
              go_wp2_with fail
              refine (HO3.out w5 HE5.out).mono ?_
              intro e w6 hp
              obtain ⟨a6, c6, rfl, hx, hb, -⟩ := hp.open
              unfold maskV
              have HE6 := hid (HE5.out.trans (hb.mono HE5.out.size))
              have HN6 := hid hx
              rw [← HXN.out] at HN6 ⊢
              clear hp hx hb
              go_wp2_with fail
              refine HK12.out _ _ (HQ0.out _ HE6.out) ?_
              clear HK12 K12
              intro _
              refine seqH4 (v := ?v250) ?ht250 ?hy250 ?hr250
              case ht250 => rfl
              case hy250 => (intro w hw; go_simp; all_goals rfl)
              simp only [Act.put, List.setIfInBounds_toArray, List.set_cons_zero, List.set_cons_succ]
              refine seqH6 (by rfl) (fun K12 HK12 => ?_)
              go_wp2_with fail
              refine (HSM.out w6 _ _ HE6.out HN6.out).mono ?_
              rintro e w7 ⟨rfl, hd⟩
              have HE7 := hid (HE6.out.trans (hd.below.mono HE6.out.size))
              clear hd
              go_wp2_with fail
              refine HK12.out _ _ (HQ0.out _ HE7.out) ?_
              clear HK12 K12
              intro _
              refine seqH0 (v := ?v260) ?hy260 ?hr260
              case hy260 => (intro w hw; go_simp; all_goals rfl)
              simp only [Act.put, List.setIfInBounds_toArray, List.set_cons_zero, List.set_cons_succ]
              refine seqH0 (v := ?v261) ?hy261 ?hr261
              case hy261 => (intro w hw; go_simp; all_goals rfl)
              simp only [Act.put, List.setIfInBounds_toArray, List.set_cons_zero, List.set_cons_succ]
              refine seqH_end ?_
              have HEND := hid (HTRUE.out w7 (HB014.out.trans (HE7.out.mono HB014.out.size)))
              clear HQ0 HO1 HO2 HO3 HSM hfd
              go_wp2_with fail
              exact HEND.out
end Go.Proofs.YtmngpfnjomhhcaaDoor
namespace Go.Proofs.YtmngpfnjomhhcaaDoor
open Go.RowKit Go.Deep
/-- every part of a datum is within the form's reach -/
def Light {H : Type} (P : Program) (t : TypeId) (d : DataW H) : Prop := ∀ n ∈ d.weights P t, n ≤ reachBytes
theorem light_slice {H : Type} {P : Program} {t e : TypeId} (ht : P.underlying t = some (.slice e)) {es sp : List (DataW H)} (h : Light P t (.slice es sp)) :
    (es.length + sp.length) * P.bytesOf e ≤ reachBytes ∧ (∀ d ∈ es, Light P e d) ∧ (∀ d ∈ sp, Light P e d) := by
  have all : ∀ (l : List (DataW H)) (d : DataW H), d ∈ l → ∀ n ∈ d.weights P e, n ∈ DataW.weightsAll P e l := by
    intro l
    induction l with
    | nil => intro d hd; simp at hd
    | cons x r ih =>
      intro d hd n hn
      rw [DataW.weightsAll]
      rcases List.mem_cons.1 hd with rfl | hd
      · exact List.mem_append_left _ hn
      · exact List.mem_append_right _ (ih d hd n hn)
  refine ⟨h _ (by simp [DataW.weights, ht]), fun d hd n hn => h n ?_, fun d hd n hn => h n ?_⟩
  · simp only [DataW.weights, ht]
    exact List.mem_cons_of_mem _ (List.mem_append_left _ (all _ d hd n hn))
  · simp only [DataW.weights, ht]
    exact List.mem_cons_of_mem _ (List.mem_append_right _ (all _ d hd n hn))
theorem light_arg {H : Type} {P : Program} {ts : List TypeId} {ds : List (DataW H)} (h : (DataW.weightsEach P ts ds).all (· ≤ reachBytes) = true) {j : Nat} {t : TypeId} {d : DataW H} (ht : ts[j]? = some t) (hd : ds[j]? = some d) : Light P t d := by
  intro n hn
  have := List.all_eq_true.1 h _ (DataW.weights_mem_each ht hd n hn)
  simpa using this
theorem flat_one {α : Type} (n : Nat) (css : Nat → List α) (f : Nat → α) (h : ∀ i, i < n → css i = [f i]) : (List.range n).flatMap css = (List.range n).map f := by
  induction n with
  | zero => rfl
  | succ n ih =>
    rw [List.range_succ, List.flatMap_append, List.map_append, ih (fun i hi => h i (by omega))]
    simp [h n (by omega)]
/-- a slice of whatever elements, as cells -/
theorem seg_of_trod2 {H : Type} {enc : TypeId × Value → H} {P : Program} {w : World} {t e : TypeId} {size : Nat} (ht : P.underlying t = some (.slice e)) (hce : P.cellsOf e = size) (hbytes : 1 ≤ P.bytesOf e)
    {v : Value} {d : DataW H} {p : List MemPlace} (hv : ∃ a n c, v = .slice a n c) (h : DataW.Trod enc P w 0 (fun _ => true) true t v d p) (hL : Light P t d) :
    ∃ (n fuel : Nat) (css : Nat → List Value) (D : Nat → DataW H) (Pl : Nat → List MemPlace), Seg w v size n ((List.range n).flatMap css) ∧ (∀ i, i < n → (css i).length = size ∧ DataW.trod enc P w 0 (fun _ => true) true fuel e (css i) = some (D i, Pl i) ∧ Light P e (D i)) ∧ (d = .nil ∧ n = 0 ∨ ∃ sp, d = .slice ((List.range n).map D) sp) := by
  obtain ⟨a0, n0, c0, rfl⟩ := hv
  obtain ⟨fuel, h⟩ := h
  rcases open_slice ht h with ⟨hcs, hx⟩ | ⟨a, len, cap, m, n, D, Pl, hcs, -, hl, hm, hmm, hx, hel⟩
  · simp [Value.cells] at hcs
    obtain ⟨rfl, rfl, rfl⟩ := hcs
    exact ⟨0, 0, fun _ => [], fun _ => .nil, fun _ => [], ⟨by simp, by simp, none, 0, rfl, Nat.le_refl _, by omega, fun _ => rfl, fun j u hu => by simp at hu⟩, fun i hi => absurd hi (by omega), .inl ⟨by cases hx; rfl, rfl⟩⟩
  · simp [Value.cells] at hcs
    obtain ⟨rfl, rfl, rfl⟩ := hcs
    simp only [if_true] at hmm
    subst hmm
    simp only [Prod.mk.injEq] at hx
    obtain ⟨rfl, -⟩ := hx
    obtain ⟨hb, hle, -⟩ := light_slice ht hL
    simp only [List.length_map, List.length_range] at hb
    have hn47 : n0 ≤ 140737488355328 := by
      have h1 : reachBytes < 2 ^ 47 := reachBytes_lt
      have h2 : n0 * 1 ≤ (n0 + (m - n0)) * P.bytesOf e := Nat.mul_le_mul (by omega) hbytes
      omega
    obtain ⟨css, hcss⟩ := choose_lt (α := List Value) (n := n0) (p := fun i cs => w.cells? 0 (a.add (i * P.cellsOf e)) (P.cellsOf e) = some cs ∧ DataW.trod enc P w 0 (fun _ => true) true n e cs = some (D i, Pl i)) (fun i hi => hel i (by omega))
    have hlen : ∀ i, i < n0 → (css i).length = size := fun i hi => by rw [← hce]; exact (World.cells?_some (hcss i hi).1).2.1
    have flat : ∀ (k : Nat), k ≤ n0 → ((List.range k).flatMap css).length = k * size := by
      intro k
      induction k with
      | zero => intro _; simp
      | succ k ih =>
        intro hk
        rw [List.range_succ, List.flatMap_append, List.length_append, ih (by omega)]
        simp [hlen k (by omega), Nat.succ_mul]
    refine ⟨n0, n, css, D, Pl, ⟨flat n0 (Nat.le_refl _), hn47, some a, m, rfl, hl, by unfold maxLen at hm; omega, by simp, ?_⟩, fun i hi => ⟨hlen i hi, (hcss i hi).2, hle _ (List.mem_map.2 ⟨i, List.mem_range.2 hi, rfl⟩)⟩, .inr ⟨_, rfl⟩⟩
    intro j u hu
    -- the cell at place j lies in element j / size
    have get : ∀ (k : Nat), k ≤ n0 → ∀ j u, ((List.range k).flatMap css)[j]? = some u → ∃ i q, i < k ∧ q < size ∧ j = i * size + q ∧ (css i)[q]? = some u := by
      intro k
      induction k with
      | zero => intro _ j u hu; simp at hu
      | succ k ih =>
        intro hk j u hu
        rw [List.range_succ, List.flatMap_append] at hu
        by_cases hj : j < k * size
        · rw [List.getElem?_append_left (by rw [flat k (by omega)]; exact hj)] at hu
          obtain ⟨i, q, h1, h2, h3, h4⟩ := ih (by omega) j u hu
          exact ⟨i, q, by omega, h2, h3, h4⟩
        · rw [List.getElem?_append_right (by rw [flat k (by omega)]; omega), flat k (by omega)] at hu
          simp at hu
          have hq : j - k * size < size := by
            have := (List.getElem?_eq_some_iff.1 hu).1
            rw [hlen k (by omega)] at this; exact this
          exact ⟨k, j - k * size, by omega, hq, by omega, hu⟩
    obtain ⟨i, q, h1, h2, rfl, h4⟩ := get n0 (Nat.le_refl _) j u hu
    obtain ⟨-, -, hc⟩ := World.cells?_some (hcss i h1).1
    have hcell := hc q (by rw [hce]; exact h2)
    rw [h4, hce, add_add] at hcell
    have hspot : a.spot = none := by
      have h0 := (World.cells?_some (hcss 0 (by omega)).1).2.2 0 (by rw [hce]; omega)
      have h5 : (css 0)[0]? = some ((css 0)[0]'(by rw [hlen 0 (by omega)]; omega)) := List.getElem?_eq_getElem _
      rw [h5] at h0
      simpa [Addr.add] using World.cell?_spot h0
    obtain ⟨b, o, sp⟩ := a
    have : sp = none := hspot
    subst this
    rw [addr_add] at hcell
    exact ⟨b, o, rfl, hcell⟩
theorem bulk_one {H : Type} (d : DataW H) : 1 ≤ Rows.uptoBulk d := by
  cases d with
  | lit l => cases l <;> simp [Rows.uptoBulk]
  | nil => simp [Rows.uptoBulk]
  | ptr d => simp [Rows.uptoBulk]
  | slice elems spare => simp [Rows.uptoBulk]
  | agg parts => simp [Rows.uptoBulk]
  | iface t d => simp [Rows.uptoBulk]
  | map entries => simp [Rows.uptoBulk]
  | held h => simp [Rows.uptoBulk]
theorem bulkAll_sum {H : Type} : ∀ l : List (DataW H), Rows.uptoBulkAll l = (l.map Rows.uptoBulk).sum
  | [] => by simp [Rows.uptoBulkAll]
  | x :: r => by simp [Rows.uptoBulkAll, bulkAll_sum r]
theorem bulk_part {H : Type} {d : DataW H} {l : List (DataW H)} (h : d ∈ l) : Rows.uptoBulk d ≤ Rows.uptoBulkAll l := by
  rw [bulkAll_sum]; exact mem_sum_le _ l d h
theorem sum_range_le {f g : Nat → Nat} : ∀ n, (∀ i, i < n → f i ≤ g i) → ((List.range n).map f).sum ≤ ((List.range n).map g).sum
  | 0, _ => by simp
  | n + 1, h => by
    have h1 := sum_range_le n fun i hi => h i (by omega)
    have h2 := h n (by omega)
    rw [List.range_succ, List.map_append, List.map_append, List.sum_append, List.sum_append]
    simp
    omega
/-- the elements' weights, all together -/
theorem bulk_elems {H : Type} {n : Nat} {D : Nat → DataW H} {d : DataW H} {f : Nat → Nat} (hd : d = .nil ∧ n = 0 ∨ ∃ sp, d = .slice ((List.range n).map D) sp) (hf : ∀ i, i < n → f i ≤ Rows.uptoBulk (D i)) : ((List.range n).map f).sum + 1 ≤ Rows.uptoBulk d := by
  rcases hd with ⟨rfl, rfl⟩ | ⟨sp, rfl⟩
  · simp [Rows.uptoBulk]
  · have h := sum_range_le n hf
    simp only [Rows.uptoBulk, bulkAll_sum, List.map_map]
    have e : (List.range n).map (Rows.uptoBulk ∘ D) = (List.range n).map fun i => Rows.uptoBulk (D i) := rfl
    rw [e]
    omega
theorem bulk_elem {H : Type} {n : Nat} {D : Nat → DataW H} {d : DataW H} (hd : d = .nil ∧ n = 0 ∨ ∃ sp, d = .slice ((List.range n).map D) sp) {i : Nat} (hi : i < n) : Rows.uptoBulk (D i) + 1 ≤ Rows.uptoBulk d := by
  rcases hd with ⟨rfl, rfl⟩ | ⟨sp, rfl⟩
  · omega
  · have h := bulk_part (List.mem_map.2 ⟨i, List.mem_range.2 hi, rfl⟩ : D i ∈ (List.range n).map D)
    simp only [Rows.uptoBulk]
    omega
/-- a slice's value, of its cells -/
theorem trod_slice_form {H : Type} {enc : TypeId × Value → H} {P : Program} {w : World} {t e : TypeId} {fuel : Nat} {u : Value} {x : DataW H × List MemPlace} (ht : P.underlying t = some (.slice e)) (h : DataW.trod enc P w 0 (fun _ => true) true fuel t [u] = some x) : ∃ a n c, u = .slice a n c := by
  rcases open_slice ht h with ⟨hcs, -⟩ | ⟨a, len, cap, m, n, D, Pl, hcs, -⟩
  · exact ⟨_, _, _, by simpa using hcs⟩
  · exact ⟨_, _, _, by simpa using hcs⟩
/-- a slice of rows -/
theorem rows_of_trod {H α : Type} {enc : TypeId × Value → H} {w : World} {t e : TypeId} {k : Nat} (P : World → List Value → α → Prop) (wt : α → Nat) (ht : Tryd.prog.underlying t = some (.slice e)) (hce : Tryd.prog.cellsOf e = k) (hby : 1 ≤ Tryd.prog.bytesOf e)
    {v : Value} {d : DataW H} {p : List MemPlace} (hv : ∃ a n c, v = .slice a n c) (h : DataW.Trod enc Tryd.prog w 0 (fun _ => true) true t v d p) (hL : Light Tryd.prog t d) (B : Nat) (hB : Rows.uptoBulk d ≤ B + 1)
    (hel : ∀ (fuel : Nat) (cs : List Value) (d : DataW H) (p : List MemPlace), DataW.trod enc Tryd.prog w 0 (fun _ => true) true fuel e cs = some (d, p) → Light Tryd.prog e d → Rows.uptoBulk d ≤ B → ∃ x : α, P w cs x ∧ wt x ≤ Rows.uptoBulk d) :
    ∃ l : List α, RowsAt P k w v l ∧ (l.map wt).sum + 1 ≤ Rows.uptoBulk d := by
  obtain ⟨n, fuel, css, D, Pl, hs, hx, hd⟩ := seg_of_trod2 ht hce hby hv h hL
  have h1' : ∀ i, i < n → ∃ x : α, P w (css i) x ∧ wt x ≤ Rows.uptoBulk (D i) := fun i hi => by
    obtain ⟨h1, h2, h3⟩ := hx i hi
    exact hel fuel _ _ _ h2 h3 (by have := bulk_elem hd hi; omega)
  by_cases h0 : n = 0
  · subst h0
    refine ⟨[], ⟨[], rfl, by simp, by simpa using hs, by simp⟩, ?_⟩
    simpa using bulk_one d
  obtain ⟨x0, -⟩ := h1' 0 (by omega)
  haveI : Inhabited α := ⟨x0⟩
  obtain ⟨c, hc⟩ := choose_lt (α := α) (n := n) (p := fun i c => P w (css i) c ∧ wt c ≤ Rows.uptoBulk (D i)) (fun i hi => by
    obtain ⟨h1, h2, h3⟩ := hx i hi
    exact hel fuel _ _ _ h2 h3 (by have := bulk_elem hd hi; omega))
  refine ⟨(List.range n).map c, ⟨(List.range n).map css, by simp, ?_, ?_, ?_⟩, ?_⟩
  · intro r hr
    obtain ⟨i, hi, rfl⟩ := List.mem_map.1 hr
    exact (hx i (List.mem_range.1 hi)).1
  · rw [List.length_map, List.length_range, ← List.flatMap_def]
    exact hs
  · intro i r x hr hxx
    simp only [List.getElem?_map] at hr hxx
    rcases Nat.lt_or_ge i n with hi | hi
    · simp [hi] at hr hxx
      subst hr
      subst hxx
      exact (hc i hi).1
    · simp [hi] at hr
  · have := bulk_elems (f := fun i => wt (c i)) hd fun i hi => (hc i hi).2
    rw [List.map_map]
    exact this
end Go.Proofs.YtmngpfnjomhhcaaDoor
