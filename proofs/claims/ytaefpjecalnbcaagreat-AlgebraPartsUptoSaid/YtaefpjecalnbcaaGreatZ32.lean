/- darninglaw15.AlgebraParts: true. A meaning of at most 2^40 things, a mask of at most 2^40 ways. -/
import Derived.Test.YtaefpjecalnbcaaGreatZ11
import Derived.Test.YtaefpjecalnbcaaGreatZ15
import Derived.Test.YtaefpjecalnbcaaGreatZ22
import Derived.Test.YtaefpjecalnbcaaGreatZ29
import Derived.Test.YtaefpjecalnbcaaGreatZ30
import Derived.Test.YtaefpjecalnbcaaGreatZ31
namespace Go.Proofs.YtaefpjecalnbcaaGreat
open Go.RowKit
theorem may_code (s : List Mes) (root : Int) (d : Nat) (x : M d) : mayAll s root [rightB s d root x] = mayCode s root d x := by
  unfold mayAll mayCode
  cases rightB s d root x <;> rfl
theorem zero_msg (w : World) : MsgAt 1 w (.agg #[.slice none 0 0, .slice none 0 0]) (⟨[], []⟩ : Msgd (M 0)) := ⟨_, _, rfl, rowsAt_nil _ _ _, strs_nil _⟩
set_option maxRecDepth 100000 in
set_option maxHeartbeats 8000000 in
theorem law15_AlgebraParts {w : World} {sv v mv : Value} {s : List Mes} {d : Nat} {x : M d} {ws : List (List Int)} (hS : SchemaAt w sv s) (root : Int) (hx : MsgAt d w v x) (hM : WaysAt w mv ws) (hL : LightW ws) (hwt : mwt d x ≤ 1099511627776) :
    Calls Tryz.prog 3 #[sv, .int .i64 root, v, mv] w fun e w' => e = .returned (.bool true) ∧ Below w.heap.size w w' := by
  obtain ⟨a1, n1, c1, a2, n2, c2, rfl⟩ := hx.form
  obtain ⟨X, HX⟩ : ∃ X, Hid (X = w.heap.size) := ⟨_, rfl⟩
  have HS := hid hS
  have HXM := hid hx
  have HMW := hid (And.intro hM hL)
  have HWT := hid hwt
  obtain ⟨-, sa, sc, rfl, -⟩ := hS.open
  obtain ⟨-, ma, mc, rfl, -, -⟩ := hM.open
  obtain ⟨sn, HSN⟩ : ∃ n, Hid (n = s.length) := ⟨_, rfl⟩
  obtain ⟨mn, HMN⟩ : ∃ n, Hid (n = ws.length) := ⟨_, rfl⟩
  rw [← HSN.out] at HS ⊢
  rw [← HMN.out] at HMW ⊢
  obtain ⟨W1, HW1⟩ : ∃ W, Hid (W = w.alloc (.cells #[.slice a1 n1 c1, .slice a2 n2 c2] 27)) := ⟨_, rfl⟩
  have hb1 : Below w.heap.size w W1 := by rw [HW1.out]; exact (Below.refl _ _).alloc (Nat.le_refl _) _
  have HK1 : Hid (Blk W1 X [.slice a1 n1 c1, .slice a2 n2 c2] 27) := by rw [HW1.out, HX.out]; exact Blk.new w [.slice a1 n1 c1, .slice a2 n2 c2] _
  have HB1 := hid hb1
  obtain ⟨code, HC⟩ : ∃ c, Hid (c = mayCode s root d x) := ⟨_, rfl⟩
  clear hS hx hM hL hwt hb1
  go_enter Tryz.func3, Tryz.ntmps3
  go_upto_region 1 with fail
  rw [← HW1.out, ← HX.out]
  go_wp2_with fail
  refine (law15_alive W1).mono ?_
  rintro e w2 ⟨rfl, hb2⟩
  have HB2 := hid (HB1.out.trans (hb2.mono HB1.out.size))
  have HK2 := hid (HK1.out.below hb2)
  clear hb2
  go_wp2_with fail
  refine (law07_Few (HS.out.below HB2.out)).mono ?_
  rintro e w3 ⟨⟨few, rfl⟩, hb3⟩
  have HB3 := hid (HB2.out.trans (hb3.mono HB2.out.size))
  have HK3 := hid (HK2.out.below hb3)
  clear hb3
  have k0 := HK3.out.cell 0 _ rfl
  have k1 := HK3.out.cell 1 _ rfl
  have kl := HK3.out.lt
  cases few with
  | false =>
    go_wp2_with fail
    go_ret
    exact ⟨rfl, HB3.out⟩
  | true =>
    obtain ⟨W4, HW4⟩ : ∃ W, Hid (W = w3.alloc (.cells #[.slice a1 n1 c1, .slice a2 n2 c2] 27)) := ⟨_, rfl⟩
    have hb4 : Below w3.heap.size w3 W4 := by rw [HW4.out]; exact (Below.refl _ _).alloc (Nat.le_refl _) _
    have hg4 : Blk W4 w3.heap.size [.slice a1 n1 c1, .slice a2 n2 c2] 27 := by rw [HW4.out]; exact Blk.new w3 [.slice a1 n1 c1, .slice a2 n2 c2] _
    have HB4 := hid (HB3.out.trans (hb4.mono HB3.out.size))
    have HK4 := hid (HK3.out.below hb4)
    have HBIG := hid (law15_big (w := W4) (g := w3.heap.size) (n := 1) (c := 1) (fun i hi => by
      obtain rfl : i = 0 := by omega
      exact ⟨_, _, d, x, by simpa using hg4.cell 0 _ rfl, by simpa using hg4.cell 1 _ rfl, HXM.out.below HB4.out, HWT.out⟩) (by decide))
    clear hb4 hg4
    go_wp2_with fail
    rw [← HW4.out]
    refine HBIG.out.mono ?_
    rintro e w5 ⟨⟨big, rfl⟩, hb5⟩
    have HB5 := hid (HB4.out.trans (hb5.mono HB4.out.size))
    have HK5 := hid (HK4.out.below hb5)
    clear hb5 k0 k1 kl
    cases big with
    | true =>
      go_wp2_with fail
      go_ret
      exact ⟨rfl, HB5.out⟩
    | false =>
      go_wp2_with fail
      refine (law13_Many (HMW.out.1.below HB5.out)).mono ?_
      rintro e w6 ⟨⟨many, rfl⟩, rfl⟩
      cases many with
      | true =>
        go_wp2_with fail
        go_ret
        exact ⟨rfl, HB5.out⟩
      | false =>
        have k0 := HK5.out.cell 0 _ rfl
        have k1 := HK5.out.cell 1 _ rfl
        have kl := HK5.out.lt
        go_wp2_with fail
        refine (law14_Of (HXM.out.below HB5.out) HWT.out).mono ?_
        rintro e w6 ⟨v6, rfl, hb6, hM6⟩
        obtain ⟨p1, q1, o1, p2, q2, o2, rfl⟩ := hM6.form
        obtain ⟨Y, HY⟩ : ∃ Y, Hid (Y = w6.heap.size) := ⟨_, rfl⟩
        obtain ⟨W7, HW7⟩ : ∃ W, Hid (W = w6.alloc (.cells #[.slice p1 q1 o1, .slice p2 q2 o2] 35)) := ⟨_, rfl⟩
        have hb7 : Below w6.heap.size w6 W7 := by rw [HW7.out]; exact (Below.refl _ _).alloc (Nat.le_refl _) _
        have HY7 : Hid (Blk W7 Y [.slice p1 q1 o1, .slice p2 q2 o2] 35) := by rw [HW7.out, HY.out]; exact Blk.new w6 [.slice p1 q1 o1, .slice p2 q2 o2] _
        have hb57 := hb6.trans (hb7.mono hb6.size)
        have HB7 := hid (HB5.out.trans (hb57.mono HB5.out.size))
        have HK7 := hid (HK5.out.below hb57)
        have HM7 := hid (hM6.below hb7)
        clear hb6 hb7 hb57 hM6 k0 k1 kl
        have k0 := HK7.out.cell 0 _ rfl
        have k1 := HK7.out.cell 1 _ rfl
        have kl := HK7.out.lt
        have hc12 : code ≤ 12 := by rw [HC.out, ← may_code]; exact may_small _ _ _
        by_cases h0 : code = 0
        · subst h0
          obtain ⟨g1, g2, g3, g4⟩ := may_zero ((may_code s root d x).trans HC.out.symm)
          obtain ⟨r, rfl⟩ : ∃ r : Nat, root = r := ⟨root.toNat, by omega⟩
          have hrt : rightB s d (r : Int) x = true := by simpa using g4
          have hrs : r < s.length := by omega
          have HRT := hid (And.intro hrt hrs)
          obtain ⟨ky, HKY⟩ : ∃ y, Hid (y = partM s true d r (mOf ws) x) := ⟨_, rfl⟩
          obtain ⟨ly, HLY⟩ : ∃ y, Hid (y = partM s false d r (mOf ws) x) := ⟨_, rfl⟩
          have HKW : Hid (mwt d ky ≤ 1099511627776 ∧ mwt d ly ≤ 1099511627776) := by
            rw [HKY.out, HLY.out]
            exact ⟨Nat.le_trans (mwt_part _ _ _ _ _ _) HWT.out, Nat.le_trans (mwt_part _ _ _ _ _ _) HWT.out⟩
          have HKP := hid (alg_Keep (HS.out.below HB7.out) r (HXM.out.below HB7.out) (HMW.out.1.below HB7.out) HMW.out.2 HWT.out)
          rw [may_code, ← HC.out, Int.toNat_natCast, ← HKY.out] at HKP
          clear g1 g2 g3 g4 hrt hrs hc12
          go_upto_region 6 with fail
          rw [← HW7.out, ← HY.out]
          unfold maskV at HKP
          go_wp2_with fail
          refine HKP.out.mono ?_
          rintro e w8 ⟨hb8, -, hz8⟩
          obtain ⟨i1, i2, i3, j1, j2, j3, rfl, hap8⟩ := hz8 rfl
          have hM8 := hap8.here
          obtain ⟨A, HA⟩ : ∃ A, Hid (A = w8.heap.size) := ⟨_, rfl⟩
          obtain ⟨W9, HW9⟩ : ∃ W, Hid (W = w8.alloc (.cells #[.slice i1 i2 i3, .slice j1 j2 j3] 27)) := ⟨_, rfl⟩
          have hb9 : Below w8.heap.size w8 W9 := by rw [HW9.out]; exact (Below.refl _ _).alloc (Nat.le_refl _) _
          have HA9 : Hid (Blk W9 A [.slice i1 i2 i3, .slice j1 j2 j3] 27) := by rw [HW9.out, HA.out]; exact Blk.new w8 [.slice i1 i2 i3, .slice j1 j2 j3] _
          have hb79 := hb8.trans (hb9.mono hb8.size)
          have HB9 := hid (HB7.out.trans (hb79.mono HB7.out.size))
          have HK9 := hid (HK7.out.below hb79)
          have HY9 := hid (HY7.out.below hb79)
          have HM9 := hid (HM7.out.below hb79)
          have HKM9 := hid (hM8.below hb9)
          have HLV := hid (alg_Leave (HS.out.below HB9.out) r (HXM.out.below HB9.out) (HMW.out.1.below HB9.out) HMW.out.2 HWT.out)
          rw [may_code, ← HC.out, Int.toNat_natCast, ← HLY.out] at HLV
          unfold maskV at HLV
          clear hb8 hb9 hb79 hz8 hap8 hM8 k0 k1 kl HKP
          have k0 := HK9.out.cell 0 _ rfl
          have k1 := HK9.out.cell 1 _ rfl
          have kl := HK9.out.lt
          go_upto_region 7 with fail
          rw [← HW9.out, ← HA.out]
          go_wp2_with fail
          refine HLV.out.mono ?_
          rintro e w10 ⟨hb10, -, hz10⟩
          obtain ⟨l1, l2, l3, m1, m2, m3, rfl, hap10⟩ := hz10 rfl
          have hM10 := hap10.here
          obtain ⟨B, HB⟩ : ∃ B, Hid (B = w10.heap.size) := ⟨_, rfl⟩
          obtain ⟨W11, HW11⟩ : ∃ W, Hid (W = w10.alloc (.cells #[.slice l1 l2 l3, .slice m1 m2 m3] 27)) := ⟨_, rfl⟩
          have hb11 : Below w10.heap.size w10 W11 := by rw [HW11.out]; exact (Below.refl _ _).alloc (Nat.le_refl _) _
          have HBB11 : Hid (Blk W11 B [.slice l1 l2 l3, .slice m1 m2 m3] 27) := by rw [HW11.out, HB.out]; exact Blk.new w10 [.slice l1 l2 l3, .slice m1 m2 m3] _
          have hb911 := hb10.trans (hb11.mono hb10.size)
          have HB11 := hid (HB9.out.trans (hb911.mono HB9.out.size))
          have HA11 := hid (HA9.out.below hb911)
          have HY11 := hid (HY9.out.below hb911)
          have HM11 := hid (HM9.out.below hb911)
          have HKM11 := hid (HKM9.out.below hb911)
          have HLM11 := hid (hM10.below hb11)
          clear hb10 hb11 hb911 hz10 hap10 hM10 k0 k1 kl HLV
          go_upto_region 8 with fail
          rw [← HW11.out, ← HB.out]
          have y0 := HY11.out.cell 0 _ rfl
          have y1 := HY11.out.cell 1 _ rfl
          have yl := HY11.out.lt
          obtain ⟨W12, HW12⟩ : ∃ W, Hid (W = W11.alloc (.cells #[.slice p1 q1 o1, .slice p2 q2 o2] 35)) := ⟨_, rfl⟩
          obtain ⟨G, HG⟩ : ∃ G, Hid (G = W11.heap.size) := ⟨_, rfl⟩
          have hb12 : Below W11.heap.size W11 W12 := by rw [HW12.out]; exact (Below.refl _ _).alloc (Nat.le_refl _) _
          have hg12 : Blk W12 G [.slice p1 q1 o1, .slice p2 q2 o2] 35 := by rw [HW12.out, HG.out]; exact Blk.new W11 [.slice p1 q1 o1, .slice p2 q2 o2] _
          have HB12 := hid (HB11.out.trans (hb12.mono HB11.out.size))
          have HMY := hid (ref15_May (HS.out.below HB12.out) (r : Int) (HM11.out.below hb12) HWT.out (hg12.cell 0 _ rfl) (hg12.cell 1 _ rfl))
          rw [← HC.out] at HMY
          have HB1112 := hid hb12
          clear hb12 hg12
          go_wp2_with fail
          rw [← HW12.out, ← HG.out]
          refine HMY.out.mono ?_
          rintro e w13 ⟨rfl, hb13⟩
          have HB13 := hid (HB12.out.trans (hb13.mono HB12.out.size))
          have HB113 := hid (HB1112.out.trans (hb13.mono HB1112.out.size))
          clear hb13 y0 y1 yl HMY
          have HOF := hid (ref13_Of (HMW.out.1.below HB13.out) (HMW.out.2.1))
          go_wp2_with fail
          refine HOF.out.mono ?_
          rintro e w14 ⟨v14, rfl, hW14, hb14⟩
          obtain ⟨-, na, nc, rfl, -, -⟩ := hW14.open
          obtain ⟨nn, HNN⟩ : ∃ n, Hid (n = (mOf ws).length) := ⟨_, rfl⟩
          rw [← HNN.out] at hW14 ⊢
          have hb1114 := HB113.out.trans (hb14.mono HB113.out.size)
          have HB14 := hid (HB11.out.trans (hb1114.mono HB11.out.size))
          have HW14 := hid hW14
          have HKM14 := hid (HKM11.out.below hb1114)
          have HLM14 := hid (HLM11.out.below hb1114)
          have HM14 := hid (HM11.out.below hb1114)
          have hA14 := HA11.out.below hb1114
          have hB14 := HBB11.out.below hb1114
          have hY14 := HY11.out.below hb1114
          have HV0 : Hid (Below w14.heap.size w14 w14 ∧ w14.cell? ⟨A, 0, none⟩ = some (.slice i1 i2 i3) ∧ w14.cell? ⟨A, 1, none⟩ = some (.slice j1 j2 j3) ∧ w14.cell? ⟨B, 0, none⟩ = some (.slice l1 l2 l3) ∧ w14.cell? ⟨B, 1, none⟩ = some (.slice m1 m2 m3) ∧ w14.cell? ⟨Y, 0, none⟩ = some (.slice p1 q1 o1) ∧ w14.cell? ⟨Y, 1, none⟩ = some (.slice p2 q2 o2)) := ⟨Below.refl _ _, hA14.cell 0 _ rfl, hA14.cell 1 _ rfl, hB14.cell 0 _ rfl, hB14.cell 1 _ rfl, hY14.cell 0 _ rfl, hY14.cell 1 _ rfl⟩
          clear hW14 hb14 hb1114 hA14 hB14 hY14 HOF
          go_upto_region 12 with fail
          refine wp_region_guard (fun w' => Below w14.heap.size w14 w' ∧ w'.cell? ⟨A, 0, none⟩ = some (.slice i1 i2 i3) ∧ w'.cell? ⟨A, 1, none⟩ = some (.slice j1 j2 j3) ∧ w'.cell? ⟨B, 0, none⟩ = some (.slice l1 l2 l3) ∧ w'.cell? ⟨B, 1, none⟩ = some (.slice m1 m2 m3) ∧ w'.cell? ⟨Y, 0, none⟩ = some (.slice p1 q1 o1) ∧ w'.cell? ⟨Y, 1, none⟩ = some (.slice p2 q2 o2)) (fun _ => True) 8 [(0, 0, 0), (1, 0, 0), (2, 0, 0), (3, 0, 0), (4, 0, 0), (5, 0, 0), (6, 0, 0), (7, 4, 87), (9, 4, 87), (10, 4, 87), (11, 4, 87), (12, 4, 87), (8, 6, 87), (13, 6, 87), (14, 6, 87), (15, 0, 0), (16, 0, 0), (17, 4, 97), (19, 4, 97), (20, 4, 97), (21, 4, 97), (22, 4, 97), (18, 6, 97), (23, 6, 97), (24, 6, 97), (25, 0, 0), (26, 0, 0)] (by kernel_rfl) rfl rfl (by kernel_rfl) (fun _ _ dst _ _ h => by cases dst <;> exact h) ⟨HV0.out.1.drew, HV0.out.2⟩ trivial (fun OPS _ => ?_)
          simp only [List.map_cons, List.map_nil, List.filterMap_cons, List.filterMap_nil, List.getElem?_cons_succ, List.getElem?_cons_zero]
          refine seqH0 (v := ?v0) ?hy0 ?hr0
          case hy0 => (intro w hw; go_simp; all_goals rfl)
          simp only [Act.put, List.setIfInBounds_toArray, List.set_cons_zero, List.set_cons_succ]
          refine seqH0 (v := ?v1) ?hy1 ?hr1
          case hy1 => (intro w hw; go_simp; all_goals rfl)
          simp only [Act.put, List.setIfInBounds_toArray, List.set_cons_zero, List.set_cons_succ]
          refine seqH0 (v := ?v2) ?hy2 ?hr2
          case hy2 => (intro w hw; go_simp; all_goals rfl)
          simp only [Act.put, List.setIfInBounds_toArray, List.set_cons_zero, List.set_cons_succ]
          refine seqH0 (v := ?v3) ?hy3 ?hr3
          case hy3 => (intro w hw; go_simp; all_goals rfl)
          simp only [Act.put, List.setIfInBounds_toArray, List.set_cons_zero, List.set_cons_succ]
          refine seqH0 (v := ?v4) ?hy4 ?hr4
          case hy4 => (intro w hw; go_simp; all_goals rfl)
          simp only [Act.put, List.setIfInBounds_toArray, List.set_cons_zero, List.set_cons_succ]
          refine seqH0 (v := ?v5) ?hy5 ?hr5
          case hy5 => (intro w hw; go_simp; all_goals rfl)
          simp only [Act.put, List.setIfInBounds_toArray, List.set_cons_zero, List.set_cons_succ]
          refine seqH0 (v := ?v6) ?hy6 ?hr6
          case hy6 => (intro w hw; go_simp; all_goals rfl)
          simp only [Act.put, List.setIfInBounds_toArray, List.set_cons_zero, List.set_cons_succ]
          refine seqH4 (v := ?v7) ?ht7 ?hy7 ?hr7
          case ht7 => rfl
          case hy7 => (intro w hw; go_simp; all_goals rfl)
          simp only [Act.put, List.setIfInBounds_toArray, List.set_cons_zero, List.set_cons_succ]
          refine seqH4 (v := ?v8) ?ht8 ?hy8 ?hr8
          case ht8 => rfl
          case hy8 => (intro w hw; go_simp; all_goals rfl)
          simp only [Act.put, List.setIfInBounds_toArray, List.set_cons_zero, List.set_cons_succ]
          refine seqH4 (v := ?v9) ?ht9 ?hy9 ?hr9
          case ht9 => rfl
          case hy9 => (intro w hw; go_simp; all_goals rfl)
          simp only [Act.put, List.setIfInBounds_toArray, List.set_cons_zero, List.set_cons_succ]
          refine seqH4 (v := ?v10) ?ht10 ?hy10 ?hr10
          case ht10 => rfl
          case hy10 => (intro w hw; go_simp; all_goals rfl)
          simp only [Act.put, List.setIfInBounds_toArray, List.set_cons_zero, List.set_cons_succ]
          refine seqH4 (v := ?v11) ?ht11 ?hy11 ?hr11
          case ht11 => rfl
          case hy11 => (intro w hw; go_simp; all_goals rfl)
          simp only [Act.put, List.setIfInBounds_toArray, List.set_cons_zero, List.set_cons_succ]
          refine seqH6 (by rfl) (fun K12 HK12 => ?_)
          have HVA : Hid (Below w14.heap.size w14 w14.drew ∧ w14.drew.cell? ⟨A, 0, none⟩ = some (.slice i1 i2 i3) ∧ w14.drew.cell? ⟨A, 1, none⟩ = some (.slice j1 j2 j3) ∧ w14.drew.cell? ⟨B, 0, none⟩ = some (.slice l1 l2 l3) ∧ w14.drew.cell? ⟨B, 1, none⟩ = some (.slice m1 m2 m3) ∧ w14.drew.cell? ⟨Y, 0, none⟩ = some (.slice p1 q1 o1) ∧ w14.drew.cell? ⟨Y, 1, none⟩ = some (.slice p2 q2 o2)) := ⟨HV0.out.1.drew, HV0.out.2⟩
          go_wp2_with fail
          refine (law14_Of (HKM14.out.below HVA.out.1) HKW.out.1).mono ?_
          rintro e w15 ⟨v15, rfl, hb15, hM15⟩
          obtain ⟨s1, s2, s3, t1, t2, t3, rfl⟩ := hM15.form
          have HV15 : Hid (Below w14.heap.size w14 w15 ∧ w15.cell? ⟨A, 0, none⟩ = some (.slice i1 i2 i3) ∧ w15.cell? ⟨A, 1, none⟩ = some (.slice j1 j2 j3) ∧ w15.cell? ⟨B, 0, none⟩ = some (.slice l1 l2 l3) ∧ w15.cell? ⟨B, 1, none⟩ = some (.slice m1 m2 m3) ∧ w15.cell? ⟨Y, 0, none⟩ = some (.slice p1 q1 o1) ∧ w15.cell? ⟨Y, 1, none⟩ = some (.slice p2 q2 o2)) := ⟨HVA.out.1.trans (hb15.mono HVA.out.1.size), ⟨below_keeps hb15 _ _ HVA.out.2.1, below_keeps hb15 _ _ HVA.out.2.2.1, below_keeps hb15 _ _ HVA.out.2.2.2.1, below_keeps hb15 _ _ HVA.out.2.2.2.2.1, below_keeps hb15 _ _ HVA.out.2.2.2.2.2.1, below_keeps hb15 _ _ HVA.out.2.2.2.2.2.2⟩⟩
          have HM15 := hid hM15
          clear hb15 hM15 HVA
          go_wp2_with fail
          refine HK12.out _ _ HV15.out ?_
          clear HK12 K12
          intro _
          have HPT := hid (ref15_Part (HS.out.below (HB14.out.trans (HV15.out.1.mono HB14.out.size))) true d r w15 _ _ x (mOf ws) HRT.out.2 (Below.refl _ _) (HM14.out.below HV15.out.1) (HW14.out.below HV15.out.1) (mOf_light HMW.out.2) HRT.out.1 HWT.out)
          rw [← HKY.out] at HPT
          refine seqH6 (by rfl) (fun K12 HK12 => ?_)
          go_wp2_with fail
          refine HPT.out.mono ?_
          rintro e w16 ⟨v16, rfl, hb16, hap16⟩
          have hM16 := hap16.here
          obtain ⟨z1, z2, z3, x1, x2, x3, rfl⟩ := hM16.form
          have HV16 : Hid (Below w14.heap.size w14 w16 ∧ w16.cell? ⟨A, 0, none⟩ = some (.slice i1 i2 i3) ∧ w16.cell? ⟨A, 1, none⟩ = some (.slice j1 j2 j3) ∧ w16.cell? ⟨B, 0, none⟩ = some (.slice l1 l2 l3) ∧ w16.cell? ⟨B, 1, none⟩ = some (.slice m1 m2 m3) ∧ w16.cell? ⟨Y, 0, none⟩ = some (.slice p1 q1 o1) ∧ w16.cell? ⟨Y, 1, none⟩ = some (.slice p2 q2 o2)) := ⟨HV15.out.1.trans (hb16.mono HV15.out.1.size), ⟨below_keeps hb16 _ _ HV15.out.2.1, below_keeps hb16 _ _ HV15.out.2.2.1, below_keeps hb16 _ _ HV15.out.2.2.2.1, below_keeps hb16 _ _ HV15.out.2.2.2.2.1, below_keeps hb16 _ _ HV15.out.2.2.2.2.2.1, below_keeps hb16 _ _ HV15.out.2.2.2.2.2.2⟩⟩
          have HSM := hid (ref14_Same d w16 _ _ _ (HM15.out.below hb16) hM16)
          clear hb16 hap16 hM16 HPT HM15 HV15
          go_wp2_with fail
          refine HK12.out _ _ HV16.out ?_
          clear HK12 K12
          intro _
          refine seqH6 (by rfl) (fun K12 HK12 => ?_)
          go_wp2_with fail
          refine HSM.out.mono ?_
          rintro e w17 ⟨rfl, hb17⟩
          have HV17 : Hid (Below w14.heap.size w14 w17 ∧ w17.cell? ⟨A, 0, none⟩ = some (.slice i1 i2 i3) ∧ w17.cell? ⟨A, 1, none⟩ = some (.slice j1 j2 j3) ∧ w17.cell? ⟨B, 0, none⟩ = some (.slice l1 l2 l3) ∧ w17.cell? ⟨B, 1, none⟩ = some (.slice m1 m2 m3) ∧ w17.cell? ⟨Y, 0, none⟩ = some (.slice p1 q1 o1) ∧ w17.cell? ⟨Y, 1, none⟩ = some (.slice p2 q2 o2)) := ⟨HV16.out.1.trans (hb17.mono HV16.out.1.size), ⟨below_keeps hb17 _ _ HV16.out.2.1, below_keeps hb17 _ _ HV16.out.2.2.1, below_keeps hb17 _ _ HV16.out.2.2.2.1, below_keeps hb17 _ _ HV16.out.2.2.2.2.1, below_keeps hb17 _ _ HV16.out.2.2.2.2.2.1, below_keeps hb17 _ _ HV16.out.2.2.2.2.2.2⟩⟩
          clear hb17 HSM HV16
          go_wp2_with fail
          refine HK12.out _ _ HV17.out ?_
          clear HK12 K12
          intro _
          refine seqH0 (v := ?v30) ?hy30 ?hr30
          case hy30 => (intro w hw; go_simp; all_goals rfl)
          simp only [Act.put, List.setIfInBounds_toArray, List.set_cons_zero, List.set_cons_succ]
          refine seqH0 (v := ?v31) ?hy31 ?hr31
          case hy31 => (intro w hw; go_simp; all_goals rfl)
          simp only [Act.put, List.setIfInBounds_toArray, List.set_cons_zero, List.set_cons_succ]
          refine seqH4 (v := ?v32) ?ht32 ?hy32 ?hr32
          case ht32 => rfl
          case hy32 => (intro w hw; go_simp; all_goals rfl)
          simp only [Act.put, List.setIfInBounds_toArray, List.set_cons_zero, List.set_cons_succ]
          refine seqH4 (v := ?v33) ?ht33 ?hy33 ?hr33
          case ht33 => rfl
          case hy33 => (intro w hw; go_simp; all_goals rfl)
          simp only [Act.put, List.setIfInBounds_toArray, List.set_cons_zero, List.set_cons_succ]
          refine seqH4 (v := ?v34) ?ht34 ?hy34 ?hr34
          case ht34 => rfl
          case hy34 => (intro w hw; go_simp; all_goals rfl)
          simp only [Act.put, List.setIfInBounds_toArray, List.set_cons_zero, List.set_cons_succ]
          refine seqH4 (v := ?v35) ?ht35 ?hy35 ?hr35
          case ht35 => rfl
          case hy35 => (intro w hw; go_simp; all_goals rfl)
          simp only [Act.put, List.setIfInBounds_toArray, List.set_cons_zero, List.set_cons_succ]
          refine seqH4 (v := ?v36) ?ht36 ?hy36 ?hr36
          case ht36 => rfl
          case hy36 => (intro w hw; go_simp; all_goals rfl)
          simp only [Act.put, List.setIfInBounds_toArray, List.set_cons_zero, List.set_cons_succ]
          refine seqH6 (by rfl) (fun K12 HK12 => ?_)
          go_wp2_with fail
          refine (law14_Of (HLM14.out.below HV17.out.1) HKW.out.2).mono ?_
          rintro e w18 ⟨v18, rfl, hb18, hM18⟩
          obtain ⟨s4, s5, s6, t4, t5, t6, rfl⟩ := hM18.form
          have HV18 : Hid (Below w14.heap.size w14 w18 ∧ w18.cell? ⟨A, 0, none⟩ = some (.slice i1 i2 i3) ∧ w18.cell? ⟨A, 1, none⟩ = some (.slice j1 j2 j3) ∧ w18.cell? ⟨B, 0, none⟩ = some (.slice l1 l2 l3) ∧ w18.cell? ⟨B, 1, none⟩ = some (.slice m1 m2 m3) ∧ w18.cell? ⟨Y, 0, none⟩ = some (.slice p1 q1 o1) ∧ w18.cell? ⟨Y, 1, none⟩ = some (.slice p2 q2 o2)) := ⟨HV17.out.1.trans (hb18.mono HV17.out.1.size), ⟨below_keeps hb18 _ _ HV17.out.2.1, below_keeps hb18 _ _ HV17.out.2.2.1, below_keeps hb18 _ _ HV17.out.2.2.2.1, below_keeps hb18 _ _ HV17.out.2.2.2.2.1, below_keeps hb18 _ _ HV17.out.2.2.2.2.2.1, below_keeps hb18 _ _ HV17.out.2.2.2.2.2.2⟩⟩
          have HM18 := hid hM18
          clear hb18 hM18 HV17
          go_wp2_with fail
          refine HK12.out _ _ HV18.out ?_
          clear HK12 K12
          intro _
          have HPT := hid (ref15_Part (HS.out.below (HB14.out.trans (HV18.out.1.mono HB14.out.size))) false d r w18 _ _ x (mOf ws) HRT.out.2 (Below.refl _ _) (HM14.out.below HV18.out.1) (HW14.out.below HV18.out.1) (mOf_light HMW.out.2) HRT.out.1 HWT.out)
          rw [← HLY.out] at HPT
          refine seqH6 (by rfl) (fun K12 HK12 => ?_)
          go_wp2_with fail
          refine HPT.out.mono ?_
          rintro e w19 ⟨v19, rfl, hb19, hap19⟩
          have hM19 := hap19.here
          obtain ⟨z4, z5, z6, x4, x5, x6, rfl⟩ := hM19.form
          have HV19 : Hid (Below w14.heap.size w14 w19 ∧ w19.cell? ⟨A, 0, none⟩ = some (.slice i1 i2 i3) ∧ w19.cell? ⟨A, 1, none⟩ = some (.slice j1 j2 j3) ∧ w19.cell? ⟨B, 0, none⟩ = some (.slice l1 l2 l3) ∧ w19.cell? ⟨B, 1, none⟩ = some (.slice m1 m2 m3) ∧ w19.cell? ⟨Y, 0, none⟩ = some (.slice p1 q1 o1) ∧ w19.cell? ⟨Y, 1, none⟩ = some (.slice p2 q2 o2)) := ⟨HV18.out.1.trans (hb19.mono HV18.out.1.size), ⟨below_keeps hb19 _ _ HV18.out.2.1, below_keeps hb19 _ _ HV18.out.2.2.1, below_keeps hb19 _ _ HV18.out.2.2.2.1, below_keeps hb19 _ _ HV18.out.2.2.2.2.1, below_keeps hb19 _ _ HV18.out.2.2.2.2.2.1, below_keeps hb19 _ _ HV18.out.2.2.2.2.2.2⟩⟩
          have HSM := hid (ref14_Same d w19 _ _ _ (HM18.out.below hb19) hM19)
          clear hb19 hap19 hM19 HPT HM18 HV18
          go_wp2_with fail
          refine HK12.out _ _ HV19.out ?_
          clear HK12 K12
          intro _
          refine seqH6 (by rfl) (fun K12 HK12 => ?_)
          go_wp2_with fail
          refine HSM.out.mono ?_
          rintro e w20 ⟨rfl, hb20⟩
          have HV20 : Hid (Below w14.heap.size w14 w20 ∧ w20.cell? ⟨A, 0, none⟩ = some (.slice i1 i2 i3) ∧ w20.cell? ⟨A, 1, none⟩ = some (.slice j1 j2 j3) ∧ w20.cell? ⟨B, 0, none⟩ = some (.slice l1 l2 l3) ∧ w20.cell? ⟨B, 1, none⟩ = some (.slice m1 m2 m3) ∧ w20.cell? ⟨Y, 0, none⟩ = some (.slice p1 q1 o1) ∧ w20.cell? ⟨Y, 1, none⟩ = some (.slice p2 q2 o2)) := ⟨HV19.out.1.trans (hb20.mono HV19.out.1.size), ⟨below_keeps hb20 _ _ HV19.out.2.1, below_keeps hb20 _ _ HV19.out.2.2.1, below_keeps hb20 _ _ HV19.out.2.2.2.1, below_keeps hb20 _ _ HV19.out.2.2.2.2.1, below_keeps hb20 _ _ HV19.out.2.2.2.2.2.1, below_keeps hb20 _ _ HV19.out.2.2.2.2.2.2⟩⟩
          clear hb20 HSM HV19
          go_wp2_with fail
          refine HK12.out _ _ HV20.out ?_
          clear HK12 K12
          intro _
          refine seqH0 (v := ?v40) ?hy40 ?hr40
          case hy40 => (intro w hw; go_simp; all_goals rfl)
          simp only [Act.put, List.setIfInBounds_toArray, List.set_cons_zero, List.set_cons_succ]
          refine seqH0 (v := ?v41) ?hy41 ?hr41
          case hy41 => (intro w hw; go_simp; all_goals rfl)
          simp only [Act.put, List.setIfInBounds_toArray, List.set_cons_zero, List.set_cons_succ]
          refine seqH_end ?_
          have HE := hid (HB14.out.trans (HV20.out.1.mono HB14.out.size))
          go_wp2_with fail
          go_ret
          exact ⟨by simp; decide +kernel, HE.out⟩
        · have HKP := hid (alg_Keep (HS.out.below HB7.out) root (HXM.out.below HB7.out) (HMW.out.1.below HB7.out) HMW.out.2 HWT.out)
          rw [may_code, ← HC.out] at HKP
          go_upto_region 6 with fail
          rw [← HW7.out, ← HY.out]
          unfold maskV at HKP
          go_wp2_with fail
          refine HKP.out.mono ?_
          rintro e w8 ⟨hb8, hne8, -⟩
          obtain rfl := hne8 h0
          obtain ⟨A, HA⟩ : ∃ A, Hid (A = w8.heap.size) := ⟨_, rfl⟩
          obtain ⟨W9, HW9⟩ : ∃ W, Hid (W = w8.alloc (.cells #[.slice none 0 0, .slice none 0 0] 27)) := ⟨_, rfl⟩
          have hb9 : Below w8.heap.size w8 W9 := by rw [HW9.out]; exact (Below.refl _ _).alloc (Nat.le_refl _) _
          have HA9 : Hid (Blk W9 A [.slice none 0 0, .slice none 0 0] 27) := by rw [HW9.out, HA.out]; exact Blk.new w8 [.slice none 0 0, .slice none 0 0] _
          have hb79 := hb8.trans (hb9.mono hb8.size)
          have HB9 := hid (HB7.out.trans (hb79.mono HB7.out.size))
          have HK9 := hid (HK7.out.below hb79)
          have HY9 := hid (HY7.out.below hb79)
          have HM9 := hid (HM7.out.below hb79)
          have HLV := hid (alg_Leave (HS.out.below HB9.out) root (HXM.out.below HB9.out) (HMW.out.1.below HB9.out) HMW.out.2 HWT.out)
          rw [may_code, ← HC.out] at HLV
          unfold maskV at HLV
          clear hb8 hb9 hb79 hne8 k0 k1 kl HKP
          have k0 := HK9.out.cell 0 _ rfl
          have k1 := HK9.out.cell 1 _ rfl
          have kl := HK9.out.lt
          go_upto_region 7 with fail
          rw [← HW9.out, ← HA.out]
          go_wp2_with fail
          refine HLV.out.mono ?_
          rintro e w10 ⟨hb10, hne10, -⟩
          obtain rfl := hne10 h0
          obtain ⟨B, HB⟩ : ∃ B, Hid (B = w10.heap.size) := ⟨_, rfl⟩
          obtain ⟨W11, HW11⟩ : ∃ W, Hid (W = w10.alloc (.cells #[.slice none 0 0, .slice none 0 0] 27)) := ⟨_, rfl⟩
          have hb11 : Below w10.heap.size w10 W11 := by rw [HW11.out]; exact (Below.refl _ _).alloc (Nat.le_refl _) _
          have HBB11 : Hid (Blk W11 B [.slice none 0 0, .slice none 0 0] 27) := by rw [HW11.out, HB.out]; exact Blk.new w10 [.slice none 0 0, .slice none 0 0] _
          have hb911 := hb10.trans (hb11.mono hb10.size)
          have HB11 := hid (HB9.out.trans (hb911.mono HB9.out.size))
          have HA11 := hid (HA9.out.below hb911)
          have HY11 := hid (HY9.out.below hb911)
          have HM11 := hid (HM9.out.below hb911)
          clear hb10 hb11 hb911 hne10 k0 k1 kl HLV
          go_upto_region 8 with fail
          rw [← HW11.out, ← HB.out]
          have y0 := HY11.out.cell 0 _ rfl
          have y1 := HY11.out.cell 1 _ rfl
          have yl := HY11.out.lt
          obtain ⟨W12, HW12⟩ : ∃ W, Hid (W = W11.alloc (.cells #[.slice p1 q1 o1, .slice p2 q2 o2] 35)) := ⟨_, rfl⟩
          obtain ⟨G, HG⟩ : ∃ G, Hid (G = W11.heap.size) := ⟨_, rfl⟩
          have hb12 : Below W11.heap.size W11 W12 := by rw [HW12.out]; exact (Below.refl _ _).alloc (Nat.le_refl _) _
          have hg12 : Blk W12 G [.slice p1 q1 o1, .slice p2 q2 o2] 35 := by rw [HW12.out, HG.out]; exact Blk.new W11 [.slice p1 q1 o1, .slice p2 q2 o2] _
          have HB12 := hid (HB11.out.trans (hb12.mono HB11.out.size))
          have HMY := hid (ref15_May (HS.out.below HB12.out) root (HM11.out.below hb12) HWT.out (hg12.cell 0 _ rfl) (hg12.cell 1 _ rfl))
          rw [← HC.out] at HMY
          have HA12 := hid (HA11.out.below hb12)
          have HBB12 := hid (HBB11.out.below hb12)
          clear hb12 hg12
          go_wp2_with fail
          rw [← HW12.out, ← HG.out]
          refine HMY.out.mono ?_
          rintro e w13 ⟨rfl, hb13⟩
          have HB13 := hid (HB12.out.trans (hb13.mono HB12.out.size))
          have HA13 := hid (HA12.out.below hb13)
          have HBB13 := hid (HBB12.out.below hb13)
          have hne : ((code : Int) != 0) = true := by simpa using h0
          clear hb13 y0 y1 yl HMY
          have a0 := HA13.out.cell 0 _ rfl
          have a1 := HA13.out.cell 1 _ rfl
          have al := HA13.out.lt
          go_wp2_with fail
          refine (law14_Of (zero_msg w13) (by decide +kernel)).mono ?_
          rintro e w14 ⟨v14, rfl, hb14, hM14⟩
          obtain ⟨f1, g1, h1, f2, g2, h2, rfl⟩ := hM14.form
          have HB14 := hid (HB13.out.trans (hb14.mono HB13.out.size))
          have HBB14 := hid (HBB13.out.below hb14)
          have HSM := hid (ref14_Same 1 w14 _ _ _ hM14 (zero_msg w14))
          clear hb14 hM14 a0 a1 al
          go_wp2_with fail
          refine HSM.out.mono ?_
          rintro e w15 ⟨rfl, hb15⟩
          have HB15 := hid (HB14.out.trans (hb15.mono HB14.out.size))
          have HBB15 := hid (HBB14.out.below hb15)
          clear hb15 HSM
          have a0 := HBB15.out.cell 0 _ rfl
          have a1 := HBB15.out.cell 1 _ rfl
          have al := HBB15.out.lt
          go_wp2_with fail
          refine (law14_Of (zero_msg w15) (by decide +kernel)).mono ?_
          rintro e w16 ⟨v16, rfl, hb16, hM16⟩
          obtain ⟨f3, g3, h3, f4, g4, h4, rfl⟩ := hM16.form
          have HB16 := hid (HB15.out.trans (hb16.mono HB15.out.size))
          have HSM := hid (ref14_Same 1 w16 _ _ _ hM16 (zero_msg w16))
          clear hb16 hM16 a0 a1 al
          go_wp2_with fail
          refine HSM.out.mono ?_
          rintro e w17 ⟨rfl, hb17⟩
          have HB17 := hid (HB16.out.trans (hb17.mono HB16.out.size))
          clear hb17 HSM
          go_wp2_with fail
          go_ret
          exact ⟨by simp, HB17.out⟩
end Go.Proofs.YtaefpjecalnbcaaGreat
