/- darninglaw16.CanonMeans returns true, of a contract of tree.of. Meanings of weight at most 2 to the 40. A []string of the call's own (StrsOwn): one more string appended. At most 2^40 strings. What a field's value is like in memory while its records are gone through (OfInv), and what it is at the end. No condition. -/
import Derived.Test.YtbhiddafbpingaaGreatZ09
import Derived.Test.YtbhiddafbpingaaGreatZ14
import Derived.Test.YtbhiddafbpingaaGreatZ17
import Derived.Test.YtbhiddafbpingaaGreatZ22
import Derived.Test.YtbhiddafbpingaaGreatZ24
import Derived.Test.YtbhiddafbpingaaGreatZ32
import Derived.Test.YtbhiddafbpingaaGreatZ33
import Derived.Test.YtbhiddafbpingaaGreatZ34
namespace Go.Proofs.YtbhiddafbpingaaGreat
open Go.RowKit
theorem TOfOk.laterM {w0 w1 : World} {sv : Value} {s : List Mes} {d : Nat} (h : TOfOk w0 sv s d) (hb : Below w0.heap.size w0 w1) : TOfOk w1 sv s d :=
  fun m w v l hm hw => h m w v l hm (hb.trans (hw.mono hb.size))
theorem keep6 {W k : World} (hk : ∀ p u, W.cell? p = some u → k.cell? p = some u) {p1 p2 p3 p4 p5 p6 : Addr} {v1 v2 v3 v4 v5 v6 : Value} (h : (W.cell? p1 = some v1 ∧ W.cell? p2 = some v2 ∧ W.cell? p3 = some v3 ∧ W.cell? p4 = some v4) ∧ W.cell? p5 = some v5 ∧ W.cell? p6 = some v6) :
    (k.cell? p1 = some v1 ∧ k.cell? p2 = some v2 ∧ k.cell? p3 = some v3 ∧ k.cell? p4 = some v4) ∧ k.cell? p5 = some v5 ∧ k.cell? p6 = some v6 :=
  ⟨⟨hk _ _ h.1.1, hk _ _ h.1.2.1, hk _ _ h.1.2.2.1, hk _ _ h.1.2.2.2⟩, hk _ _ h.2.1, hk _ _ h.2.2⟩
set_option maxRecDepth 100000 in
set_option maxHeartbeats 8000000 in
theorem law16_CanonMeans {w : World} {vs vx vy : Value} {s : List Mes} {dx dy : Nat} {x : M (dx + 1)} {y : M (dy + 1)} (hof : sright s = true → ∀ d', TOfOk w vs s d') (hS : SchemaAt w vs s) (root : Int) (hX : MsgAt (dx + 1) w vx x) (hY : MsgAt (dy + 1) w vy y) (hwx : mwt (dx + 1) x ≤ 1099511627776) (hwy : mwt (dy + 1) y ≤ 1099511627776) :
    Calls Tryz.prog 5 #[vs, .int .i64 root, vx, vy] w fun e w' => e = .returned (.bool true) ∧ Below w.heap.size w w' := by
  obtain ⟨a1, n1, c1, a2, n2, c2, rfl⟩ := hX.form
  obtain ⟨a3, n3, c3, a4, n4, c4, rfl⟩ := hY.form
  obtain ⟨-, sa, sc, rfl, -⟩ := hS.open
  obtain ⟨sn, HSN⟩ : ∃ n, Hid (n = s.length) := ⟨_, rfl⟩
  rw [← HSN.out] at hS hof ⊢
  have HS := hid hS
  have HX := hid hX
  have HY := hid hY
  have HOF := hid hof
  have HW := hid (And.intro hwx hwy)
  obtain ⟨z1, HZ1⟩ : ∃ z, Hid (z = szM 71 (dx + 1) x) := ⟨_, rfl⟩
  obtain ⟨z2, HZ2⟩ : ∃ z, Hid (z = szM 71 (dy + 1) y) := ⟨_, rfl⟩
  have hz1 : z1 ≤ 5000 + 1099511627776 := by rw [HZ1.out]; exact Nat.le_trans (szM_le 71 _ x) (by omega)
  have hz2 : z2 ≤ 5000 + 1099511627776 := by rw [HZ2.out]; exact Nat.le_trans (szM_le 71 _ y) (by omega)
  clear hS hX hY hof hwx hwy
  obtain ⟨dp, HDP⟩ : ∃ n, Hid (n = depthM (dx + 1) x) := ⟨_, rfl⟩
  have hdp : dp ≤ 1099511627776 := by rw [HDP.out]; exact Nat.le_trans (depth_le _ x) HW.out.1
  obtain ⟨Q, HQ⟩ : ∃ Q : Ending → World → Prop, Hid (Q = fun e w' => e = .returned (.bool true) ∧ Below w.heap.size w w') := ⟨_, rfl⟩
  rw [← HQ.out]
  have HTRUE : Hid (∀ w', Below w.heap.size w w' → Q (.returned (.bool true)) w') := fun w' hb => by rw [HQ.out]; exact ⟨rfl, hb⟩
  clear HQ
  go_enter Tryz.func5, Tryz.ntmps5
  go_wp2_with fail
  obtain ⟨W2, HW2⟩ : ∃ W2, Hid (W2 = (w.alloc (.cells #[.slice a1 n1 c1, .slice a2 n2 c2] 58)).alloc (.cells #[.slice a3 n3 c3, .slice a4 n4 c4] 58)) := ⟨_, rfl⟩
  have hb0 : Below w.heap.size w W2 := by rw [HW2.out]; (repeat (first | with_reducible exact Below.refl _ _ | with_reducible refine Below.setCell ?_ (by first | omega | (simp; omega) | (simp; done)) _ | with_reducible refine Below.alloc ?_ (by first | omega | (simp; omega) | (simp; done)) _ | with_reducible refine below_drewN ?_ _ | with_reducible refine Below.drew ?_))
  have hx0 : Blk W2 w.heap.size [.slice a1 n1 c1, .slice a2 n2 c2] 58 := by rw [HW2.out]; exact (Blk.new w [.slice a1 n1 c1, .slice a2 n2 c2] _).alloc _
  have hy0 : Blk W2 (w.heap.size + 1) [.slice a3 n3 c3, .slice a4 n4 c4] 58 := by rw [HW2.out]; exact Blk.new' _ [.slice a3 n3 c3, .slice a4 n4 c4] _ _ (by simp)
  rw [← HW2.out]
  obtain ⟨bx, HBX⟩ : ∃ b, Hid (b = w.heap.size) := ⟨_, rfl⟩
  rw [← HBX.out] at hx0 hy0 ⊢
  obtain ⟨by_, HBY⟩ : ∃ b, Hid (b = bx + 1) := ⟨_, rfl⟩
  rw [← HBY.out] at hy0 ⊢
  have HB2 := hid hb0
  have HK2 := hid (And.intro hx0 hy0)
  clear hb0 hx0 hy0 HW2
  refine (law16_alive _).mono ?_
  rintro e w1 ⟨rfl, hb⟩
  have HB3 := hid (HB2.out.trans (hb.mono HB2.out.size))
  have HK3 := hid (And.intro (HK2.out.1.below hb) (HK2.out.2.below hb))
  clear hb HB2 HK2
  go_wp2_with fail
  refine (law07_Few (HS.out.keep (below_keeps HB3.out))).mono ?_
  rintro e w2 ⟨⟨fw, rfl⟩, hb⟩
  have HB4 := hid (HB3.out.trans (hb.mono HB3.out.size))
  have HK4 := hid (And.intro (HK3.out.1.below hb) (HK3.out.2.below hb))
  clear hb HB3 HK3
  cases fw with
  | false =>
    go_wp2_with fail
    exact HTRUE.out _ HB4.out
  | true =>
    have l1 := HK4.out.1.lt
    have k0 := HK4.out.1.cell 0 _ rfl
    have k1 := HK4.out.1.cell 1 _ rfl
    have hsz := law14_Size 71 (dx + 1) (by omega) w2 _ x (HX.out.keep (below_keeps HB4.out)) HW.out.1
    rw [← HZ1.out] at hsz
    have HSZ := hid hsz
    clear hsz
    go_wp2_with fail
    refine HSZ.out.mono ?_
    rintro e w3 ⟨rfl, hb⟩
    have HB5 := hid (HB4.out.trans (hb.mono HB4.out.size))
    have HK5 := hid (And.intro (HK4.out.1.below hb) (HK4.out.2.below hb))
    clear hb HB4 HK4 HSZ l1 k0 k1
    by_cases hbig : 2000 < z1
    · go_wp2_with fail
      exact HTRUE.out _ HB5.out
    · have l1 := HK5.out.2.lt
      have k0 := HK5.out.2.cell 0 _ rfl
      have k1 := HK5.out.2.cell 1 _ rfl
      have hsz := law14_Size 71 (dy + 1) (by omega) w3 _ y (HY.out.keep (below_keeps HB5.out)) HW.out.2
      rw [← HZ2.out] at hsz
      have HSZ := hid hsz
      clear hsz
      go_wp2_with fail
      refine HSZ.out.mono ?_
      rintro e w4 ⟨rfl, hb⟩
      have HB6 := hid (HB5.out.trans (hb.mono HB5.out.size))
      have HK6 := hid (And.intro (HK5.out.1.below hb) (HK5.out.2.below hb))
      clear hb HB5 HK5 HSZ l1 k0 k1
      by_cases hbig2 : 2000 < z2
      · go_wp2_with fail
        exact HTRUE.out _ HB6.out
      · have l1 := HK6.out.1.lt
        have k0 := HK6.out.1.cell 0 _ rfl
        have k1 := HK6.out.1.cell 1 _ rfl
        have hsz := tree_Depth (dx + 1) w4 _ x (HX.out.keep (below_keeps HB6.out)) HW.out.1
        rw [← HDP.out] at hsz
        have HSZ := hid hsz
        clear hsz
        go_wp2_with fail
        refine HSZ.out.mono ?_
        rintro e w5 ⟨rfl, hb⟩
        have HB7 := hid (HB6.out.trans (hb.mono HB6.out.size))
        have HK7 := hid (And.intro (HK6.out.1.below hb) (HK6.out.2.below hb))
        clear hb HB6 HK6 HSZ l1 k0 k1
        by_cases hbig3 : 64 < dp
        · go_wp2_with fail
          exact HTRUE.out _ HB7.out
        · have hwx : mwt (dx + 1) x ≤ 2000 := by
            have h1 := szM_exact 71 (dx + 1) x (by rw [← HZ1.out]; omega)
            have h2 := HZ1.out
            omega
          have hwy : mwt (dy + 1) y ≤ 2000 := by
            have h1 := szM_exact 71 (dy + 1) y (by rw [← HZ2.out]; omega)
            have h2 := HZ2.out
            omega
          have HWX := hid hwx
          have HWY := hid hwy
          clear hwx hwy HW
          have l1 := HK7.out.1.lt
          have k0 := HK7.out.1.cell 0 _ rfl
          have k1 := HK7.out.1.cell 1 _ rfl
          obtain ⟨mc, HMC⟩ : ∃ c, Hid (c = mayCode s root (dx + 1) x) := ⟨_, rfl⟩
          have hmc : mc ≤ 255 := by
            have := may_cases s root (dx + 1) x
            rw [HMC.out]; omega
          obtain ⟨md, HMD⟩ : ∃ c, Hid (c = mayCode s root (dy + 1) y) := ⟨_, rfl⟩
          have hmd : md ≤ 255 := by
            have := may_cases s root (dy + 1) y
            rw [HMD.out]; omega
          have HCE := hid (canon_Encode (HS.out.keep (below_keeps HB7.out)) root (HX.out.keep (below_keeps HB7.out)) (by have := HWX.out; omega))
          rw [← HMC.out] at HCE
          obtain ⟨E1, HE1⟩ : ∃ l, Hid (l = encOut s root (dx + 1) x) := ⟨_, rfl⟩
          rw [← HE1.out] at HCE
          obtain ⟨E2, HE2⟩ : ∃ l, Hid (l = encOut s root (dy + 1) y) := ⟨_, rfl⟩
          go_wp2_with fail
          refine HCE.out.mono ?_
          rintro e w6 ⟨v6, rfl, hO, hb⟩
          obtain ⟨oa, oc, eo⟩ := hO.form
          obtain ⟨on, HON⟩ : ∃ n, Hid (n = E1.length) := ⟨_, rfl⟩
          rw [← HON.out] at eo
          subst eo
          have HB8 := hid (HB7.out.trans (hb.mono HB7.out.size))
          have HK8 := hid (And.intro (HK7.out.1.below hb) (HK7.out.2.below hb))
          have HO8 := hid hO
          clear hb hO HB7 HK7 HCE l1 k0 k1
          have l1 := HK8.out.2.lt
          have k0 := HK8.out.2.cell 0 _ rfl
          have k1 := HK8.out.2.cell 1 _ rfl
          have HCE := hid (canon_Encode (HS.out.keep (below_keeps HB8.out)) root (HY.out.keep (below_keeps HB8.out)) (by have := HWY.out; omega))
          rw [← HMD.out, ← HE2.out] at HCE
          go_wp2_with fail
          refine HCE.out.mono ?_
          rintro e w7 ⟨v7, rfl, hO, hb⟩
          obtain ⟨pa, pc, eo⟩ := hO.form
          obtain ⟨pn, HPN⟩ : ∃ n, Hid (n = E2.length) := ⟨_, rfl⟩
          rw [← HPN.out] at eo
          subst eo
          have HB9 := hid (HB8.out.trans (hb.mono HB8.out.size))
          have HK9 := hid (And.intro (HK8.out.1.below hb) (HK8.out.2.below hb))
          have HO9 := hid (HO8.out.below_of hb)
          have HP9 := hid hO
          clear hb hO HB8 HK8 HCE HO8 l1 k0 k1
          by_cases hm1 : mc = 0
          · by_cases hm2 : md = 0
            · subst hm1
              subst hm2
              have hr1 : sright s = true ∧ rightB s (dx + 1) root x = true := by
                have := HMC.out
                rcases may_cases s root (dx + 1) x with h | h | h | h
                · exact h.2
                all_goals omega
              have hr2 : rightB s (dy + 1) root y = true := by
                have := HMD.out
                rcases may_cases s root (dy + 1) y with h | h | h | h
                · exact h.2.2
                all_goals omega
              have hroot := rightB_root hr1.2
              obtain ⟨r, rfl⟩ : ∃ r : Nat, root = r := ⟨root.toNat, by omega⟩
              have hrs : r < s.length := by omega
              have HEE1 : Hid (E1 = encM s (dx + 1) (r : Int) x) := by rw [Hid, HE1.out, encOut, if_pos HMC.out.symm]
              have HEE2 : Hid (E2 = encM s (dy + 1) (r : Int) y) := by rw [Hid, HE2.out, encOut, if_pos HMD.out.symm]
              have hl1 : E1.length ≤ 60000 := by
                have h1 := enc_len hr1.1 (dx + 1) (r : Int) _ _ HX.out (by have := HWX.out; omega)
                rw [← HEE1.out] at h1
                have := HWX.out
                omega
              have hl2 : E2.length ≤ 60000 := by
                have h1 := enc_len hr1.1 (dy + 1) (r : Int) _ _ HY.out (by have := HWY.out; omega)
                rw [← HEE2.out] at h1
                have := HWY.out
                omega
              have hdp64 : dp ≤ 64 := by omega
              have hck : (vcheck s (r : Int) E1 (dp : Int)).2 = 0 := by
                rw [HEE1.out]
                exact check_enc hr1.1 HX.out (by have := HWX.out; omega) hrs hr1.2 (by rw [HDP.out]; exact Nat.le_refl _) hdp64
              have hcan : canonB s (r : Int) E1 = true := by
                rw [HEE1.out]
                exact canon_of_enc hr1.1 HX.out (by have := HWX.out; omega) hrs hr1.2 (by rw [← HDP.out]; exact hdp64)
              have hsame : sameB (dp + 1) (dx + 1) (tof s dp r E1) x = true := by
                rw [HEE1.out]
                exact tof_enc hr1.1 dx dp r _ x HX.out (by have := HWX.out; omega) hrs hr1.2 (by rw [HDP.out]; exact Nat.le_refl _)
              obtain ⟨q, HQQ⟩ : ∃ q, Hid (q = sameB (dx + 1) (dy + 1) x y) := ⟨_, rfl⟩
              have hiff : decide (E1 = E2) = q := by
                rw [HEE1.out, HEE2.out, HQQ.out]
                exact enc_iff hr1.1 HX.out HY.out (by have := HWX.out; omega) (by have := HWY.out; omega) hrs hr1.2 hr2
              have HCK := hid hck
              have HCAN := hid hcan
              have HSAME := hid hsame
              have HIFF := hid hiff
              have HSR := hid hr1.1
              have HL := hid (And.intro hl1 hl2)
              have HBY1 := hid (HO9.out.bytes (by omega))
              have HBY2 := hid (HP9.out.bytes (by omega))
              have l1 := HK9.out.1.lt
              have k0 := HK9.out.1.cell 0 _ rfl
              have k1 := HK9.out.1.cell 1 _ rfl
              have hsz := tree_Depth (dx + 1) w7 _ x (HX.out.keep (below_keeps HB9.out)) (by have := HWX.out; omega)
              rw [← HDP.out] at hsz
              have HSZ := hid hsz
              clear hsz hck hcan hsame hiff hr1 hr2 hroot hrs hl1 hl2 HMC HMD HEE1 HEE2 HE1 HE2 HO9 HP9 HBX HBY
              go_wp2_with fail
              refine HSZ.out.mono ?_
              rintro e w8 ⟨rfl, hb⟩
              have HBA := hid (HB9.out.trans (hb.mono HB9.out.size))
              have HKA := hid (And.intro (HK9.out.1.below hb) (HK9.out.2.below hb))
              have HBA1 := hid (HBY1.out.below hb)
              have HBA2 := hid (HBY2.out.below hb)
              clear hb HB9 HK9 HSZ l1 k0 k1 HBY1 HBY2
              have HTO := hid (tree_Of (fun hs d' => (HOF.out hs d').laterM HBA.out) (HS.out.below HBA.out) HBA1.out (by have := HL.out; omega) (r : Int) (dp : Int))
              unfold TreePost at HTO
              rw [HCK.out] at HTO
              go_wp2_with fail
              refine HTO.out.mono ?_
              rintro e w9 ⟨v', rfl, hb, ⟨a5, n5, c5, a6, n6, c6, rfl⟩, hap⟩
              have hMz : MsgAt (dp + 1) w9 (.agg #[.slice a5 n5 c5, .slice a6 n6 c6]) (tof s dp r E1) := by
                have := (hap trivial).here
                simpa using this
              have HBB := hid (HBA.out.trans (hb.mono HBA.out.size))
              have HKB := hid (And.intro (HKA.out.1.below hb) (HKA.out.2.below hb))
              have HBB1 := hid (HBA1.out.below hb)
              have HBB2 := hid (HBA2.out.below hb)
              clear hap
              have HMZ := hid hMz
              clear hb HBA HKA HTO HBA1 HBA2 hMz
              go_wp2_with fail
              obtain ⟨W9, HW9⟩ : ∃ W9, Hid (W9 = w9.alloc (.cells #[.slice a5 n5 c5, .slice a6 n6 c6] 58)) := ⟨_, rfl⟩
              have hb9 : Below w9.heap.size w9 W9 := by rw [HW9.out]; (repeat (first | with_reducible exact Below.refl _ _ | with_reducible refine Below.setCell ?_ (by first | omega | (simp; omega) | (simp; done)) _ | with_reducible refine Below.alloc ?_ (by first | omega | (simp; omega) | (simp; done)) _ | with_reducible refine below_drewN ?_ _ | with_reducible refine Below.drew ?_))
              have hz9 : Blk W9 w9.heap.size [.slice a5 n5 c5, .slice a6 n6 c6] 58 := by rw [HW9.out]; exact Blk.new w9 [.slice a5 n5 c5, .slice a6 n6 c6] _
              rw [← HW9.out]
              obtain ⟨bz, HBZ⟩ : ∃ b, Hid (b = w9.heap.size) := ⟨_, rfl⟩
              rw [← HBZ.out] at hz9 ⊢
              have HBC : Hid (Below w.heap.size w W9.drew) := (HBB.out.trans (hb9.mono HBB.out.size)).drew
              have HMC : Hid (MsgAt (dp + 1) W9.drew (.agg #[.slice a5 n5 c5, .slice a6 n6 c6]) (tof s dp r E1)) := ((HMZ.out.below hb9).keep fun _ _ h => h)
              have HC1 : Hid (Bytes W9.drew (.slice oa on oc) E1) := (HBB1.out.below hb9).keep fun _ _ h => h
              have HC2 : Hid (Bytes W9.drew (.slice pa pn pc) E2) := (HBB2.out.below hb9).keep fun _ _ h => h
              have hx9 := HKB.out.1.below hb9
              have hy9 := HKB.out.2.below hb9
              have q0 : (W9.drew.cell? ⟨bx, 0, none⟩ = some (.slice a1 n1 c1) ∧ W9.drew.cell? ⟨bx, 1, none⟩ = some (.slice a2 n2 c2) ∧ W9.drew.cell? ⟨by_, 0, none⟩ = some (.slice a3 n3 c3) ∧ W9.drew.cell? ⟨by_, 1, none⟩ = some (.slice a4 n4 c4)) ∧ W9.drew.cell? ⟨bz, 0, none⟩ = some (.slice a5 n5 c5) ∧ W9.drew.cell? ⟨bz, 1, none⟩ = some (.slice a6 n6 c6) :=
                ⟨⟨hx9.cell 0 _ rfl, hx9.cell 1 _ rfl, hy9.cell 0 _ rfl, hy9.cell 1 _ rfl⟩, hz9.cell 0 _ rfl, hz9.cell 1 _ rfl⟩
              have hqq : (q == q) = true := by cases q <;> rfl
              have HS1 := hid (tree_Same (dp + 1) (dx + 1) _ _ _ _ _ HMC.out (HX.out.keep (below_keeps HBC.out)))
              rw [HSAME.out] at HS1
              have HC0 : Hid (∀ W, Below w.heap.size w W → Bytes W (.slice oa on oc) E1 → Calls Tryz.prog 23 #[.slice sa sn sc, .int .i64 (r : Int), .slice oa on oc] W fun e w' => e = .returned (.bool true) ∧ Below W.heap.size W w') := fun W hb hE => by
                have h := canon_Is (fun hs d' => (HOF.out hs d').laterM hb) (HS.out.below hb) hE (by have := HL.out; omega) (r : Int)
                rw [HCAN.out] at h
                exact h
              clear hb9 hz9 hx9 hy9 HW9 HBZ HMZ HKB HBB HBB1 HBB2 HMC HCAN HCK HSR HSAME HWX HWY HOF
              go_region_held3 (fun w' => (w'.cell? ⟨bx, 0, none⟩ = some (.slice a1 n1 c1) ∧ w'.cell? ⟨bx, 1, none⟩ = some (.slice a2 n2 c2) ∧ w'.cell? ⟨by_, 0, none⟩ = some (.slice a3 n3 c3) ∧ w'.cell? ⟨by_, 1, none⟩ = some (.slice a4 n4 c4)) ∧ w'.cell? ⟨bz, 0, none⟩ = some (.slice a5 n5 c5) ∧ w'.cell? ⟨bz, 1, none⟩ = some (.slice a6 n6 c6)) (first | (with_reducible exact q0) | (with_reducible exact q1) | (with_reducible exact q2) | (with_reducible exact q4) | go_keep) (first
                | (go_at_call 28; (with_reducible refine HS1.out.mono ?_); rintro e k1 ⟨rfl, hk⟩; have HK1 := hid (HBC.out.trans (hk.mono HBC.out.size)); have q1 := keep6 (below_keeps hk) q0; have HD1 := hid (HC1.out.below hk); have HD2 := hid (HC2.out.below hk); have HCI := hid (HC0.out _ HK1.out HD1.out); clear hk)
                | (go_at_call 23; (with_reducible refine HCI.out.mono ?_); rintro e k2 ⟨rfl, hk⟩; have HK2 := hid (HK1.out.trans (hk.mono HK1.out.size)); have q2 := keep6 (below_keeps hk) q1; have HS3 := hid (ref01_Same (HD1.out.below hk) (HD2.out.below hk)); rw [HIFF.out] at HS3; have HS4 := hid (tree_Same (dx + 1) (dy + 1) _ _ _ _ _ (HX.out.keep (below_keeps HK2.out)) (HY.out.keep (below_keeps HK2.out))); rw [← HQQ.out] at HS4; clear hk)
                | (go_at_call 21; (with_reducible refine HS3.out.mono ?_); rintro e k3 ⟨rfl, rfl⟩)
                | (go_at_call 28; (with_reducible refine HS4.out.mono ?_); rintro e k4 ⟨rfl, hk⟩; have HK4 := hid (HK2.out.trans (hk.mono HK2.out.size)); have q4 := keep6 (below_keeps hk) q2; clear hk))
              go_wp2_with fail
              exact HTRUE.out _ HK4.out
            · have e1 : decide ((md : Int) = 0) = false := decide_eq_false (by omega)
              subst hm1
              go_wp2_with fail
              exact HTRUE.out _ HB9.out
          · go_wp2_with fail
            exact HTRUE.out _ HB9.out
theorem law16_CanonMeans' {w : World} {vs vx vy : Value} {s : List Mes} : {dx dy : Nat} → {x : M dx} → {y : M dy} → (sright s = true → ∀ d', TOfOk w vs s d') → SchemaAt w vs s → (root : Int) → MsgAt dx w vx x → MsgAt dy w vy y → mwt dx x ≤ 1099511627776 → mwt dy y ≤ 1099511627776 →
    Calls Tryz.prog 5 #[vs, .int .i64 root, vx, vy] w fun e w' => e = .returned (.bool true) ∧ Below w.heap.size w w'
  | 0, _, _, _, _, _, _, h, _, _, _ => h.elim
  | _ + 1, 0, _, _, _, _, _, _, h, _, _ => h.elim
  | _ + 1, _ + 1, _, _, hof, hS, root, hX, hY, h1, h2 => law16_CanonMeans hof hS root hX hY h1 h2
end Go.Proofs.YtbhiddafbpingaaGreat
namespace Go.Proofs.YtbhiddafbpingaaGreat
open Go.RowKit
/-- A []string of the call's own. -/
def StrsOwn (w : World) (base : Nat) (v : Value) (l : List (List UInt8)) : Prop := w.ownsRow base 9 1 v l.length (l.map strV)
theorem info_string : (Tryz.prog.info? 9).map (fun i => (i.zero, i.size, i.bytes)) = some (some (.string ⟨#[]⟩), 1, 16) := by kernel_rfl
theorem under_strl : Tryz.prog.underlying 39 = some (.slice 9) := Tryz.underlying39
theorem StrsOwn.form {w : World} {base : Nat} {v : Value} {l : List (List UInt8)} (h : StrsOwn w base v l) : ∃ a c, v = .slice a l.length c := by
  rcases h.2 with ⟨h1, h2⟩ | ⟨g, cap, cur, hv, -⟩
  · exact ⟨none, 0, by rw [h1, h2]⟩
  · exact ⟨_, _, hv⟩
theorem StrsOwn.strs {w : World} {base : Nat} {v : Value} {l : List (List UInt8)} (h : StrsOwn w base v l) (hn : l.length ≤ 140737488355328) (hl : ∀ t ∈ l, t.length ≤ 140737488355328) : StrsAt w v l :=
  ⟨row_seg h hn, hl⟩
/-- one more string, laid in a block of its own ahead of the append -/
theorem StrsOwn.one {W : World} {base : Nat} {v : Value} {l : List (List UInt8)} (h : StrsOwn W base v l) (t : List UInt8) (hn : l.length + 1 ≤ 1099511627777) (hB : base ≤ W.heap.size) :
    ∃ v' w', (Builtin.append_ #[39, 39] 39 #[v, .slice (some ⟨W.heap.size, 0, none⟩) 1 1]).run Tryz.prog (W.alloc (.cells #[strV t] 9)) = .ok v' w' ∧ StrsOwn w' base v' (l ++ [t]) ∧ W.grownBy w' v.ownBlock := by
  have hA : Below W.heap.size W (W.alloc (.cells #[strV t] 9)) := (Below.refl _ _).alloc (Nat.le_refl _) _
  have hx : Seg (W.alloc (.cells #[strV t] 9)) (.slice (some ⟨W.heap.size, 0, none⟩) 1 1) 1 1 [strV t] := seg_blk (Blk.new W [strV t] _) 1 1 rfl (by omega)
  have h' : (W.alloc (.cells #[strV t] 9)).ownsRow base 9 1 v l.length (l.map strV) := row_keep h fun b _ _ he => hA.block b (Array.getElem?_eq_some_iff.1 he).1
  obtain ⟨v', w', h1, h2, h3, -⟩ := seg_append (P := Tryz.prog) _ base 39 39 9 (.string ⟨#[]⟩) 1 16 under_strl info_string rfl (by decide) v _ l.length 1 _ _ h' hx (by intro u hu; simp at hu; subst hu; rfl) (by omega) (by omega) (by simp; omega)
  refine ⟨v', w', h1, ?_, ?_⟩
  · unfold StrsOwn
    rw [List.length_append, List.map_append]
    exact h2
  · exact ⟨h3.os, h3.tape, h3.output, Nat.le_trans (by simp) h3.size, fun k hk hr => (h3.block k (by simp; omega) hr).trans (Below.heap_alloc W _ k hk)⟩
end Go.Proofs.YtbhiddafbpingaaGreat
namespace Go.Proofs.YtbhiddafbpingaaGreat
open Go.RowKit Go.Shelf
abbrev noneS : Value := .slice none 0 0
/-- the words s1, the texts s2, the messages s3, the joined bytes j of the records xs of a field f, in memory from block B on -/
def OfInv (s : List Mes) (d : Nat) (f : Fld) (l : List UInt8) (xs : List VW) (B : Nat) (w : World) (j s1 s2 s3 : Value) : Prop :=
  (knumber f.kind = true → s2 = noneS ∧ s3 = noneS ∧ j = noneS ∧ WordsOwn w B s1 ((counts f xs).flatMap (pieceW f l))) ∧
  (f.kind = 17 → s1 = noneS ∧ s2 = noneS ∧
    (f.rep = true → j = noneS ∧ RowsOwn (SubP d) 41 2 0 B w s3 (xs.flatMap fun x => tsub s d f.of (vbytes l x))) ∧
    (f.rep = false → s3 = noneS ∧ Own w B j (xs.flatMap (vbytes l)))) ∧
  (knumber f.kind = false → f.kind ≠ 17 → s1 = noneS ∧ s3 = noneS ∧ j = noneS ∧ StrsOwn w B s2 ((counts f xs).flatMap (pieceB f l)))
theorem own_form {w : World} {base : Nat} {v : Value} {l : List UInt8} (h : Own w base v l) : ∃ a c, v = .slice a l.length c := by
  rcases h.2 with ⟨h1, h2⟩ | ⟨g, cap, cur, hv, -⟩
  · exact ⟨none, 0, by rw [h1, h2]⟩
  · exact ⟨_, _, hv⟩
theorem OfInv.form {s : List Mes} {d : Nat} {f : Fld} {l : List UInt8} {xs : List VW} {B : Nat} {w : World} {j s1 s2 s3 : Value} (h : OfInv s d f l xs B w j s1 s2 s3) :
    ∃ a0 n0 c0 a1 n1 c1 a2 n2 c2 a3 n3 c3, j = .slice a0 n0 c0 ∧ s1 = .slice a1 n1 c1 ∧ s2 = .slice a2 n2 c2 ∧ s3 = .slice a3 n3 c3 := by
  obtain ⟨h1, h2, h3⟩ := h
  by_cases hk : knumber f.kind = true
  · obtain ⟨rfl, rfl, rfl, h4⟩ := h1 hk
    obtain ⟨a, c, rfl⟩ := h4.form
    exact ⟨_, _, _, _, _, _, _, _, _, _, _, _, rfl, rfl, rfl, rfl⟩
  · by_cases h17 : f.kind = 17
    · obtain ⟨rfl, rfl, h4, h5⟩ := h2 h17
      by_cases hr : f.rep = true
      · obtain ⟨rfl, h6⟩ := h4 hr
        obtain ⟨a, c, rfl⟩ := h6.form
        exact ⟨_, _, _, _, _, _, _, _, _, _, _, _, rfl, rfl, rfl, rfl⟩
      · obtain ⟨rfl, h6⟩ := h5 (by simpa using hr)
        obtain ⟨a, c, rfl⟩ := own_form h6
        exact ⟨_, _, _, _, _, _, _, _, _, _, _, _, rfl, rfl, rfl, rfl⟩
    · obtain ⟨rfl, rfl, rfl, h4⟩ := h3 (by simpa using hk) h17
      obtain ⟨a, c, rfl⟩ := h4.form
      exact ⟨_, _, _, _, _, _, _, _, _, _, _, _, rfl, rfl, rfl, rfl⟩
theorem OfInv.start (s : List Mes) (d : Nat) (f : Fld) (l : List UInt8) (B : Nat) (w : World) : OfInv s d f l [] B w noneS noneS noneS noneS := by
  have hc : counts f ([] : List VW) = [] := by unfold counts; split <;> rfl
  refine ⟨fun _ => ⟨rfl, rfl, rfl, ?_⟩, fun _ => ⟨rfl, rfl, fun _ => ⟨rfl, RowsOwn.nil _ _ _ _ _ _⟩, fun _ => ⟨rfl, own_nil _ _⟩⟩, fun _ _ => ⟨rfl, rfl, rfl, ?_⟩⟩
  · rw [hc]; exact World.ownsRow_nil _ _ _ _
  · rw [hc]; exact World.ownsRow_nil _ _ _ _
/-- what lies below B may change -/
theorem OfInv.keep {s : List Mes} {d : Nat} {f : Fld} {l : List UInt8} {xs : List VW} {B : Nat} {w w' : World} {j s1 s2 s3 : Value} (h : OfInv s d f l xs B w j s1 s2 s3)
    (hk : ∀ b, B ≤ b → b < w.heap.size → w'.heap[b]? = w.heap[b]?) (hs : w.heap.size ≤ w'.heap.size) : OfInv s d f l xs B w' j s1 s2 s3 := by
  have hr : ∀ {e : TypeId} {size n : Nat} {v : Value} {ys : List Value}, w.ownsRow B e size v n ys → w'.ownsRow B e size v n ys := fun h => row_keep h fun b _ hb he => hk b hb (Array.getElem?_eq_some_iff.1 he).1
  refine ⟨fun h1 => ?_, fun h1 => ?_, fun h1 h2 => ?_⟩
  · obtain ⟨g1, g2, g3, g4⟩ := h.1 h1
    exact ⟨g1, g2, g3, hr g4⟩
  · obtain ⟨g1, g2, g3, g4⟩ := h.2.1 h1
    exact ⟨g1, g2, fun hr => ⟨(g3 hr).1, (g3 hr).2.later (fun b hlt hc => hk b (by omega) hlt) hs⟩, fun hr' => ⟨(g4 hr').1, hr (g4 hr').2⟩⟩
  · obtain ⟨g1, g2, g3, g4⟩ := h.2.2 h1 h2
    exact ⟨g1, g2, g3, hr g4⟩
theorem counts_flat {α β : Type} (f : Fld) (xs : List α) (x : α) (g : α → List β) : (counts f (xs ++ [x])).flatMap g = (if f.rep = true then (counts f xs).flatMap g else []) ++ g x := by
  rw [counts_snoc, List.flatMap_append]
  by_cases h : f.rep = true
  · rw [if_pos h, if_pos h]; unfold counts; rw [if_pos h]; simp
  · rw [if_neg h, if_neg h]; simp
/-- one more record: of a number -/
theorem OfInv.num {s : List Mes} {d : Nat} {f : Fld} {l : List UInt8} {xs : List VW} {B : Nat} {w : World} {v : Value} {x : VW} (hk : knumber f.kind = true) (ws : List Nat) (hw : (if f.rep = true then (counts f xs).flatMap (pieceW f l) else []) ++ pieceW f l x = ws) (h : WordsOwn w B v ws) :
    OfInv s d f l (xs ++ [x]) B w noneS v noneS noneS := by
  refine ⟨fun _ => ⟨rfl, rfl, rfl, ?_⟩, fun h1 => ?_, fun h1 => ?_⟩
  · rw [counts_flat, hw]; exact h
  · rw [h1] at hk; exact absurd hk (by decide)
  · rw [h1] at hk; cases hk
theorem OfInv.text {s : List Mes} {d : Nat} {f : Fld} {l : List UInt8} {xs : List VW} {B : Nat} {w : World} {v : Value} {x : VW} (hk : knumber f.kind = false) (h17 : f.kind ≠ 17) (hx : x.run = false) (h : StrsOwn w B v ((if f.rep = true then (counts f xs).flatMap (pieceB f l) else []) ++ [vbytes l x])) :
    OfInv s d f l (xs ++ [x]) B w noneS noneS v noneS := by
  refine ⟨fun h1 => ?_, fun h1 => absurd h1 h17, fun _ _ => ⟨rfl, rfl, rfl, ?_⟩⟩
  · rw [h1] at hk; cases hk
  · rw [counts_flat]
    unfold pieceB at h ⊢
    rw [if_neg (show ¬ (x.run = true ∨ knumber f.kind = true) by rw [hx, hk]; simp)]
    exact h
theorem OfInv.sub {s : List Mes} {d : Nat} {f : Fld} {l : List UInt8} {xs : List VW} {B : Nat} {w : World} {v : Value} {x : VW} (h17 : f.kind = 17) (hr : f.rep = true)
    (h : RowsOwn (SubP d) 41 2 0 B w v ((xs.flatMap fun x => tsub s d f.of (vbytes l x)) ++ tsub s d f.of (vbytes l x))) : OfInv s d f l (xs ++ [x]) B w noneS noneS noneS v := by
  refine ⟨fun h1 => ?_, fun _ => ⟨rfl, rfl, fun _ => ⟨rfl, ?_⟩, fun h2 => ?_⟩, fun _ h1 => absurd h17 h1⟩
  · rw [h17] at h1; cases h1
  · rw [List.flatMap_append]; simpa using h
  · rw [hr] at h2; cases h2
theorem kread_lt (k : Int) (l : List UInt8) : (kread k l).1 < 2 ^ 64 := by
  unfold kread
  split
  · refine kcanon_lt k ?_
    split
    · rcases vread_cases l with ⟨x, n, e, -, -, -, hx⟩ | ⟨c, e, -⟩
      · rw [e]; exact hx
      · rw [e]; show 0 < _; decide
    · exact wordOf_lt l
  · show 0 < _; decide
theorem pieceW_lt {f : Fld} {l : List UInt8} {x : VW} {y : Nat} (h : y ∈ pieceW f l x) : y < 2 ^ 64 := by
  unfold pieceW at h
  split at h
  · unfold runWords at h
    split at h
    · unfold kwords at h
      obtain ⟨z, -, rfl⟩ := List.mem_map.1 h
      exact kread_lt _ _
    · simp at h
  · split at h
    · simp at h; subst h; exact kread_lt _ _
    · simp at h
/-- the bounds on all pieces -/
theorem words_bound {f : Fld} {l : List UInt8} {xs : List VW} (ht : ∀ x ∈ xs, Thin x) : ((counts f xs).flatMap (pieceW f l)).length ≤ vsum xs := by
  have hc := counts_sum f xs
  have := flat_sum (pieceW f l) List.length rfl (fun a b => List.length_append) (counts f xs) fun x hx => piece_words (ht x (counts_sub f xs hx))
  omega
theorem texts_bound {f : Fld} {l : List UInt8} {xs : List VW} (ht : ∀ x ∈ xs, Thin x) : ((counts f xs).flatMap (pieceB f l)).length ≤ vsum xs := by
  have hc := counts_sum f xs
  have := flat_sum (pieceB f l) List.length rfl (fun a b => List.length_append) (counts f xs) fun x hx => by
    have h1 := ht x (counts_sub f xs hx)
    unfold Thin at h1
    have := @pieceB_len f l x
    omega
  omega
theorem tsub_len (s : List Mes) (d : Nat) (o : Int) (b : List UInt8) : (tsub s d o b).length ≤ 1 := by cases d <;> simp [tsub]
theorem subs_bound {s : List Mes} {d : Nat} {o : Int} {l : List UInt8} {xs : List VW} (ht : ∀ x ∈ xs, Thin x) : (xs.flatMap fun x => tsub s d o (vbytes l x)).length ≤ vsum xs :=
  flat_sum (fun x => tsub s d o (vbytes l x)) List.length rfl (fun a b => List.length_append) xs fun x hx => by
    have h1 := ht x hx
    unfold Thin at h1
    have := tsub_len s d o (vbytes l x)
    omega
theorem all_thin (fs : List Fld) (l : List UInt8) : ∀ x ∈ (vall fs l).1, Thin x := (vall_sum fs l l.length 0 (Nat.zero_le _)).2
theorem all_vsum (fs : List Fld) (l : List UInt8) : vsum (vall fs l).1 ≤ l.length := by have := (vall_sum fs l l.length 0 (Nat.zero_le _)).1; unfold vall; omega
theorem vsum_filter (p : VW → Bool) : ∀ (xs : List VW), vsum (xs.filter p) ≤ vsum xs
  | [] => by simp [vsum]
  | x :: r => by
    have := vsum_filter p r
    rw [List.filter_cons]
    unfold vsum at *
    split
    · rw [List.map_cons, List.sum_cons, List.map_cons, List.sum_cons]; omega
    · rw [List.map_cons, List.sum_cons]; omega
/-- of the first k views those of a field -/
theorem part_views (fs : List Fld) (l : List UInt8) (k : Nat) (q : Int) : (∀ x ∈ viewsOf ((vall fs l).1.take k) q, Thin x) ∧ vsum (viewsOf ((vall fs l).1.take k) q) ≤ l.length := by
  refine ⟨fun x hx => all_thin fs l x (List.mem_of_mem_take (viewsOf_mem hx).1), ?_⟩
  have h1 := vsum_filter (fun x => decide (x.k = q)) ((vall fs l).1.take k)
  have h2 := all_vsum fs l
  have h3 : vsum ((vall fs l).1.take k) ≤ vsum (vall fs l).1 := by
    conv => rhs; rw [← List.take_append_drop k (vall fs l).1, vsum_app]
    omega
  unfold viewsOf
  omega
/-- the value of a field, when all its records are gone through, where it is not one message -/
theorem OfInv.done {s : List Mes} {d : Nat} {f : Fld} {l : List UInt8} {xs : List VW} {B : Nat} {w : World} {j s1 s2 s3 : Value} (h : OfInv s d f l xs B w j s1 s2 s3)
    (hrun : ∀ x ∈ xs, x.run = true → knumber f.kind = true) (ht : ∀ x ∈ xs, Thin x) (hv : vsum xs ≤ 1099511627776) (hl : l.length ≤ 1099511627776) (hn : -9223372036854775808 ≤ f.number ∧ f.number ≤ 9223372036854775807)
    (hc : f.kind = 17 → f.rep = false → xs = []) : Apart 0 B w fun w2 => ValP' d w2 [.int .i64 f.number, s1, s2, s3] (fieldV (tsub s d) f l xs) := by
  intro w2 hw2
  have hr : ∀ {e : TypeId} {size n : Nat} {v : Value} {ys : List Value}, w.ownsRow B e size v n ys → w2.ownsRow B e size v n ys := fun h => row_keep h fun b _ hb he => hw2 b (Array.getElem?_eq_some_iff.1 he).1 (.inr hb)
  have hnil1 : WordsAt w2 noneS [] := ⟨row_seg (World.ownsRow_nil w2 0 27 1) (Nat.zero_le _), by simp⟩
  have hnil2 : StrsAt w2 noneS [] := ⟨row_seg (World.ownsRow_nil w2 0 9 1) (Nat.zero_le _), by simp⟩
  have hnil3 : SubsAt (MsgAt d) w2 noneS [] := (RowsOwn.nil (SubP d) 41 2 0 0 w2).at (by simp) fun _ _ _ => rfl
  have hw1 := words_bound (f := f) (l := l) ht
  have hw3 := texts_bound (f := f) (l := l) ht
  have hW : knumber f.kind = false → (counts f xs).flatMap (pieceW f l) = [] := by
    intro hk
    refine flat_nil _ _ fun x hx => ?_
    unfold pieceW
    have : ¬ x.run = true := fun h => by have := hrun x (counts_sub f xs hx) h; rw [hk] at this; cases this
    rw [if_neg this, if_neg (by rw [hk]; decide)]
  by_cases hk : knumber f.kind = true
  · have h17 : f.kind ≠ 17 := by intro e; rw [e] at hk; exact absurd hk (by decide)
    obtain ⟨rfl, rfl, rfl, h4⟩ := h.1 hk
    refine ⟨s1, noneS, noneS, rfl, hn, ?_, ?_, ?_⟩
    · exact ⟨row_seg (hr h4) (Nat.le_trans hw1 (by omega)), fun y hy => by
        obtain ⟨x, -, hx⟩ := List.mem_flatMap.1 (show y ∈ (counts f xs).flatMap (pieceW f l) from hy)
        exact pieceW_lt hx⟩
    · have : (fieldV (tsub s d) f l xs).texts = [] := by
        unfold fieldV
        simp only
        rw [if_neg h17]
        refine flat_nil _ _ fun x _ => ?_
        unfold pieceB
        rw [if_pos (.inr hk)]
      rw [this]; exact hnil2
    · have : (fieldV (tsub s d) f l xs).subs = [] := by unfold fieldV; simp only; rw [if_neg h17]
      rw [this]; exact hnil3
  · have hk' : knumber f.kind = false := by simpa using hk
    have hww : (fieldV (tsub s d) f l xs).words = [] := hW hk'
    by_cases h17 : f.kind = 17
    · obtain ⟨rfl, rfl, h4, h5⟩ := h.2.1 h17
      have htt : (fieldV (tsub s d) f l xs).texts = [] := by unfold fieldV; simp only; rw [if_pos h17]
      refine ⟨noneS, noneS, s3, rfl, hn, by rw [hww]; exact hnil1, by rw [htt]; exact hnil2, ?_⟩
      by_cases hrp : f.rep = true
      · have h6 := (h4 hrp).2
        have hss : (fieldV (tsub s d) f l xs).subs = xs.flatMap fun x => tsub s d f.of (vbytes l x) := by unfold fieldV; simp only; rw [if_pos h17, if_pos hrp]
        rw [hss]
        have hb := subs_bound (s := s) (d := d) (o := f.of) (l := l) ht
        exact h6.at (by omega) hw2
      · have hx := hc h17 (by simpa using hrp)
        obtain ⟨rfl, -⟩ := h5 (by simpa using hrp)
        have hss : (fieldV (tsub s d) f l xs).subs = [] := by unfold fieldV; simp only; rw [if_pos h17, if_neg hrp, if_pos hx]
        rw [hss]; exact hnil3
    · obtain ⟨rfl, rfl, rfl, h4⟩ := h.2.2 hk' h17
      refine ⟨noneS, s2, noneS, rfl, hn, by rw [hww]; exact hnil1, ?_, ?_⟩
      · have htt : (fieldV (tsub s d) f l xs).texts = (counts f xs).flatMap (pieceB f l) := by unfold fieldV; simp only; rw [if_neg h17]
        rw [htt]
        refine ⟨row_seg (hr h4) (by omega), fun t htm => ?_⟩
        obtain ⟨x, -, hx⟩ := List.mem_flatMap.1 htm
        unfold pieceB at hx
        split at hx
        · simp at hx
        · simp at hx
          subst hx
          have := vbytes_len l x
          have : (vbytes l x).length ≤ l.length := by unfold vbytes part; rw [List.length_take, List.length_drop]; omega
          omega
      · have : (fieldV (tsub s d) f l xs).subs = [] := by unfold fieldV; simp only; rw [if_neg h17]
        rw [this]; exact hnil3
end Go.Proofs.YtbhiddafbpingaaGreat
