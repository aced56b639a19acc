/- darninglaw16.CanonJoins returns true. Meanings of at most 2^40 things. -/
import Derived.Test.YtbdeclkccchnoaaGreatZ23
import Derived.Test.YtbdeclkccchnoaaGreatZ25
import Derived.Test.YtbdeclkccchnoaaGreatZ26
import Derived.Test.YtbdeclkccchnoaaGreatZ34
import Derived.Test.YtbdeclkccchnoaaGreatZ35
namespace Go.Proofs.YtbdeclkccchnoaaGreat
open Go.RowKit
set_option maxRecDepth 100000 in
set_option maxHeartbeats 8000000 in
theorem law16_CanonJoins {w : World} {vs vx vy : Value} {s : List Mes} {dx : Nat} {x y : M (dx + 1)} (hof : sright s = true → ∀ d', TOfOk w vs s d') (hS : SchemaAt w vs s) (root : Int) (hX : MsgAt (dx + 1) w vx x) (hY : MsgAt (dx + 1) w vy y) (hwx : mwt (dx + 1) x ≤ 1099511627776) (hwy : mwt (dx + 1) y ≤ 1099511627776) :
    Calls Tryz.prog 3 #[vs, .int .i64 root, vx, vy] w fun e w' => e = .returned (.bool true) ∧ Below w.heap.size w w' := by
  obtain ⟨a1, n1, c1, a2, n2, c2, rfl⟩ := hX.form
  obtain ⟨a3, n3, c3, a4, n4, c4, rfl⟩ := hY.form
  obtain ⟨-, sa, sc, rfl, -⟩ := hS.open
  obtain ⟨sn, HSN⟩ : ∃ n, Hid (n = s.length) := ⟨_, rfl⟩
  rw [← HSN.out] at hS hof ⊢
  have HS := hid hS
  have HX := hid hX
  have HY := hid hY
  have HOF := hid hof
  have HW := hid (And.intro hwx hwy)
  obtain ⟨z1, HZ1⟩ : ∃ z, Hid (z = szM 71 (dx + 1) x) := ⟨_, rfl⟩
  obtain ⟨z2, HZ2⟩ : ∃ z, Hid (z = szM 71 (dx + 1) y) := ⟨_, rfl⟩
  have hz1 : z1 ≤ 5000 + 1099511627776 := by rw [HZ1.out]; exact Nat.le_trans (szM_le 71 _ x) (by omega)
  have hz2 : z2 ≤ 5000 + 1099511627776 := by rw [HZ2.out]; exact Nat.le_trans (szM_le 71 _ y) (by omega)
  clear hS hX hY hof hwx hwy
  obtain ⟨dp, HDP⟩ : ∃ n, Hid (n = depthM (dx + 1) x) := ⟨_, rfl⟩
  have hdp : dp ≤ 1099511627776 := by rw [HDP.out]; exact Nat.le_trans (depth_le _ x) HW.out.1
  obtain ⟨dq, HDQ⟩ : ∃ n, Hid (n = depthM (dx + 1) y) := ⟨_, rfl⟩
  have hdq : dq ≤ 1099511627776 := by rw [HDQ.out]; exact Nat.le_trans (depth_le _ y) HW.out.2
  obtain ⟨Q, HQ⟩ : ∃ Q : Ending → World → Prop, Hid (Q = fun e w' => e = .returned (.bool true) ∧ Below w.heap.size w w') := ⟨_, rfl⟩
  rw [← HQ.out]
  have HTRUE : Hid (∀ w', Below w.heap.size w w' → Q (.returned (.bool true)) w') := fun w' hb => by rw [HQ.out]; exact ⟨rfl, hb⟩
  clear HQ
  go_enter Tryz.func3, Tryz.ntmps3
  go_wp2_with fail
  obtain ⟨W2, HW2⟩ : ∃ W2, Hid (W2 = (w.alloc (.cells #[.slice a1 n1 c1, .slice a2 n2 c2] 27)).alloc (.cells #[.slice a3 n3 c3, .slice a4 n4 c4] 27)) := ⟨_, rfl⟩
  have hb0 : Below w.heap.size w W2 := by rw [HW2.out]; (repeat (first | with_reducible exact Below.refl _ _ | with_reducible refine Below.setCell ?_ (by first | omega | (simp; omega) | (simp; done)) _ | with_reducible refine Below.alloc ?_ (by first | omega | (simp; omega) | (simp; done)) _ | with_reducible refine below_drewN ?_ _ | with_reducible refine Below.drew ?_))
  have hx0 : Blk W2 w.heap.size [.slice a1 n1 c1, .slice a2 n2 c2] 27 := by rw [HW2.out]; exact (Blk.new w [.slice a1 n1 c1, .slice a2 n2 c2] _).alloc _
  have hy0 : Blk W2 (w.heap.size + 1) [.slice a3 n3 c3, .slice a4 n4 c4] 27 := by rw [HW2.out]; exact Blk.new' _ [.slice a3 n3 c3, .slice a4 n4 c4] _ _ (by simp)
  rw [← HW2.out]
  obtain ⟨bx, HBX⟩ : ∃ b, Hid (b = w.heap.size) := ⟨_, rfl⟩
  rw [← HBX.out] at hx0 hy0 ⊢
  obtain ⟨by_, HBY⟩ : ∃ b, Hid (b = bx + 1) := ⟨_, rfl⟩
  rw [← HBY.out] at hy0 ⊢
  have HB2 := hid hb0
  have HK2 := hid (And.intro hx0 hy0)
  clear hb0 hx0 hy0 HW2
  refine (law16_alive _).mono ?_
  rintro e w1 ⟨rfl, hb⟩
  have HB3 := hid (HB2.out.trans (hb.mono HB2.out.size))
  have HK3 := hid (And.intro (HK2.out.1.below hb) (HK2.out.2.below hb))
  clear hb HB2 HK2
  go_wp2_with fail
  refine (law07_Few (HS.out.keep (below_keeps HB3.out))).mono ?_
  rintro e w2 ⟨⟨fw, rfl⟩, hb⟩
  have HB4 := hid (HB3.out.trans (hb.mono HB3.out.size))
  have HK4 := hid (And.intro (HK3.out.1.below hb) (HK3.out.2.below hb))
  clear hb HB3 HK3
  cases fw with
  | false =>
    go_wp2_with fail
    exact HTRUE.out _ HB4.out
  | true =>
    have l1 := HK4.out.1.lt
    have k0 := HK4.out.1.cell 0 _ rfl
    have k1 := HK4.out.1.cell 1 _ rfl
    have hsz := law14_Size 71 (dx + 1) (by omega) w2 _ x (HX.out.keep (below_keeps HB4.out)) HW.out.1
    rw [← HZ1.out] at hsz
    have HSZ := hid hsz
    clear hsz
    go_wp2_with fail
    refine HSZ.out.mono ?_
    rintro e w3 ⟨rfl, hb⟩
    have HB5 := hid (HB4.out.trans (hb.mono HB4.out.size))
    have HK5 := hid (And.intro (HK4.out.1.below hb) (HK4.out.2.below hb))
    clear hb HB4 HK4 HSZ l1 k0 k1
    by_cases hbig : 1500 < z1
    · go_wp2_with fail
      exact HTRUE.out _ HB5.out
    · have l1 := HK5.out.2.lt
      have k0 := HK5.out.2.cell 0 _ rfl
      have k1 := HK5.out.2.cell 1 _ rfl
      have hsz := law14_Size 71 (dx + 1) (by omega) w3 _ y (HY.out.keep (below_keeps HB5.out)) HW.out.2
      rw [← HZ2.out] at hsz
      have HSZ := hid hsz
      clear hsz
      go_wp2_with fail
      refine HSZ.out.mono ?_
      rintro e w4 ⟨rfl, hb⟩
      have HB6 := hid (HB5.out.trans (hb.mono HB5.out.size))
      have HK6 := hid (And.intro (HK5.out.1.below hb) (HK5.out.2.below hb))
      clear hb HB5 HK5 HSZ l1 k0 k1
      by_cases hbig2 : 1500 < z2
      · go_wp2_with fail
        exact HTRUE.out _ HB6.out
      · have l1 := HK6.out.1.lt
        have k0 := HK6.out.1.cell 0 _ rfl
        have k1 := HK6.out.1.cell 1 _ rfl
        have hsz := tree_Depth (dx + 1) w4 _ x (HX.out.keep (below_keeps HB6.out)) HW.out.1
        rw [← HDP.out] at hsz
        have HSZ := hid hsz
        clear hsz
        go_wp2_with fail
        refine HSZ.out.mono ?_
        rintro e w5 ⟨rfl, hb⟩
        have HB7 := hid (HB6.out.trans (hb.mono HB6.out.size))
        have HK7 := hid (And.intro (HK6.out.1.below hb) (HK6.out.2.below hb))
        clear hb HB6 HK6 HSZ l1 k0 k1
        by_cases hbig3 : 64 < dp
        · go_wp2_with fail
          exact HTRUE.out _ HB7.out
        · have l1 := HK7.out.2.lt
          have k0 := HK7.out.2.cell 0 _ rfl
          have k1 := HK7.out.2.cell 1 _ rfl
          have hsz := tree_Depth (dx + 1) w5 _ y (HY.out.keep (below_keeps HB7.out)) HW.out.2
          rw [← HDQ.out] at hsz
          have HSZ := hid hsz
          clear hsz
          go_wp2_with fail
          refine HSZ.out.mono ?_
          rintro e w55 ⟨rfl, hb⟩
          have HB7 := hid (HB7.out.trans (hb.mono HB7.out.size))
          have HK7 := hid (And.intro (HK7.out.1.below hb) (HK7.out.2.below hb))
          clear hb HSZ l1 k0 k1
          by_cases hbig4 : 64 < dq
          · go_wp2_with fail
            exact HTRUE.out _ HB7.out
          have hwx : mwt (dx + 1) x ≤ 2000 := by
            have h1 := szM_exact 71 (dx + 1) x (by rw [← HZ1.out]; omega)
            have h2 := HZ1.out
            omega
          have hwy : mwt (dx + 1) y ≤ 2000 := by
            have h1 := szM_exact 71 (dx + 1) y (by rw [← HZ2.out]; omega)
            have h2 := HZ2.out
            omega
          have HWX := hid hwx
          have HWY := hid hwy
          clear hwx hwy HW
          have l1 := HK7.out.1.lt
          have k0 := HK7.out.1.cell 0 _ rfl
          have k1 := HK7.out.1.cell 1 _ rfl
          obtain ⟨mc, HMC⟩ : ∃ c, Hid (c = mayCode s root (dx + 1) x) := ⟨_, rfl⟩
          have hmc : mc ≤ 255 := by
            have := may_cases s root (dx + 1) x
            rw [HMC.out]; omega
          obtain ⟨md, HMD⟩ : ∃ c, Hid (c = mayCode s root (dx + 1) y) := ⟨_, rfl⟩
          have hmd : md ≤ 255 := by
            have := may_cases s root (dx + 1) y
            rw [HMD.out]; omega
          have HCE := hid (canon_Encode (HS.out.keep (below_keeps HB7.out)) root (HX.out.keep (below_keeps HB7.out)) (by have := HWX.out; omega))
          rw [← HMC.out] at HCE
          obtain ⟨E1, HE1⟩ : ∃ l, Hid (l = encOut s root (dx + 1) x) := ⟨_, rfl⟩
          rw [← HE1.out] at HCE
          obtain ⟨E2, HE2⟩ : ∃ l, Hid (l = encOut s root (dx + 1) y) := ⟨_, rfl⟩
          go_wp2_with fail
          refine HCE.out.mono ?_
          rintro e w6 ⟨v6, rfl, hO, hb⟩
          obtain ⟨oa, oc, eo⟩ := hO.form
          obtain ⟨on, HON⟩ : ∃ n, Hid (n = E1.length) := ⟨_, rfl⟩
          rw [← HON.out] at eo
          subst eo
          have HB8 := hid (HB7.out.trans (hb.mono HB7.out.size))
          have HK8 := hid (And.intro (HK7.out.1.below hb) (HK7.out.2.below hb))
          have HO8 := hid hO
          clear hb hO HB7 HK7 HCE l1 k0 k1
          have l1 := HK8.out.2.lt
          have k0 := HK8.out.2.cell 0 _ rfl
          have k1 := HK8.out.2.cell 1 _ rfl
          have HCE := hid (canon_Encode (HS.out.keep (below_keeps HB8.out)) root (HY.out.keep (below_keeps HB8.out)) (by have := HWY.out; omega))
          rw [← HMD.out, ← HE2.out] at HCE
          go_wp2_with fail
          refine HCE.out.mono ?_
          rintro e w7 ⟨v7, rfl, hO, hb⟩
          obtain ⟨pa, pc, eo⟩ := hO.form
          obtain ⟨pn, HPN⟩ : ∃ n, Hid (n = E2.length) := ⟨_, rfl⟩
          rw [← HPN.out] at eo
          subst eo
          have HB9 := hid (HB8.out.trans (hb.mono HB8.out.size))
          have HK9 := hid (And.intro (HK8.out.1.below hb) (HK8.out.2.below hb))
          have HO9 := hid (HO8.out.below_of hb)
          have HP9 := hid hO
          clear hb hO HB8 HK8 HCE HO8 l1 k0 k1
          by_cases hm1 : mc = 0
          · by_cases hm2 : md = 0
            · subst hm1
              subst hm2
              have hr1 : sright s = true ∧ rightB s (dx + 1) root x = true := by
                have := HMC.out
                rcases may_cases s root (dx + 1) x with h | h | h | h
                · exact h.2
                all_goals omega
              have hr2 : rightB s (dx + 1) root y = true := by
                have := HMD.out
                rcases may_cases s root (dx + 1) y with h | h | h | h
                · exact h.2.2
                all_goals omega
              have hroot := rightB_root hr1.2
              obtain ⟨r, rfl⟩ : ∃ r : Nat, root = r := ⟨root.toNat, by omega⟩
              have hrs : r < s.length := by omega
              have HEE1 : Hid (E1 = encM s (dx + 1) (r : Int) x) := by rw [Hid, HE1.out, encOut, if_pos HMC.out.symm]
              have HEE2 : Hid (E2 = encM s (dx + 1) (r : Int) y) := by rw [Hid, HE2.out, encOut, if_pos HMD.out.symm]
              have hl1 : E1.length ≤ 60000 := by
                have h1 := enc_len hr1.1 (dx + 1) (r : Int) _ _ HX.out (by have := HWX.out; omega)
                rw [← HEE1.out] at h1
                have := HWX.out
                omega
              have hl2 : E2.length ≤ 60000 := by
                have h1 := enc_len hr1.1 (dx + 1) (r : Int) _ _ HY.out (by have := HWY.out; omega)
                rw [← HEE2.out] at h1
                have := HWY.out
                omega
              have hdp64 : depthM (dx + 1) x ≤ 64 := by rw [← HDP.out]; omega
              have hdq64 : depthM (dx + 1) y ≤ 64 := by rw [← HDQ.out]; omega
              have hux : mwt (dx + 1) x ≤ 1099511627776 := by have := HWX.out; omega
              have huy : mwt (dx + 1) y ≤ 1099511627776 := by have := HWY.out; omega
              have hck := joins_check hr1.1 HX.out HY.out hux huy hrs hr1.2 hr2 hdp64 hdq64
              have hmn := joins_means hr1.1 HX.out HY.out hux huy hrs hr1.2 hr2 hdp64 hdq64
              have hjs := joins_size hr1.1 hrs hr1.2 hr2
              have hwz := mwt_join s (dx + 1) (r : Int) x y hr1.2 hr2
              rw [← HEE1.out, ← HEE2.out] at hck hmn hjs
              have hma : mayAll s (r : Int) [rightB s (dx + 1) (r : Int) x, rightB s (dx + 1) (r : Int) y] = 0 := by
                rw [hr1.2, hr2]; unfold mayAll; rw [if_neg (by rw [hr1.1]; simp), if_neg (by omega)]; rfl
              have hj := alg_Join (HS.out.below HB9.out) (r : Int) (HX.out.keep (below_keeps HB9.out)) (HY.out.keep (below_keeps HB9.out)) (by have := HWX.out; omega) (by have := HWY.out; omega)
              rw [hma] at hj
              obtain ⟨Z, HZ⟩ : ∃ z, Hid (z = joinM s (dx + 1) (r : Int) x y) := ⟨_, rfl⟩
              rw [← HZ.out] at hmn hjs hwz hj
              obtain ⟨EE, HEE⟩ : ∃ l, Hid (l = E1 ++ E2) := ⟨_, rfl⟩
              rw [← HEE.out] at hck hmn
              obtain ⟨nz, HNZ⟩ : ∃ n, Hid (n = (encOut s (r : Int) (dx + 1) Z).length) := ⟨_, rfl⟩
              rw [← HNZ.out] at hjs
              have hle : nz ≤ on + pn := by rw [HON.out, HPN.out]; exact hjs.2
              have hon : on ≤ 60000 := by rw [HON.out]; exact hl1
              have hpn : pn ≤ 60000 := by rw [HPN.out]; exact hl2
              have HJ := hid hj
              have HCK := hid hck
              have HMN := hid hmn
              have HJS := hid hjs.1
              have HWZ : Hid (mwt (dx + 1) Z ≤ 4000) := by have := HWX.out; have := HWY.out; show _ ≤ _; omega
              have HL := hid (And.intro hl1 hl2)
              have HBY1 := hid (HO9.out.bytes (by omega))
              have HBY2 := hid (HP9.out.bytes (by omega))
              have l1 := HK9.out.1.lt
              have k0 := HK9.out.1.cell 0 _ rfl
              have k1 := HK9.out.1.cell 1 _ rfl
              have l2 := HK9.out.2.lt
              have k2 := HK9.out.2.cell 0 _ rfl
              have k3 := HK9.out.2.cell 1 _ rfl
              clear hdp64 hdq64 hux huy hck hmn hjs hwz hma hj hr1 hr2 hroot hrs hl1 hl2 HMC HMD HEE1 HEE2 HE1 HE2 HO9 HP9 HBX HBY HX HY HWX HWY HDP HDQ HZ1 HZ2 HK9
              go_wp2_with fail
              refine HJ.out.mono ?_
              rintro e w8 ⟨hb8, -, hj8⟩
              obtain ⟨a5, n5, c5, a6, n6, c6, rfl, hap⟩ := hj8 rfl
              obtain ⟨W9, HW9⟩ : ∃ W9, Hid (W9 = w8.alloc (.cells #[.slice a5 n5 c5, .slice a6 n6 c6] 27)) := ⟨_, rfl⟩
              have hb9 : Below w8.heap.size w8 W9 := by rw [HW9.out]; exact (Below.refl _ _).alloc (Nat.le_refl _) _
              have hz9 : Blk W9 w8.heap.size [.slice a5 n5 c5, .slice a6 n6 c6] 27 := by rw [HW9.out]; exact Blk.new w8 [.slice a5 n5 c5, .slice a6 n6 c6] _
              have hb89 := hb8.trans (hb9.mono hb8.size)
              have HBA := hid (HB9.out.trans (hb89.mono HB9.out.size))
              have HMZ := hid (hap.here.below hb9)
              have HY1 := hid (HBY1.out.below hb89)
              have HY2 := hid (HBY2.out.below hb89)
              have hcs := canon_Size (HS.out.below HBA.out) (r : Int) HMZ.out (by have := HWZ.out; omega)
              rw [HJS.out, ← HNZ.out] at hcs
              have HCS := hid hcs
              obtain ⟨bz, HBZ⟩ : ∃ b, Hid (b = w8.heap.size) := ⟨_, rfl⟩
              rw [← HBZ.out] at hz9
              have HZB := hid hz9
              clear hb8 hj8 hap hb9 hz9 hb89 hcs HJ HBY1 HBY2 l1 k0 k1 l2 k2 k3 HB9
              go_wp2_with fail
              rw [← HW9.out, ← HBZ.out]
              refine HCS.out.mono ?_
              rintro e w10 ⟨rfl, hb10⟩
              have HBB := hid (HBA.out.trans (hb10.mono HBA.out.size))
              have HZC := hid (HZB.out.below hb10)
              have HMZ2 := hid (HMZ.out.below hb10)
              obtain ⟨u1, W11, u2, W12, r1, r2, hBC, hb12, ⟨f1, f2, f3, rfl⟩, ⟨f4, f5, rfl⟩⟩ := bytes_two (HY1.out.below hb10) (HY2.out.below hb10) (by have := HL.out; omega)
              rw [← HEE.out] at hBC r2
              have hel : EE.length ≤ 120000 := by rw [HEE.out, List.length_append]; have := HL.out; omega
              have HBC := hid (HBB.out.trans (hb12.mono HBB.out.size))
              have hto := tree_Of (fun hs d' => (HOF.out hs d').laterM HBC.out) (HS.out.below HBC.out) hBC (by omega) (r : Int) 64
              unfold TreePost at hto
              rw [HCK.out] at hto
              obtain ⟨ne, HNE⟩ : ∃ n, Hid (n = EE.length) := ⟨_, rfl⟩
              rw [← HNE.out] at r2 hto
              have HTO := hid hto
              have HR1 := hid r1
              have HR2 := hid r2
              have HZD := hid (HZC.out.below hb12)
              have HMZ3 := hid (HMZ2.out.below hb12)
              clear hb10 r1 r2 hBC hb12 hel hto HCS HBA HZB HMZ HY1 HY2 HBB HZC HMZ2
              go_wp2_with (first | (at_builtin; refine wpList_append_eq (o := ⟨some 86, _, _, _, _, _⟩) rfl _ _ _ rfl _ _ rfl rfl HR1.out ?_) | (at_builtin; refine wpList_append_eq (o := ⟨some 88, _, _, _, _, _⟩) rfl _ _ _ rfl _ _ rfl rfl HR2.out ?_))
              refine HTO.out.mono ?_
              rintro e w13 ⟨v', rfl, hb13, ⟨a7, n7, c7, a8, n8, c8, rfl⟩, hap⟩
              have hMm : MsgAt (64 + 1) w13 (.agg #[.slice a7 n7 c7, .slice a8 n8 c8]) (tof s 64 r EE) := by
                have := (hap trivial).here
                simpa using this
              have hBD := HBC.out.trans (hb13.mono HBC.out.size)
              have hz13 := HZD.out.below hb13
              have hMz := HMZ3.out.below hb13
              obtain ⟨W14, HW14⟩ : ∃ W, Hid (W = w13.alloc (.cells #[.slice a7 n7 c7, .slice a8 n8 c8] 27)) := ⟨_, rfl⟩
              have hb14 : Below w13.heap.size w13 W14 := by rw [HW14.out]; exact (Below.refl _ _).alloc (Nat.le_refl _) _
              have hm14 : Blk W14 w13.heap.size [.slice a7 n7 c7, .slice a8 n8 c8] 27 := by rw [HW14.out]; exact Blk.new w13 [.slice a7 n7 c7, .slice a8 n8 c8] _
              obtain ⟨bm, HBM⟩ : ∃ b, Hid (b = w13.heap.size) := ⟨_, rfl⟩
              rw [← HBM.out] at hm14
              have HB14 := hid (hBD.trans (hb14.mono hBD.size))
              have HZ14 := hid (hz13.below hb14)
              have HM14 := hid hm14
              have hsame := tree_Same (64 + 1) (dx + 1) _ _ _ _ _ (hMm.below hb14) (hMz.below hb14)
              rw [HMN.out] at hsame
              have HSAME := hid hsame
              have z0 := hz13.cell 0 _ rfl
              have z1' := hz13.cell 1 _ rfl
              have zl := hz13.lt
              clear hap hMm hBD hz13 hMz hb13 hb14 hm14 hsame HTO HR1 HR2 HZD HMZ3 HBC HCK HMN
              go_wp2_with fail
              rw [← HW14.out]
              refine HSAME.out.mono ?_
              rintro e w15 ⟨rfl, hb15⟩
              have HE := hid (HTRUE.out _ (HB14.out.trans (hb15.mono HB14.out.size)))
              clear hb15 HB14 HSAME
              go_wp2_with fail
              exact HE.out
            · have e1 : decide ((md : Int) = 0) = false := decide_eq_false (by omega)
              subst hm1
              go_wp2_with fail
              exact HTRUE.out _ HB9.out
          · go_wp2_with fail
            exact HTRUE.out _ HB9.out
theorem law16_CanonJoins' {w : World} {vs vx vy : Value} {s : List Mes} : {dx : Nat} → {x y : M dx} → (sright s = true → ∀ d', TOfOk w vs s d') → SchemaAt w vs s → (root : Int) → MsgAt dx w vx x → MsgAt dx w vy y → mwt dx x ≤ 1099511627776 → mwt dx y ≤ 1099511627776 →
    Calls Tryz.prog 3 #[vs, .int .i64 root, vx, vy] w fun e w' => e = .returned (.bool true) ∧ Below w.heap.size w w'
  | 0, _, _, _, _, _, h, _, _, _ => h.elim
  | _ + 1, _, _, hof, hS, root, hX, hY, h1, h2 => law16_CanonJoins hof hS root hX hY h1 h2
end Go.Proofs.YtbdeclkccchnoaaGreat
