/- darninglaw19.KeepMasks returns true, of contracts of darningref14.Of. Ways of at most 2^30 numbers each. -/
import Derived.Test.YtfimpmennkfjcaaGreatDoorZ18
import Derived.Test.YtfimpmennkfjcaaGreatDoorZ40
import Derived.Test.YtfimpmennkfjcaaGreatDoorZ41
import Derived.Test.YtfimpmennkfjcaaGreatDoorZ43
import Derived.Test.YtfimpmennkfjcaaGreatDoorZ44
import Derived.Test.YtfimpmennkfjcaaGreatDoorZ45
import Derived.Test.YtfimpmennkfjcaaGreatDoorZ46
namespace Go.Proofs.YtfimpmennkfjcaaGreatDoor
open Go.RowKit
theorem parts_len (s : List Mes) (root d : Int) (b : List UInt8) (ws : List (List Int)) (keep : Bool) : (partsC s root d b ws keep).2.length ≤ b.length := by
  unfold partsC
  by_cases h3 : (vcheck s root b d).2 = 0
  · rw [if_neg (by omega)]
    by_cases h4 : (pathsC s root ws).1 = 0
    · rw [if_neg (by omega)]
      have hv := (vcheck_ok h3).2.2.2
      exact kpart_le hv
    · rw [if_pos h4]; simp
  · rw [if_pos h3]; simp
theorem maskArgs_fine {s : List Mes} {r : Nat} (hs : sright s = true) (h : r < s.length) : maskArgs s (r : Int) = 0 := by
  unfold maskArgs
  rw [if_neg (by rw [hs]; decide), if_neg (by omega)]
set_option maxRecDepth 100000 in
set_option maxHeartbeats 8000000 in
theorem law19_KeepMasks {w : World} {sv bv mv : Value} {s : List Mes} {b : List UInt8} {ws : List (List Int)} (hrf : sright s = true → ∀ d', ROfOk w sv s d') (hS : SchemaAt w sv s) (hb : Bytes w bv b) (hM : WaysAt w mv ws) (hL : LightW ws) (hL2 : ∀ l ∈ ws, l.length ≤ 1073741824) (root d : Int) :
    Calls Tryz.prog 4 #[sv, .int .i64 root, bv, .int .i64 d, mv] w fun e w' => e = .returned (.bool true) ∧ Below w.heap.size w w' := by
  have HRF := hid hrf
  have HS := hid hS
  have HB := hid hb
  have HM := hid hM
  have HML := hid (And.intro hL hL2)
  obtain ⟨-, sa, sc, rfl, -⟩ := hS.open
  obtain ⟨-, a, c, rfl, -⟩ := hb.open
  obtain ⟨-, ma, mc, rfl, -, -⟩ := hM.open
  obtain ⟨sn, HSN⟩ : ∃ n, Hid (n = s.length) := ⟨_, rfl⟩
  obtain ⟨n, HN⟩ : ∃ n, Hid (n = b.length) := ⟨_, rfl⟩
  obtain ⟨mn, HMN⟩ : ∃ n, Hid (n = ws.length) := ⟨_, rfl⟩
  rw [← HSN.out] at HS HRF ⊢
  rw [← HN.out] at HB ⊢
  rw [← HMN.out] at HM ⊢
  obtain ⟨R, HR⟩ : ∃ R : Ending → World → Prop, Hid (R = fun e w' => e = .returned (.bool true) ∧ Below w.heap.size w w') := ⟨_, rfl⟩
  rw [← HR.out]
  have HTRUE : Hid (∀ w', Below w.heap.size w w' → R (.returned (.bool true)) w') := fun w' hb => by rw [HR.out]; exact ⟨rfl, hb⟩
  clear hS hb hM hL hL2 hrf HR
  go_enter Tryz.func4, Tryz.ntmps4
  go_wp2_with fail
  refine (law19_alive _).mono ?_
  rintro e w1 ⟨rfl, hb1⟩
  have HB1 := hid hb1
  clear hb1
  go_wp2_with fail
  refine (law07_Few (HS.out.keep (below_keeps HB1.out))).mono ?_
  rintro e w2 ⟨⟨fw, rfl⟩, hb2⟩
  have HB2 := hid (HB1.out.trans (hb2.mono HB1.out.size))
  clear hb2
  cases fw with
  | false =>
    go_wp2_with fail
    exact HTRUE.out _ HB2.out
  | true =>
    by_cases hlong : (1500 : Int) < n
    · go_wp2_with fail
      exact HTRUE.out _ HB2.out
    · have HMY := hid (law13_Many (HM.out.below HB2.out))
      go_wp2_with fail
      refine HMY.out.mono ?_
      rintro e w3 ⟨⟨my, rfl⟩, rfl⟩
      cases my with
      | true =>
        go_wp2_with fail
        exact HTRUE.out _ HB2.out
      | false =>
        have hbl : b.length ≤ 1500 := by have := HN.out; omega
        have HBL := hid hbl
        clear hbl HMY
        obtain ⟨X, HX⟩ : ∃ X, Hid (X = w2.heap.size) := ⟨_, rfl⟩
        obtain ⟨W3, HW3⟩ : ∃ W, Hid (W = w2.alloc (.cells #[.slice ma mn mc] 37)) := ⟨_, rfl⟩
        have hk3 : Blk W3 X [.slice ma mn mc] 37 := by rw [HW3.out, HX.out]; exact Blk.new w2 [.slice ma mn mc] _
        have hb3 : Below w2.heap.size w2 W3 := by rw [HW3.out]; exact (Below.refl _ _).alloc (Nat.le_refl _) _
        have HB3 := hid (HB2.out.trans (hb3.mono HB2.out.size))
        have HK3 := hid hk3
        go_upto_region 6 with fail
        rw [← HX.out, ← HW3.out]
        have HC1 := hid (keep_Of (HS.out.below HB3.out) (HB.out.below HB3.out) (by have := HBL.out; omega) (HM.out.below HB3.out) HML.out.1 HML.out.2 root d)
        unfold maskV at HC1
        obtain ⟨c1, Y, HY1⟩ : ∃ c1 Y, Hid (partsC s root d b ws true = (c1, Y)) := ⟨_, _, rfl⟩
        rw [HY1.out] at HC1
        have k3 := hk3.cell 0 _ rfl
        have l3 := hk3.lt
        clear hk3 hb3
        go_wp2_with fail
        refine HC1.out.mono ?_
        rintro e w4 ⟨v4, rfl, hO4, hb4⟩
        obtain ⟨ya, yc, rfl⟩ := hO4.form
        obtain ⟨yn, HYN⟩ : ∃ n, Hid (n = Y.length) := ⟨_, rfl⟩
        have hyl := parts_len s root d b ws true
        rw [HY1.out] at hyl
        have HYL := hid hyl
        have hY4 := hO4.bytes (by have := HYL.out; have := HBL.out; simp only at *; omega)
        simp only at hY4
        rw [← HYN.out] at hY4 ⊢
        have HY4 := hid hY4
        have HB4 := hid (HB3.out.trans (hb4.mono HB3.out.size))
        have hk4 := HK3.out.below hb4
        have HK4 := hid hk4
        have k4 := hk4.cell 0 _ rfl
        have l4 := hk4.lt
        have HC2 := hid (keep_Rest (HS.out.below HB4.out) (HB.out.below HB4.out) (by have := HBL.out; omega) (HM.out.below HB4.out) HML.out.1 HML.out.2 root d)
        unfold maskV at HC2
        obtain ⟨c2, Z, HZ1⟩ : ∃ c1 Y, Hid (partsC s root d b ws false = (c1, Y)) := ⟨_, _, rfl⟩
        rw [HZ1.out] at HC2
        clear hO4 hb4 hY4 hyl hk4 k3 l3 HC1
        go_wp2_with fail
        refine HC2.out.mono ?_
        rintro e w5 ⟨v5, rfl, hO5, hb5⟩
        obtain ⟨za, zc, rfl⟩ := hO5.form
        obtain ⟨zn, HZN⟩ : ∃ n, Hid (n = Z.length) := ⟨_, rfl⟩
        have hzl := parts_len s root d b ws false
        rw [HZ1.out] at hzl
        have HZL := hid hzl
        have hZ5 := hO5.bytes (by have := HZL.out; have := HBL.out; simp only at *; omega)
        simp only at hZ5
        rw [← HZN.out] at hZ5 ⊢
        have HZ5 := hid hZ5
        have HY5 := hid (HY4.out.below hb5)
        have HB5 := hid (HB4.out.trans (hb5.mono HB4.out.size))
        have HC3 := hid (ref11_Check (HS.out.below HB5.out) (HB.out.below HB5.out) (by have := HBL.out; omega) root d)
        obtain ⟨p, HP⟩ : ∃ p, Hid (p = (vcheck s root b d).1) := ⟨_, rfl⟩
        obtain ⟨z, HZZ⟩ : ∃ z, Hid (z = (vcheck s root b d).2) := ⟨_, rfl⟩
        rw [← HP.out, ← HZZ.out] at HC3
        clear hO5 hb5 hZ5 hzl k4 l4 HC2
        go_wp2_with fail
        refine HC3.out.mono ?_
        rintro e w6 ⟨rfl, hb6⟩
        have HY6 := hid (HY5.out.below hb6)
        have HZ6 := hid (HZ5.out.below hb6)
        have HB6 := hid (HB5.out.trans (hb6.mono HB5.out.size))
        clear hb6 HC3
        by_cases hz : z = 0
        · obtain ⟨g1, ⟨g2, g3⟩, ⟨g4, g5⟩, g6⟩ := vcheck_ok (HZZ.out.symm.trans hz)
          subst hz
          obtain ⟨r, rfl⟩ : ∃ r : Nat, root = r := ⟨root.toNat, by omega⟩
          rw [Int.toNat_natCast] at g6
          have hm0 := maskArgs_fine g1 (r := r) (by omega)
          have hpo := pathsC_ok (ws := ws) hm0
          have HMK := hid (ref19_Mask (HS.out.below HB6.out) g1 r (by omega) (HM.out.below HB6.out) HML.out.1 HML.out.2)
          obtain ⟨mo, HMO⟩ : ∃ x, Hid (x = maskOk s (r : Int) ws) := ⟨_, rfl⟩
          rw [← HMO.out] at HMK hpo
          have hpc : ∀ k, partsC s (r : Int) d b ws k = if mo = true then (0, kpart s k d.toNat r (mOf ws) b) else (10, []) := by
            intro k
            unfold partsC
            rw [← HZZ.out, if_neg (by simp), Int.toNat_natCast]
            by_cases h : mo = true
            · rw [if_pos h, if_neg (by rw [hpo.2 h]; simp)]
            · rw [if_neg h, if_pos (fun h2 => h (hpo.1 h2))]
          have e1 := hpc true
          have e2 := hpc false
          rw [HY1.out] at e1
          rw [HZ1.out] at e2
          go_wp2_with fail
          refine HMK.out.mono ?_
          rintro e w7 ⟨rfl, hb7⟩
          have HY7 := hid (HY6.out.below hb7)
          have HZ7 := hid (HZ6.out.below hb7)
          have HB7 := hid (HB6.out.trans (hb7.mono HB6.out.size))
          cases mo with
          | false =>
            rw [if_neg (by decide)] at e1 e2
            cases e1
            cases e2
            obtain rfl : yn = 0 := HYN.out
            obtain rfl : zn = 0 := HZN.out
            clear hpc hpo hb7 HMK
            go_wp2_with fail
            exact HTRUE.out _ HB7.out
          | true =>
            rw [if_pos rfl] at e1 e2
            obtain ⟨rfl, hY⟩ := Prod.mk.inj e1
            obtain ⟨rfl, hZ⟩ := Prod.mk.inj e2
            have hmk : mOf ws = ws := by
              have h := HMO.out.symm
              unfold maskOk isMaskW at h
              rw [Bool.and_eq_true] at h
              exact of_decide_eq_true h.1
            rw [hmk] at hY hZ
            obtain ⟨f1, -⟩ := kpart_both_facts (keep := true) (ws := ws) g6 (by have := HBL.out; omega)
            obtain ⟨f2, -⟩ := kpart_both_facts (keep := false) (ws := ws) g6 (by have := HBL.out; omega)
            have f3 := tof_part g1 true (ws := ws) (d := d.toNat) (m := r) (l := b) (by omega) g6 (by have := HBL.out; omega)
            have f4 := tof_part g1 false (ws := ws) (d := d.toNat) (m := r) (l := b) (by omega) g6 (by have := HBL.out; omega)
            rw [← hY] at f1 f3
            rw [← hZ] at f2 f4
            have HF := hid (And.intro f1 (And.intro f2 (And.intro f3 f4)))
            have HG := hid (And.intro g1 (And.intro (show r < s.length by omega) (And.intro g6 (And.intro g4 g5))))
            have HYZ := hid (And.intro hY hZ)
            have HYLL : Hid (Y.length ≤ 1500) := by have := HYL.out; have := HBL.out; simp only at *; show _ ≤ _; omega
            have HZLL : Hid (Z.length ≤ 1500) := by have := HZL.out; have := HBL.out; simp only at *; show _ ≤ _; omega
            have HK1 := hid (ref19_Part g1 HS.out true d.toNat r w7 _ _ b ws HG.out.2.1 HB7.out (HB.out.below HB7.out) (by have := HBL.out; omega) (HM.out.below HB7.out) HML.out.1 g6)
            rw [← hY] at HK1
            clear hpc hpo hb7 HMK e1 e2 hm0 g1 g2 g3 g4 g5 g6 hY hZ hmk f1 f2 f3 f4
            go_wp2_with fail
            refine HK1.out.mono ?_
            rintro e w8 ⟨v8, rfl, hO8, hb8⟩
            obtain ⟨pa, pc, rfl⟩ := hO8.form
            have hP8 := hO8.bytes (by have := HYLL.out; omega)
            rw [← HYN.out] at hP8 ⊢
            have HY8 := hid (HY7.out.below hb8)
            have HZ8 := hid (HZ7.out.below hb8)
            have HB8 := hid (HB7.out.trans (hb8.mono HB7.out.size))
            have hsm1 := ref01_Same HY8.out hP8
            rw [show decide (Y = Y) = true from decide_eq_true rfl] at hsm1
            have HSM1 := hid hsm1
            clear hsm1
            clear hO8 hb8 hP8
            go_wp2_with fail
            refine HSM1.out.mono ?_
            rintro e w9 ⟨rfl, rfl⟩
            have HK2 := hid (ref19_Part HG.out.1 HS.out false d.toNat r w8 _ _ b ws HG.out.2.1 HB8.out (HB.out.below HB8.out) (by have := HBL.out; omega) (HM.out.below HB8.out) HML.out.1 HG.out.2.2.1)
            rw [← HYZ.out.2] at HK2
            go_wp2_with fail
            refine HK2.out.mono ?_
            rintro e w9 ⟨v9, rfl, hO9, hb9⟩
            obtain ⟨pa2, pc2, rfl⟩ := hO9.form
            have hP9 := hO9.bytes (by have := HZLL.out; omega)
            rw [← HZN.out] at hP9 ⊢
            have HY9 := hid (HY8.out.below hb9)
            have HZ9 := hid (HZ8.out.below hb9)
            have HB9 := hid (HB8.out.trans (hb9.mono HB8.out.size))
            have hsm2 := ref01_Same HZ9.out hP9
            rw [show decide (Z = Z) = true from decide_eq_true rfl] at hsm2
            have HSM2 := hid hsm2
            clear hsm2
            clear hO9 hb9 hP9
            go_wp2_with fail
            refine HSM2.out.mono ?_
            rintro e w10 ⟨rfl, rfl⟩
            have HOF := hid (HRF.out HG.out.1 d.toNat r w9 _ b HG.out.2.1 HB9.out (HB.out.below HB9.out) (by have := HBL.out; omega) HG.out.2.2.1)
            go_wp2_with fail
            refine HOF.out.mono ?_
            rintro e w10 ⟨v10, rfl, hb10, hap⟩
            have hM10 : MsgAt (d.toNat + 1) w10 v10 (tof s d.toNat r b) := hap.here
            obtain ⟨z1, z1n, z1c, z2, z2n, z2c, rfl⟩ := hM10.form
            have HB10 := hid (HB9.out.trans (hb10.mono HB9.out.size))
            have HY10 := hid (HY9.out.below hb10)
            have HZ10 := hid (HZ9.out.below hb10)
            obtain ⟨W11, HW11⟩ : ∃ W, Hid (W = w10.alloc (.cells #[.slice z1 z1n z1c, .slice z2 z2n z2c] 45)) := ⟨_, rfl⟩
            obtain ⟨X2, HX2⟩ : ∃ X, Hid (X = w10.heap.size) := ⟨_, rfl⟩
            have hk11 : Blk W11 X2 [.slice z1 z1n z1c, .slice z2 z2n z2c] 45 := by rw [HW11.out, HX2.out]; exact Blk.new w10 [.slice z1 z1n z1c, .slice z2 z2n z2c] _
            have hb11 : Below w10.heap.size w10 W11 := by rw [HW11.out]; exact (Below.refl _ _).alloc (Nat.le_refl _) _
            have hM11 : MsgAt (d.toNat + 1) W11.drew (.agg #[.slice z1 z1n z1c, .slice z2 z2n z2c]) (tof s d.toNat r b) := (hM10.below hb11).below (Below.refl _ _).drew
            have HM11 := hid hM11
            have HB11 := hid ((HB10.out.trans (hb11.mono HB10.out.size)).drew)
            have HY11 : Hid (Bytes W11.drew (.slice ya yn yc) Y) := (HY10.out.below hb11).drewN 1
            have HZ11 : Hid (Bytes W11.drew (.slice za zn zc) Z) := (HZ10.out.below hb11).drewN 1
            have q0 := And.intro (show W11.drew.cell? ⟨X2, 0, none⟩ = some (.slice z1 z1n z1c) from hk11.cell 0 _ rfl) (show W11.drew.cell? ⟨X2, 1, none⟩ = some (.slice z2 z2n z2c) from hk11.cell 1 _ rfl)
            have HS11 := hid (HS.out.below HB11.out)
            have l11 := hk11.lt
            have k110 := hk11.cell 0 _ rfl
            have k111 := hk11.cell 1 _ rfl
            have hva : ∀ x, (vcheck s (r : Int) x d).2 = (vmsg s d.toNat r x).2 := fun x => by
              rw [vcheck_of (vcheck_args_ok HZZ.out.symm), Int.toNat_natCast]
            have hi1 := ref11_Is HS11.out HY11.out (by have := HYLL.out; omega) (r : Int) d
            rw [hva, HF.out.1] at hi1
            have HI1 := hid hi1
            have HI2 : Hid (∀ W, Below W11.drew.heap.size W11.drew W → Calls Tryz.prog 19 #[.slice sa sn sc, .int .i64 (r : Int), .slice za zn zc, .int .i64 d] W fun e w' => e = .returned (.bool true) ∧ Below W.heap.size W w') := by
              intro W hW
              have h := ref11_Is (HS11.out.below hW) (HZ11.out.below hW) (by have := HZLL.out; omega) (r : Int) d
              rw [hva, HF.out.2.1] at h
              exact h
            have HRP : Hid (∀ (k : Bool) W, Below W11.drew.heap.size W11.drew W → Calls Tryz.prog 21 #[.slice sa sn sc, .int .i64 (r : Int), .agg #[.slice z1 z1n z1c, .slice z2 z2n z2c], .slice ma mn mc, .bool k] W fun e w' => ∃ v', e = .returned v' ∧ Below W.heap.size W w' ∧ Apart W11.drew.heap.size W.heap.size w' fun w2 => MsgAt (d.toNat + 1) w2 v' (partM s k (d.toNat + 1) r ws (tof s d.toNat r b))) := by
              intro k W hW
              have := ref15_Part HS11.out k (d.toNat + 1) r W _ _ (tof s d.toNat r b) ws HG.out.2.1 hW HM11.out ((HM.out.below HB11.out).below hW) HML.out.1 (tof_right HG.out.1 d.toNat r b HG.out.2.1 HG.out.2.2.1) (by have := tof_weight s d.toNat r b; have := HBL.out; omega)
              exact this
            have HRO : Hid (∀ W v x, Below W11.drew.heap.size W11.drew W → Bytes W v x → x.length ≤ 1500 → (vmsg s d.toNat r x).2 = 0 → Calls Tryz.prog 18 #[.slice sa sn sc, .int .i64 (r : Int), v] W fun e w' => ∃ v', e = .returned v' ∧ Below W.heap.size W w' ∧ Apart 0 W.heap.size w' fun w2 => MsgAt (d.toNat + 1) w2 v' (tof s d.toNat r x)) := by
              intro W v x hW hx hxl hv
              exact HRF.out HG.out.1 d.toNat r W v x HG.out.2.1 (HB11.out.trans (hW.mono HB11.out.size)) hx (by omega) hv
            have HSAME : Hid (∀ (W : World) (v u : Value) (x : M (d.toNat + 1)), MsgAt (d.toNat + 1) W v x → MsgAt (d.toNat + 1) W u x → Calls Tryz.prog 20 #[v, u] W fun e w' => e = .returned (.bool true) ∧ Below W.heap.size W w') := ref14_Same (d.toNat + 1)
            clear hva hi1 hb10 hap hM10 hk11 hb11 hM11
            go_upto_region 16 with fail
            rw [← HW11.out, ← HX2.out]
            go_region_held3 (fun w' => w'.cell? ⟨X2, 0, none⟩ = some (.slice z1 z1n z1c) ∧ w'.cell? ⟨X2, 1, none⟩ = some (.slice z2 z2n z2c)) (first | (with_reducible exact q0) | (with_reducible exact q1) | (with_reducible exact q2) | (with_reducible exact q3) | (with_reducible exact q4) | (with_reducible exact q5) | (with_reducible exact q6) | (with_reducible exact q7) | (with_reducible exact q8) | go_keep) (first
              | (go_at_call 19; (with_reducible refine HI1.out.mono ?_); rintro e k1 ⟨rfl, hk⟩; have HK1 := hid hk; have q1 := And.intro (below_keeps hk _ _ q0.1) (below_keeps hk _ _ q0.2); clear hk)
              | (go_at_call 19; (with_reducible refine (HI2.out _ HK1.out).mono ?_); rintro e k2 ⟨rfl, hk⟩; have HK2 := hid (below_step HK1.out hk HK1.out.size); have q2 := And.intro (below_keeps hk _ _ q1.1) (below_keeps hk _ _ q1.2); clear hk)
              | (go_at_call 18; (with_reducible refine (HRO.out _ _ _ HK2.out (HY11.out.below HK2.out) HYLL.out HF.out.1).mono ?_); rintro e k3 ⟨v3, rfl, hk, hap⟩; have hM := hap.here; rw [HF.out.2.2.1] at hM; obtain ⟨p1, p1n, p1c, p2, p2n, p2c, rfl⟩ := hM.form; have HM3 := hid hM; have HK3 := hid (below_step HK2.out hk HK2.out.size); have q3 := And.intro (below_keeps hk _ _ q2.1) (below_keeps hk _ _ q2.2); clear hk hap hM)
              | (go_at_call 21; (with_reducible refine (HRP.out true _ HK3.out).mono ?_); rintro e k4 ⟨v4, rfl, hk, hap⟩; have hM := hap.here; obtain ⟨u1, u1n, u1c, u2, u2n, u2c, rfl⟩ := hM.form; have HM4 := hid (And.intro (HM3.out.below hk) hM); have HK4 := hid (below_step HK3.out hk HK3.out.size); have q4 := And.intro (below_keeps hk _ _ q3.1) (below_keeps hk _ _ q3.2); clear hk hap hM)
              | (go_at_call 20; (with_reducible refine (HSAME.out _ _ _ _ HM4.out.1 HM4.out.2).mono ?_); rintro e k5 ⟨rfl, hk⟩; have HK5 := hid (below_step HK4.out hk HK4.out.size); have q5 := And.intro (below_keeps hk _ _ q4.1) (below_keeps hk _ _ q4.2); clear hk)
              | (go_at_call 18; (with_reducible refine (HRO.out _ _ _ HK5.out (HZ11.out.below HK5.out) HZLL.out HF.out.2.1).mono ?_); rintro e k6 ⟨v6, rfl, hk, hap⟩; have hM := hap.here; rw [HF.out.2.2.2] at hM; obtain ⟨r1, r1n, r1c, r2, r2n, r2c, rfl⟩ := hM.form; have HM6 := hid hM; have HK6 := hid (below_step HK5.out hk HK5.out.size); have q6 := And.intro (below_keeps hk _ _ q5.1) (below_keeps hk _ _ q5.2); clear hk hap hM)
              | (go_at_call 21; (with_reducible refine (HRP.out false _ HK6.out).mono ?_); rintro e k7 ⟨v7, rfl, hk, hap⟩; have hM := hap.here; obtain ⟨y1, y1n, y1c, y2, y2n, y2c, rfl⟩ := hM.form; have HM7 := hid (And.intro (HM6.out.below hk) hM); have HK7 := hid (below_step HK6.out hk HK6.out.size); have q7 := And.intro (below_keeps hk _ _ q6.1) (below_keeps hk _ _ q6.2); clear hk hap hM)
              | (go_at_call 20; (with_reducible refine (HSAME.out _ _ _ _ HM7.out.1 HM7.out.2).mono ?_); rintro e k8 ⟨rfl, hk⟩; have HK8 := hid (below_step HK7.out hk HK7.out.size); have q8 := And.intro (below_keeps hk _ _ q7.1) (below_keeps hk _ _ q7.2); clear hk))
            have HE := hid (HTRUE.out _ (HB11.out.trans (HK8.out.mono HB11.out.size)))
            clear q0 q1 q2 q3 q4 q5 q6 q7 q8
            go_wp2_with fail
            exact HE.out
        · have hpc : ∀ k, partsC s root d b ws k = (z, []) := by
            intro k
            unfold partsC
            rw [← HZZ.out, if_pos hz]
          have e1 := hpc true
          have e2 := hpc false
          rw [HY1.out] at e1
          rw [HZ1.out] at e2
          obtain ⟨hc1, hYe⟩ := Prod.mk.inj e1
          obtain ⟨hc2, hZe⟩ := Prod.mk.inj e2
          subst c1
          subst c2
          subst hYe
          subst hZe
          obtain rfl : yn = 0 := HYN.out
          obtain rfl : zn = 0 := HZN.out
          have hzb : z < 256 := by rw [HZZ.out]; exact vcheck_code s root b d
          have e3 : ((z : Int) == 0) = false := by simpa using hz
          have e4 : ((z : Int) != 0) = true := by simpa using hz
          clear hpc hz
          go_wp2_with fail
          exact HTRUE.out _ HB6.out
end Go.Proofs.YtfimpmennkfjcaaGreatDoor
