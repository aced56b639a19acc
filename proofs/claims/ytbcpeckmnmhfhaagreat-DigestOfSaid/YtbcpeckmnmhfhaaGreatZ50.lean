/- darninglaw27.DigestOf returns true, of contracts of tree.of and darningref14.Of. No condition. -/
import Derived.Test.YtbcpeckmnmhfhaaGreatZ19
import Derived.Test.YtbcpeckmnmhfhaaGreatZ26
import Derived.Test.YtbcpeckmnmhfhaaGreatZ41
import Derived.Test.YtbcpeckmnmhfhaaGreatZ44
import Derived.Test.YtbcpeckmnmhfhaaGreatZ48
import Derived.Test.YtbcpeckmnmhfhaaGreatZ49
namespace Go.Proofs.YtbcpeckmnmhfhaaGreat
open Go.RowKit Go.Shelf
theorem TOfOk.later27 {w0 w1 : World} {sv : Value} {s : List Mes} {d : Nat} (h : TOfOk w0 sv s d) (hb : Below w0.heap.size w0 w1) : TOfOk w1 sv s d :=
  fun m w v l hm hw => h m w v l hm (hb.trans (hw.mono hb.size))
set_option maxRecDepth 100000 in
set_option maxHeartbeats 16000000 in
theorem law27_DigestOf {w : World} {vs vb : Value} {s : List Mes} {l : List UInt8} (hof : sright s = true → ∀ d', TOfOk w vs s d') (hrf : sright s = true → ∀ d', ROfOk w vs s d') (hS : SchemaAt w vs s) (hb : Bytes w vb l) (root d : Int) :
    Calls Tryz.prog 3 #[vs, .int .i64 root, vb, .int .i64 d] w fun e w' => e = .returned (.bool true) ∧ Below w.heap.size w w' := by
  have HOF := hid hof
  have HRF := hid hrf
  have HS := hid hS
  have HB := hid hb
  obtain ⟨-, sa, sc, rfl, -⟩ := hS.open
  obtain ⟨-, a, c, rfl, -⟩ := hb.open
  obtain ⟨n, HN⟩ : ∃ n, Hid (n = s.length) := ⟨_, rfl⟩
  obtain ⟨m, HM⟩ : ∃ n, Hid (n = l.length) := ⟨_, rfl⟩
  rw [← HN.out] at HS HOF HRF ⊢
  rw [← HM.out] at HB ⊢
  obtain ⟨R, HR⟩ : ∃ R : Ending → World → Prop, Hid (R = fun e w' => e = .returned (.bool true) ∧ Below w.heap.size w w') := ⟨_, rfl⟩
  rw [← HR.out]
  have HTRUE : Hid (∀ w', Below w.heap.size w w' → R (.returned (.bool true)) w') := fun w' hb => by rw [HR.out]; exact ⟨rfl, hb⟩
  obtain ⟨z, HZ⟩ : ∃ z, Hid (z = (vcheck s root l d).2) := ⟨_, rfl⟩
  obtain ⟨z1, HZ1⟩ : ∃ z1, Hid (z1 = (vcheck s root l d).1) := ⟨_, rfl⟩
  obtain ⟨x, HX⟩ : ∃ x, Hid (x = tof s d.toNat root.toNat l) := ⟨_, rfl⟩
  obtain ⟨D, HD⟩ : ∃ D, Hid (D = dMsg (d.toNat + 1) x) := ⟨_, rfl⟩
  obtain ⟨F, HF⟩ : ∃ F, Hid (F = fnv fnv0 l) := ⟨_, rfl⟩
  clear hS hb hof hrf HR
  go_enter Tryz.func3, Tryz.ntmps3
  go_wp2_with fail
  refine (law27_alive _).mono ?_
  rintro e w1 ⟨rfl, hb1⟩
  have HB1 := hid hb1
  clear hb1
  go_wp2_with fail
  refine (law07_Few (HS.out.keep (below_keeps HB1.out))).mono ?_
  rintro e w2 ⟨⟨fw, rfl⟩, hb2⟩
  have HB2 := hid (HB1.out.trans (hb2.mono HB1.out.size))
  clear hb2
  cases fw with
  | false =>
    go_wp2_with fail
    exact HTRUE.out _ HB2.out
  | true =>
    by_cases hlong : (1200 : Int) < m
    · go_wp2_with fail
      exact HTRUE.out _ HB2.out
    · have hl : l.length ≤ 1200 := by have := HM.out; omega
      have HL := hid hl
      have HOC := hid (digest_Of (fun hr d' => (HOF.out hr d').later27 HB2.out) (HS.out.below HB2.out) (HB.out.below HB2.out) (by omega) root d)
      rw [← HX.out, ← HD.out, ← HZ.out] at HOC
      obtain ⟨h, HH⟩ : ∃ h : Nat, Hid (h = if z = 0 then D else 0) := ⟨_, rfl⟩
      rw [← HH.out] at HOC
      have hzb : z < 256 := by rw [HZ.out]; exact vcheck_code s root l d
      have HZB := hid hzb
      clear hl hzb
      go_wp2_with fail
      refine HOC.out.mono ?_
      rintro e w3 ⟨rfl, hb3⟩
      have HB3 := hid (HB2.out.trans (hb3.mono HB2.out.size))
      have HMC := hid (digest_Make (fun hr d' => (HOF.out hr d').later27 HB3.out) (HS.out.below HB3.out) (HB.out.below HB3.out) (by have := HL.out; omega) root d)
      unfold ShPost at HMC
      rw [← HX.out, ← HZ.out] at HMC
      clear hb3 HOC
      go_wp2_with fail
      refine HMC.out.mono ?_
      rintro e w4 ⟨p, rfl, hb4, hp0, hp1⟩
      have HB4 := hid (HB3.out.trans (hb4.mono HB3.out.size))
      have HS1 := hid (digest_Sum (HB.out.below HB4.out))
      rw [← HF.out] at HS1
      have HP0 := hid hp0
      have HP1 := hid hp1
      have HB34 := hid hb4.size
      clear hb4 HMC hp0 hp1
      go_wp2_with fail
      refine HS1.out.mono ?_
      rintro e w5 ⟨rfl, hb5⟩
      have HB45 := hid hb5
      have HB5 := hid (HB4.out.trans (hb5.mono HB4.out.size))
      have HS2 := hid (ref27_Sum (HB.out.below HB5.out))
      rw [← HF.out] at HS2
      clear hb5 HS1
      go_wp2_with fail
      refine HS2.out.mono ?_
      rintro e w6 ⟨rfl, rfl⟩
      have HCK := hid (ref11_Check (HS.out.below HB5.out) (HB.out.below HB5.out) (by have := HL.out; omega) root d)
      rw [← HZ.out, ← HZ1.out] at HCK
      have eF : ((F : Int) != F) = false := by simp
      clear HS2
      go_wp2_with fail
      refine HCK.out.mono ?_
      rintro e w6 ⟨rfl, hb6⟩
      have HB56 := hid hb6
      have HB6 := hid (HB5.out.trans (hb6.mono HB5.out.size))
      clear hb6 HCK eF
      by_cases hz : z = 0
      · subst hz
        obtain ⟨⟨pb, rfl⟩, hap⟩ := HP1.out rfl
        have HAP := hid hap
        obtain rfl : h = D := HH.out
        obtain ⟨g1, ⟨g2, g3⟩, g5, g6⟩ := vcheck_ok HZ.out.symm
        obtain ⟨q, rfl⟩ : ∃ q : Nat, root = q := ⟨root.toNat, by omega⟩
        obtain ⟨dn, rfl⟩ : ∃ q : Nat, d = q := ⟨d.toNat, by omega⟩
        rw [Int.toNat_natCast] at g6
        simp only [Int.toNat_natCast] at HX HD HAP
        have HBL := HL.out
        have hwt0 : mwt (dn + 1) (tof s dn q l) ≤ 1 + 4 * l.length := tof_weight s dn q l
        have HWT : Hid (mwt (dn + 1) x ≤ 1099511627776) := by rw [Hid, HX.out]; omega
        have HRT : Hid (rightB s (dn + 1) (q : Int) x = true) := by rw [Hid, HX.out]; exact tof_right g1 dn q l (by omega) g6
        have HRO := hid (HRF.out g1 dn q _ _ l (by omega) HB6.out (HB.out.below HB6.out) (by omega) g6)
        rw [← HX.out] at HRO
        have hql : q < s.length := by omega
        have HQL := hid hql
        have HD64 : Hid (dn ≤ 64) := by rw [Hid]; omega
        have HG1 := hid g1
        clear hap g1 g2 g3 g5 g6 HBL hwt0 hql
        go_wp2_with fail
        refine HRO.out.mono ?_
        rintro e w7 ⟨v7, rfl, hb7, hap7⟩
        have hM := hap7.here
        obtain ⟨a1, n1, c1, a2, n2, c2, rfl⟩ := hM.form
        obtain ⟨X, HXX⟩ : ∃ X, Hid (X = w7.heap.size) := ⟨_, rfl⟩
        obtain ⟨W8, HW8⟩ : ∃ W, Hid (W = w7.alloc (.cells #[.slice a1 n1 c1, .slice a2 n2 c2] 41)) := ⟨_, rfl⟩
        have hb78 : Below w7.heap.size w7 W8 := by rw [HW8.out]; exact (Below.refl _ _).alloc (Nat.le_refl _) _
        have hx8 : Blk W8 X [.slice a1 n1 c1, .slice a2 n2 c2] 41 := by rw [HW8.out, HXX.out]; exact Blk.new w7 [.slice a1 n1 c1, .slice a2 n2 c2] _
        have hb68 := hb7.trans (hb78.mono hb7.size)
        have HB68 := hid hb68
        have HB8 := hid (HB6.out.trans (hb68.mono HB6.out.size))
        have HM8 := hid (hM.below hb78)
        have HSH : Hid (∀ W, Below W8.heap.size W8 W → ShAt (dn + 1) W (.pointer (some ⟨pb, 0, none⟩)) (mkSh s (dn + 1) (q : Int) x)) := fun W hW =>
          ShAt.below (ShAt.below (ShAt.below (ShAt.below HAP.out.here HB45.out) HB56.out) HB68.out) hW
        have HMS : Hid (∀ W, Below W8.heap.size W8 W → Calls Tryz.prog 13 #[.agg #[.slice a1 n1 c1, .slice a2 n2 c2]] W fun e w' => e = .returned (.int .u64 (h : Nat)) ∧ Below W.heap.size W w') := fun W hW => by
          rw [HD.out]; exact ref27_Message (dn + 1) W _ _ (HM8.out.below hW) HWT.out
        have HFIT : Hid (ShFit (dn + 1) (mkSh s (dn + 1) (q : Int) x)) := mkSh_fit s (dn + 1) (q : Int) _ x HM8.out HWT.out
        have HCO : Hid (∀ W, Below W8.heap.size W8 W → Calls Tryz.prog 15 #[.pointer (some ⟨pb, 0, none⟩), .int .i64 70] W fun e w' => ∃ v', e = .returned v' ∧ Below W.heap.size W w' ∧ Apart 0 W.heap.size w' fun w2 => RShAt (dn + 1) w2 v' (mkSh s (dn + 1) (q : Int) x)) := fun W hW =>
          law27_of (dn + 1) W _ _ 70 (HSH.out W hW) HFIT.out (by have := HD64.out; omega) (by omega)
        have HCM : Hid (∀ W, Below W8.heap.size W8 W → Calls Tryz.prog 16 #[.slice sa n sc, .int .i64 (q : Int), .agg #[.slice a1 n1 c1, .slice a2 n2 c2]] W fun e w' => ∃ v', e = .returned v' ∧ Below W.heap.size W w' ∧ Apart 0 W.heap.size w' fun w2 => RShAt (dn + 1) w2 v' (mkSh s (dn + 1) (q : Int) x)) := fun W hW =>
          ref27_Make (HS.out.below HB8.out) (dn + 1) q W _ x HQL.out hW HM8.out HRT.out HWT.out
        have HFT : Hid (∀ W, Below W8.heap.size W8 W → Calls Tryz.prog 11 #[.slice sa n sc, .int .i64 (q : Int), .slice a m c, .int .i64 (dn : Int), .pointer (some ⟨pb, 0, none⟩)] W fun e w' => e = .returned (.bool true) ∧ Below W.heap.size W w') := fun W hW => by
          have hbW := HB8.out.trans (hW.mono HB8.out.size)
          refine digest_Fits (fun hr d' => (HOF.out hr d').later27 hbW) (HS.out.below hbW) (HB.out.below hbW) (by have := HL.out; omega) q dn _ true (fun hne => (hne HZ.out.symm).elim) fun _ => .inr ⟨?_, rfl⟩
          simp only [Int.toNat_natCast]
          rw [← HX.out]
          exact HSH.out W hW
        have HFN : Hid (∀ W, Below W8.heap.size W8 W → Calls Tryz.prog 11 #[.slice sa n sc, .int .i64 (q : Int), .slice a m c, .int .i64 (dn : Int), .pointer none] W fun e w' => e = .returned (.bool false) ∧ Below W.heap.size W w') := fun W hW => by
          have hbW := HB8.out.trans (hW.mono HB8.out.size)
          exact digest_Fits (fun hr d' => (HOF.out hr d').later27 hbW) (HS.out.below hbW) (HB.out.below hbW) (by have := HL.out; omega) q dn none false (fun _ => rfl) fun _ => .inl ⟨rfl, rfl⟩
        have HX8 := hid hx8
        have q0 : W8.drew.cell? ⟨X, 0, none⟩ = some (.slice a1 n1 c1) ∧ W8.drew.cell? ⟨X, 1, none⟩ = some (.slice a2 n2 c2) := ⟨hx8.cell 0 _ rfl, hx8.cell 1 _ rfl⟩
        have xl := hx8.lt
        have HD8 := hid ((Below.refl W8.heap.size W8).drew)
        have eD : ((h : Int) == h) = true := by simp
        clear hb7 hap7 hM hb78 hx8 hb68 HOF HRF HRO HAP
        go_upto_region 13 with fail
        rw [← HW8.out, ← HXX.out]
        clear HS HB HSH HFIT HM8 HX HD HF HWT HRT HQL HD64 HG1 HN HM HZ HZ1 HB1 HB2 HB3 HB4 HB5 HB6 HB45 HB56 HB68 HP0 HP1 HB34 HL HZB HH HX8 HW8 HXX
        go_region_held3 (fun w' => w'.cell? ⟨X, 0, none⟩ = some (.slice a1 n1 c1) ∧ w'.cell? ⟨X, 1, none⟩ = some (.slice a2 n2 c2)) (first | (with_reducible exact q0) | (with_reducible exact q1) | (with_reducible exact q2) | (with_reducible exact q3) | (with_reducible exact q4) | (with_reducible exact q5) | (with_reducible exact q6)) (first
          | (go_at_call 13; (with_reducible refine (HMS.out _ HD8.out).mono ?_); rintro e w9 ⟨rfl, hb9⟩; have hb89 := below_step HD8.out hb9 HD8.out.size; have q1 : w9.cell? ⟨X, 0, none⟩ = some (.slice a1 n1 c1) ∧ w9.cell? ⟨X, 1, none⟩ = some (.slice a2 n2 c2) := ⟨below_keeps hb9 _ _ q0.1, below_keeps hb9 _ _ q0.2⟩; have HB9 := hid hb89; clear hb9 hb89 HMS)
          | (go_at_call 15; (with_reducible refine (HCO.out w9 HB9.out).mono ?_); rintro e w10 ⟨v10, rfl, hb10, hap10⟩; obtain ⟨k1, k2, k3, k4, k5, k6, k7, k8, k9, k10, k11, rfl⟩ := hap10.here.form; have q2 : w10.cell? ⟨X, 0, none⟩ = some (.slice a1 n1 c1) ∧ w10.cell? ⟨X, 1, none⟩ = some (.slice a2 n2 c2) := ⟨below_keeps hb10 _ _ q1.1, below_keeps hb10 _ _ q1.2⟩; have HB10 := hid (HB9.out.trans (hb10.mono HB9.out.size)); have HR10 := hid hap10.here; clear hb10 hap10)
          | (go_at_call 16; (with_reducible refine (HCM.out w10 HB10.out).mono ?_); rintro e w11 ⟨v11, rfl, hb11, hap11⟩; obtain ⟨j1, j2, j3, j4, j5, j6, j7, j8, j9, j10, j11, rfl⟩ := hap11.here.form; have q3 : w11.cell? ⟨X, 0, none⟩ = some (.slice a1 n1 c1) ∧ w11.cell? ⟨X, 1, none⟩ = some (.slice a2 n2 c2) := ⟨below_keeps hb11 _ _ q2.1, below_keeps hb11 _ _ q2.2⟩; have HB11 := hid (HB10.out.trans (hb11.mono HB10.out.size)); have HSM := hid (ref27_Same (dn + 1) w11 _ _ _ (HR10.out.keep (below_keeps hb11)) hap11.here); clear hb11 hap11)
          | (go_at_call 16; (with_reducible refine (HCM.out w9 HB9.out).mono ?_); rintro e w10 ⟨v11, rfl, hb10, hap10⟩; obtain ⟨j1, j2, j3, j4, j5, j6, j7, j8, j9, j10, j11, rfl⟩ := hap10.here.form; have q2 : w10.cell? ⟨X, 0, none⟩ = some (.slice a1 n1 c1) ∧ w10.cell? ⟨X, 1, none⟩ = some (.slice a2 n2 c2) := ⟨below_keeps hb10 _ _ q1.1, below_keeps hb10 _ _ q1.2⟩; have HB10 := hid (HB9.out.trans (hb10.mono HB9.out.size)); have HR10 := hid hap10.here; clear hb10 hap10)
          | (go_at_call 15; (with_reducible refine (HCO.out w10 HB10.out).mono ?_); rintro e w11 ⟨v10, rfl, hb11, hap11⟩; obtain ⟨k1, k2, k3, k4, k5, k6, k7, k8, k9, k10, k11, rfl⟩ := hap11.here.form; have q3 : w11.cell? ⟨X, 0, none⟩ = some (.slice a1 n1 c1) ∧ w11.cell? ⟨X, 1, none⟩ = some (.slice a2 n2 c2) := ⟨below_keeps hb11 _ _ q2.1, below_keeps hb11 _ _ q2.2⟩; have HB11 := hid (HB10.out.trans (hb11.mono HB10.out.size)); have HSM := hid (ref27_Same (dn + 1) w11 _ _ _ hap11.here (HR10.out.keep (below_keeps hb11))); clear hb11 hap11)
          | (go_at_call 14; (with_reducible refine HSM.out.mono ?_); rintro e w12 ⟨rfl, hb12⟩; have q4 : w12.cell? ⟨X, 0, none⟩ = some (.slice a1 n1 c1) ∧ w12.cell? ⟨X, 1, none⟩ = some (.slice a2 n2 c2) := ⟨below_keeps hb12 _ _ q3.1, below_keeps hb12 _ _ q3.2⟩; have HB12 := hid (HB11.out.trans (hb12.mono HB11.out.size)); clear hb12 HSM)
          | (go_at_call 11; (with_reducible refine (HFT.out w12 HB12.out).mono ?_); rintro e w13 ⟨rfl, hb13⟩; have q5 : w13.cell? ⟨X, 0, none⟩ = some (.slice a1 n1 c1) ∧ w13.cell? ⟨X, 1, none⟩ = some (.slice a2 n2 c2) := ⟨below_keeps hb13 _ _ q4.1, below_keeps hb13 _ _ q4.2⟩; have HB13 := hid (HB12.out.trans (hb13.mono HB12.out.size)); clear hb13 HFT)
          | (go_at_call 11; (with_reducible refine (HFN.out w13 HB13.out).mono ?_); rintro e w14 ⟨rfl, hb14⟩; have q6 : w14.cell? ⟨X, 0, none⟩ = some (.slice a1 n1 c1) ∧ w14.cell? ⟨X, 1, none⟩ = some (.slice a2 n2 c2) := ⟨below_keeps hb14 _ _ q5.1, below_keeps hb14 _ _ q5.2⟩; have HB14 := hid (HB13.out.trans (hb14.mono HB13.out.size)); clear hb14))
        all_goals
          clear q0 q1 q2 q3 q4 q5 q6
          go_wp2_with fail
          exact HTRUE.out _ (HB8.out.trans (HB14.out.mono HB8.out.size))
      · have hp := HP0.out hz
        subst hp
        have hh := HH.out
        rw [if_neg hz] at hh
        subst hh
        have HFN := hid (digest_Fits (fun hr d' => (HOF.out hr d').later27 HB6.out) (HS.out.below HB6.out) (HB.out.below HB6.out) (by have := HL.out; omega) root d none false (fun _ => rfl) fun hzz => (hz (HZ.out.trans hzz)).elim)
        have hzb := HZB.out
        have e3 : ((z : Int) == z) = true := by simp
        have e4 : ((z : Int) != 0) = true := by simpa using hz
        clear HP0 HP1 HOF HRF
        go_wp2_with fail
        refine HFN.out.mono ?_
        rintro e w7 ⟨rfl, hb7⟩
        have HE := hid (HTRUE.out _ (HB6.out.trans (hb7.mono HB6.out.size)))
        clear hb7
        go_wp2_with fail
        exact HE.out
end Go.Proofs.YtbcpeckmnmhfhaaGreat
