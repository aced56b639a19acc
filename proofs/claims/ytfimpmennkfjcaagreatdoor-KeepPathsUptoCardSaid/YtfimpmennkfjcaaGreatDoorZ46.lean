/- darninglaw19.KeepPaths returns true. Paths of bulk at most 2^39. -/
import Derived.Test.YtfimpmennkfjcaaGreatDoorZ18
import Derived.Test.YtfimpmennkfjcaaGreatDoorZ40
import Derived.Test.YtfimpmennkfjcaaGreatDoorZ42
import Derived.Test.YtfimpmennkfjcaaGreatDoorZ43
import Derived.Test.YtfimpmennkfjcaaGreatDoorZ44
import Derived.Test.YtfimpmennkfjcaaGreatDoorZ45
import Derived.Deep.CutBlock
import Derived.Deep.CutRange
namespace Go.Proofs.YtfimpmennkfjcaaGreatDoor
open Go.RowKit
/-- the first code that is none -/
def orC (a b : Nat) : Nat := if a = 0 then b else a
theorem orC_zero {a b : Nat} : orC a b = 0 ↔ a = 0 ∧ b = 0 := by
  unfold orC
  by_cases h : a = 0
  · rw [if_pos h]; exact ⟨fun hb => ⟨h, hb⟩, fun hb => hb.2⟩
  · rw [if_neg h]; exact ⟨fun hb => absurd hb h, fun hb => hb.1⟩
theorem orC_lt {a b n : Nat} (ha : a < n) (hb : b < n) : orC a b < n := by
  unfold orC
  split
  · exact hb
  · exact ha
/-- the code of what is asked by paths -/
def pathsCode1 (s : List Mes) (root d : Int) (ps : List (List UInt8)) : Nat := orC (argsCode s root d) (makeC s root ps).1
def pathsCode (s : List Mes) (root d : Int) (b : List UInt8) (ps : List (List UInt8)) : Nat := orC (pathsCode1 s root d ps) (vcheck s root b d).2
theorem code_ok {s : List Mes} {root d : Int} {b : List UInt8} {ps : List (List UInt8)} (h : pathsCode s root d b ps = 0) : argsCode s root d = 0 ∧ (makeC s root ps).1 = 0 ∧ (vcheck s root b d).2 = 0 := by
  unfold pathsCode pathsCode1 at h
  obtain ⟨h1, h3⟩ := orC_zero.1 h
  obtain ⟨h1, h2⟩ := orC_zero.1 h1
  exact ⟨h1, h2, h3⟩
theorem named_by_code (s : List Mes) (root d : Int) (b : List UInt8) (ps : List (List UInt8)) (keep : Bool) :
    namedC s root d b ps keep = if pathsCode s root d b ps ≠ 0 then (pathsCode s root d b ps, []) else (0, kpart s keep d.toNat root.toNat (makeC s root ps).2 b) := by
  unfold namedC
  by_cases h1 : argsCode s root d = 0
  · rw [if_neg (fun h => h h1)]
    by_cases h2 : (makeC s root ps).1 = 0
    · rw [if_neg (fun h => h h2)]
      obtain ⟨-, -, a, -, h5⟩ := make_ok h2
      obtain ⟨l, hp, -⟩ := names_law h5
      have hc : pathsCode s root d b ps = (vcheck s root b d).2 := by unfold pathsCode pathsCode1 orC; rw [h1, h2]; rfl
      rw [hc]
      unfold partsC
      by_cases h6 : (vcheck s root b d).2 = 0
      · rw [if_neg (fun h => h h6), h5]
        simp only
        rw [hp, if_neg (fun h => h rfl), if_neg (fun h => h h6), mOf_self]
      · rw [if_pos h6, if_pos h6]
    · have hc : pathsCode s root d b ps = (makeC s root ps).1 := by unfold pathsCode pathsCode1 orC; rw [h1, if_pos rfl, if_neg h2]
      rw [if_pos h2, hc, if_pos h2]
  · have hc : pathsCode s root d b ps = argsCode s root d := by unfold pathsCode pathsCode1 orC; rw [if_neg h1, if_neg h1]
    rw [if_pos h1, hc, if_pos h1]
theorem maskArgs_lt (s : List Mes) (root : Int) : maskArgs s root < 256 := by
  rcases maskArgs_cases s root with e | e | e
  · omega
  · omega
  · omega
theorem make_code (s : List Mes) (root : Int) (ps : List (List UInt8)) : (makeC s root ps).1 < 256 := by
  unfold makeC
  split
  · exact maskArgs_lt s root
  · split
    · show 13 < 256; decide
    · split
      · show 0 < 256; decide
      · show 10 < 256; decide
theorem resolve_code (s : List Mes) (root : Int) (p : List UInt8) : (resolveC s root p).1 < 256 := by
  unfold resolveC
  split
  · exact maskArgs_lt s root
  · split
    · show 0 < 256; decide
    · show 10 < 256; decide
theorem args_code (s : List Mes) (root d : Int) : argsCode s root d < 256 := by have := args_cases s root d; omega
theorem pathsCode_lt (s : List Mes) (root d : Int) (b : List UInt8) (ps : List (List UInt8)) : pathsCode s root d b ps < 256 ∧ pathsCode1 s root d ps < 256 :=
  ⟨orC_lt (orC_lt (args_code s root d) (make_code s root ps)) (vcheck_code s root b d), orC_lt (args_code s root d) (make_code s root ps)⟩
/-- the code of a path that is asked for -/
def hasCode1 (s : List Mes) (root d : Int) (p : List UInt8) : Nat := orC (argsCode s root d) (resolveC s root p).1
theorem has_by_code (s : List Mes) (root d : Int) (b p : List UInt8) :
    hasC s root d b p = (orC (hasCode1 s root d p) (vcheck s root b d).2, if orC (hasCode1 s root d p) (vcheck s root b d).2 = 0 then wayHas s (resolveC s root p).2 root.toNat b else false) := by
  unfold hasC hasCode1
  by_cases h1 : argsCode s root d = 0
  · rw [if_neg (fun h => h h1)]
    by_cases h2 : (resolveC s root p).1 = 0
    · rw [if_neg (fun h => h h2)]
      have hc : orC (orC (argsCode s root d) (resolveC s root p).1) (vcheck s root b d).2 = (vcheck s root b d).2 := by unfold orC; rw [h1, h2]; rfl
      rw [hc]
      by_cases h6 : (vcheck s root b d).2 = 0
      · rw [if_neg (fun h => h h6), if_pos h6, h6]
      · rw [if_pos h6, if_neg h6]
    · have hc : orC (orC (argsCode s root d) (resolveC s root p).1) (vcheck s root b d).2 = (resolveC s root p).1 := by unfold orC; rw [h1, if_pos rfl, if_neg h2]
      rw [if_pos h2, hc, if_neg h2]
  · have hc : orC (orC (argsCode s root d) (resolveC s root p).1) (vcheck s root b d).2 = argsCode s root d := by unfold orC; rw [if_neg h1, if_neg h1]
    rw [if_pos h1, hc, if_neg h1]
theorem twt_memP {l : List (List UInt8)} {t : List UInt8} (h : t ∈ l) : t.length < twt l := by
  have h1 := mem_sum_le (fun t : List UInt8 => 1 + t.length) l t h
  unfold twt
  omega
set_option maxRecDepth 100000 in
set_option maxHeartbeats 8000000 in
theorem law19_KeepPaths {w : World} {sv bv pv : Value} {s : List Mes} {b : List UInt8} {ps : List (List UInt8)} (hS : SchemaAt w sv s) (hb : Bytes w bv b) (hP : StrsAt w pv ps) (hp : twt ps ≤ 549755813888) (root d : Int) :
    Calls Tryz.prog 5 #[sv, .int .i64 root, bv, .int .i64 d, pv] w fun e w' => e = .returned (.bool true) ∧ Below w.heap.size w w' := by
  have HS := hid hS
  have HB := hid hb
  have HP := hid hP
  have HPW := hid hp
  have HPL : Hid (∀ t ∈ ps, t.length ≤ 549755813888) := fun t ht => by have := twt_memP ht; omega
  obtain ⟨-, sa, sc, rfl, -⟩ := hS.open
  obtain ⟨-, a, c, rfl, -⟩ := hb.open
  obtain ⟨-, pa, pc, rfl, -, hpat⟩ := hP.open
  obtain ⟨sn, HSN⟩ : ∃ n, Hid (n = s.length) := ⟨_, rfl⟩
  obtain ⟨n, HN⟩ : ∃ n, Hid (n = b.length) := ⟨_, rfl⟩
  obtain ⟨pn, HPN⟩ : ∃ n, Hid (n = ps.length) := ⟨_, rfl⟩
  have hpn : pn ≤ 140737488355328 := by rw [HPN.out]; exact hP.open.1
  rw [← HSN.out] at HS ⊢
  rw [← HN.out] at HB ⊢
  rw [← HPN.out] at HP ⊢
  have HPAT := hid hpat
  obtain ⟨R, HR⟩ : ∃ R : Ending → World → Prop, Hid (R = fun e w' => e = .returned (.bool true) ∧ Below w.heap.size w w') := ⟨_, rfl⟩
  rw [← HR.out]
  have HTRUE : Hid (∀ w', Below w.heap.size w w' → R (.returned (.bool true)) w') := fun w' hb => by rw [HR.out]; exact ⟨rfl, hb⟩
  obtain ⟨lp, HLP⟩ : ∃ y, Hid (y = decide (6000 < twt ps)) := ⟨_, rfl⟩
  clear hS hb hP hp HR hpat
  go_enter Tryz.func5, Tryz.ntmps5
  go_wp2_with fail
  refine (law19_alive _).mono ?_
  rintro e w1 ⟨rfl, hb1⟩
  have HB1 := hid hb1
  clear hb1
  go_wp2_with fail
  refine (law07_Few (HS.out.keep (below_keeps HB1.out))).mono ?_
  rintro e w2 ⟨⟨fw, rfl⟩, hb2⟩
  have HB2 := hid (HB1.out.trans (hb2.mono HB1.out.size))
  clear hb2
  cases fw with
  | false =>
    go_wp2_with fail
    exact HTRUE.out _ HB2.out
  | true =>
    by_cases hlong : (1500 : Int) < n
    · go_wp2_with fail
      exact HTRUE.out _ HB2.out
    · have HL1 := hid (law12_Long (HP.out.keep (below_keeps HB2.out)) (by have := HPW.out; omega))
      rw [← HLP.out] at HL1
      go_wp2_with fail
      refine HL1.out.mono ?_
      rintro e w3 ⟨rfl, rfl⟩
      cases lp with
      | true =>
        go_wp2_with fail
        exact HTRUE.out _ HB2.out
      | false =>
        have HBL : Hid (b.length ≤ 1500) := by have := HN.out; show _ ≤ _; omega
        have HPL2 : Hid (∀ t ∈ ps, t.length ≤ 1099511627776) := fun t ht => by have := HPL.out t ht; omega
        obtain ⟨cc, HCC⟩ : ∃ cc, Hid (cc = pathsCode s root d b ps) := ⟨_, rfl⟩
        obtain ⟨c1, HC1⟩ : ∃ cc, Hid (cc = pathsCode1 s root d ps) := ⟨_, rfl⟩
        obtain ⟨Y, HY⟩ : ∃ Y, Hid (Y = if cc ≠ 0 then [] else kpart s true d.toNat root.toNat (makeC s root ps).2 b) := ⟨_, rfl⟩
        obtain ⟨Z, HZ⟩ : ∃ Y, Hid (Y = if cc ≠ 0 then [] else kpart s false d.toNat root.toNat (makeC s root ps).2 b) := ⟨_, rfl⟩
        have hny : namedC s root d b ps true = (cc, Y) := by
          rw [named_by_code, ← HCC.out, HY.out]
          by_cases h : cc = 0
          · rw [if_neg (by omega), if_neg (by omega), h]
          · rw [if_pos h, if_pos h]
        have hnz : namedC s root d b ps false = (cc, Z) := by
          rw [named_by_code, ← HCC.out, HZ.out]
          by_cases h : cc = 0
          · rw [if_neg (by omega), if_neg (by omega), h]
          · rw [if_pos h, if_pos h]
        have HCB : Hid (cc < 256 ∧ c1 < 256) := by rw [HCC.out, HC1.out]; exact pathsCode_lt s root d b ps
        have HYL : Hid (Y.length ≤ 1500 ∧ Z.length ≤ 1500) := by
          have hb := HBL.out
          constructor
          · rw [HY.out]
            by_cases h : cc = 0
            · rw [if_neg (by omega)]
              have hv := (vcheck_ok (code_ok (HCC.out.symm.trans h)).2.2).2.2.2
              have := kpart_le (keep := true) (ws := (makeC s root ps).2) hv
              omega
            · rw [if_pos h]; simp
          · rw [HZ.out]
            by_cases h : cc = 0
            · rw [if_neg (by omega)]
              have hv := (vcheck_ok (code_ok (HCC.out.symm.trans h)).2.2).2.2.2
              have := kpart_le (keep := false) (ws := (makeC s root ps).2) hv
              omega
            · rw [if_pos h]; simp
        have HW1 := hid (keep_Paths (HS.out.below HB2.out) (HB.out.below HB2.out) (by have := HBL.out; omega) (HP.out.keep (below_keeps HB2.out)) HPL2.out root d)
        rw [hny] at HW1
        have HW2 : Hid (∀ W, Below w.heap.size w W → Calls Tryz.prog 10 #[.slice sa sn sc, .int .i64 root, .slice a n c, .int .i64 d, .slice pa pn pc] W (KPost W (cc, Z))) := fun W hW => by
          have := keep_Without (HS.out.below hW) (HB.out.below hW) (by have := HBL.out; omega) (HP.out.keep (below_keeps hW)) HPL2.out root d
          rwa [hnz] at this
        unfold KPost at HW1 HW2
        simp only at HW1 HW2
        clear hny hnz HL1
        go_wp2_with fail
        refine HW1.out.mono ?_
        rintro e w3 ⟨v3, rfl, hO3, hb3⟩
        obtain ⟨xa, xc, rfl⟩ := hO3.form
        obtain ⟨yn, HYN⟩ : ∃ n, Hid (n = Y.length) := ⟨_, rfl⟩
        have HX3 := hid (hO3.bytes (by have := HYL.out.1; omega))
        rw [← HYN.out] at HX3 ⊢
        have HB3 := hid (HB2.out.trans (hb3.mono HB2.out.size))
        clear hO3 hb3 HW1
        go_wp2_with fail
        refine (HW2.out _ HB3.out).mono ?_
        rintro e w4 ⟨v4, rfl, hO4, hb4⟩
        obtain ⟨za, zc, rfl⟩ := hO4.form
        obtain ⟨zn, HZN⟩ : ∃ n, Hid (n = Z.length) := ⟨_, rfl⟩
        have HX4 := hid (And.intro (HX3.out.below hb4) (hO4.bytes (by have := HYL.out.2; omega)))
        rw [← HZN.out] at HX4 ⊢
        have HB4 := hid (HB3.out.trans (hb4.mono HB3.out.size))
        have HAR : Hid (∀ W, Below w.heap.size w W → Calls Tryz.prog 23 #[.slice sa sn sc, .int .i64 root, .int .i64 d] W fun e w' => e = .returned (.int .i64 (argsCode s root d : Nat)) ∧ Below W.heap.size W w') := fun W hW => ref11_Args (HS.out.below hW) root d
        obtain ⟨c0, HC0⟩ : ∃ c0, Hid (c0 = argsCode s root d) := ⟨_, rfl⟩
        rw [← HC0.out] at HAR
        have HMK : Hid (∀ W, Below w.heap.size w W → Calls Tryz.prog 24 #[.slice sa sn sc, .int .i64 root, .slice pa pn pc] W (RMakePost W (makeC s root ps))) := fun W hW => ref13_Make (HS.out.below hW) root (HP.out.keep (below_keeps hW)) HPL.out
        unfold RMakePost at HMK
        obtain ⟨cm, HCM⟩ : ∃ c0, Hid (c0 = (makeC s root ps).1) := ⟨_, rfl⟩
        obtain ⟨mk, HMKW⟩ : ∃ c0, Hid (c0 = (makeC s root ps).2) := ⟨_, rfl⟩
        rw [← HCM.out, ← HMKW.out] at HMK
        have HCK : Hid (∀ W, Below w.heap.size w W → Calls Tryz.prog 15 #[.slice sa sn sc, .int .i64 root, .slice a n c, .int .i64 d] W fun e w' => e = .returned (.tuple #[.int .i64 ((vcheck s root b d).1 : Nat), .int .i64 ((vcheck s root b d).2 : Nat)]) ∧ Below W.heap.size W w') := fun W hW => ref11_Check (HS.out.below hW) (HB.out.below hW) (by have := HBL.out; omega) root d
        obtain ⟨p1, HP1⟩ : ∃ c0, Hid (c0 = (vcheck s root b d).1) := ⟨_, rfl⟩
        obtain ⟨p2, HP2⟩ : ∃ c0, Hid (c0 = (vcheck s root b d).2) := ⟨_, rfl⟩
        rw [← HP1.out, ← HP2.out] at HCK
        have HC1E : Hid (c1 = if c0 = 0 then cm else c0) := by rw [Hid, HC1.out, pathsCode1, HC0.out, HCM.out]; rfl
        have HCCE : Hid (cc = if c1 = 0 then p2 else c1) := by rw [Hid, HCC.out, pathsCode, ← HC1.out, HP2.out]; rfl
        clear hO4 hb4 HW2 HX3
        go_wp2_with fail
        refine (HAR.out _ HB4.out).mono ?_
        rintro e w5 ⟨rfl, hb5⟩
        have HB5 := hid (HB4.out.trans (hb5.mono HB4.out.size))
        have HX5 := hid (And.intro (HX4.out.1.below hb5) (HX4.out.2.below hb5))
        clear hb5
        go_upto_if 61 with fail
        obtain ⟨W5, HW5⟩ : ∃ W, Hid (W = w5.alloc (.cells #[] 56)) := ⟨_, rfl⟩
        have hb55 : Below w5.heap.size w5 W5 := by rw [HW5.out]; exact (Below.refl _ _).alloc (Nat.le_refl _) _
        have HB55 := hid (HB5.out.trans (hb55.mono HB5.out.size))
        have HX55 := hid (And.intro (HX5.out.1.below hb55) (HX5.out.2.below hb55))
        rw [← HW5.out]
        obtain ⟨v160, HV160⟩ : ∃ v, Hid (v = Value.slice (some ⟨w5.heap.size, 0, none⟩) 0 0) := ⟨_, rfl⟩
        rw [← HV160.out]
        clear hb55 HX5 HX4 HB5
        go_cut [15, 16, 17] (fun s15 s16 _ wx => ∃ v16, s15 = .int .i64 (c1 : Nat) ∧ s16 = v16 ∧ Hid (Below W5.heap.size W5 wx ∧ (c1 = 0 → WaysAt wx v16 mk)))
        case first =>
          clear HTRUE HPAT HCK HCCE HCC HYL HY HZ HX55 HBL
          by_cases hc0 : c0 = 0
          · have HE1 : Hid (c1 = cm) := by rw [Hid, HC1E.out, if_pos hc0]
            subst hc0
            go_wp2_with fail
            refine (HMK.out _ HB55.out).mono ?_
            rintro e w6 ⟨v6, rfl, hM6, hb6⟩
            have HR6 : Hid (Below W5.heap.size W5 w6 ∧ (c1 = 0 → WaysAt w6 v6 mk)) := ⟨hb6, fun _ => hM6⟩
            clear hM6 hb6
            go_wp2_with fail
            go_meet
            case rel => exact ⟨v6, by rw [HE1.out], rfl, HR6.out⟩
          · have HE1 : Hid (c1 = c0) := by rw [Hid, HC1E.out, if_neg hc0]
            have e1 : ((c0 : Int) == 0) = false := by simpa using hc0
            go_wp2_with fail
            go_meet
            case rel => exact ⟨v160, by rw [HE1.out], rfl, Below.refl _ _, fun h => absurd (HE1.out.symm.trans h) hc0⟩
        case rest =>
          obtain ⟨v16, rfl, rfl, HK⟩ := hcut
          have HBc := hid (HB55.out.trans (HK.out.1.mono HB55.out.size))
          go_upto_if 71 with fail
          go_cut [15] (fun s15 wx => s15 = .int .i64 (cc : Nat) ∧ Hid (Below wc.heap.size wc wx))
          case first =>
            clear HTRUE HPAT HMK HC1E HCC HYL HY HZ HX55 HBL
            by_cases hc1 : c1 = 0
            · have HE2 : Hid (cc = p2) := by rw [Hid, HCCE.out, if_pos hc1]
              subst hc1
              go_wp2_with fail
              refine (HCK.out _ HBc.out).mono ?_
              rintro e w6 ⟨rfl, hb6⟩
              have HB6 := hid hb6
              clear hb6
              go_wp2_with fail
              go_meet
              case rel => exact ⟨by rw [HE2.out], HB6.out⟩
            · have HE2 : Hid (cc = c1) := by rw [Hid, HCCE.out, if_neg hc1]
              have e1 : ((c1 : Int) == 0) = false := by simpa using hc1
              go_wp2_with fail
              go_meet
              case rel => exact ⟨by rw [HE2.out], Below.refl _ _⟩
          case rest =>
            obtain ⟨rfl, HD⟩ := hcut
            have HBd := hid (HBc.out.trans (HD.out.mono HBc.out.size))
            have HXd := hid (And.intro ((HX55.out.1.below HK.out.1).below HD.out) ((HX55.out.2.below HK.out.1).below HD.out))
            have HMd := hid (fun h => (HK.out.2 h).below HD.out)
            clear HX55 HAR HMK HCK HC1E HCCE HK HC0 HCM HP1 HP2 HPL2
            go_upto_if 81 with fail
            have HHAS := hid (And.intro hpn (And.intro HP.out HPL.out))
            clear hlong HLP HB1 HB2 HB3 HB4 HB55 HBc HD HPW
            go_cut [] (fun wx => Hid (Below wc.heap.size wc wx))
            case first =>
              clear HTRUE HPAT HPL HP HHAS hpn
              have hcb := HCB.out.1
              by_cases hcc : cc = 0
              · obtain ⟨g1, g2, g3⟩ := code_ok (HCC.out.symm.trans hcc)
                obtain ⟨q1, ⟨q2, q3⟩, ⟨q4, q5⟩, q6⟩ := vcheck_ok g3
                obtain ⟨r, rfl⟩ : ∃ r : Nat, root = r := ⟨root.toNat, by omega⟩
                rw [Int.toNat_natCast] at q6
                have HYE : Hid (Y = kpart s true d.toNat r mk b) := by rw [Hid, HY.out, if_neg (fun h => h hcc), HMKW.out, Int.toNat_natCast]
                have HZE : Hid (Z = kpart s false d.toNat r mk b) := by rw [Hid, HZ.out, if_neg (fun h => h hcc), HMKW.out, Int.toNat_natCast]
                have HC10 : Hid (c1 = 0) := by
                  rw [Hid, HC1.out]
                  unfold pathsCode1
                  exact orC_zero.2 ⟨g1, g2⟩
                have hmk := make_light g2
                rw [← HMKW.out] at hmk
                have HW16 := hid (HMd.out HC10.out)
                obtain ⟨-, ka, kc, rfl, -, -⟩ := HW16.out.open
                have HPT : Hid (∀ (k : Bool) W, Below wc.heap.size wc W → Calls Tryz.prog 17 #[.slice sa sn sc, .int .i64 (r : Int), .slice a n c, .slice ka mk.length kc, .bool k] W fun e w' => ∃ v', e = .returned v' ∧ Own w' W.heap.size v' (kpart s k d.toNat r mk b) ∧ Below W.heap.size W w') := by
                  intro k W hW
                  have hW' := HBd.out.trans (hW.mono HBd.out.size)
                  exact ref19_Part q1 HS.out k d.toNat r W _ _ b mk (by omega) hW' (HB.out.below hW') (by have := HBL.out; omega) (HW16.out.below hW) hmk.1 q6
                have HYL' := hid HYL.out
                subst hcc
                clear g1 g2 g3 q1 q2 q3 q4 q5 q6 hmk HC1 HCC HY HZ HCB HS HB HMd HMKW HC10 HW16 HBL
                go_wp2_with fail
                refine (HPT.out true _ (Below.refl _ _)).mono ?_
                rintro e w8 ⟨v8, rfl, hO8, hb8⟩
                rw [← HYE.out] at hO8
                obtain ⟨pa8, pc8, rfl⟩ := hO8.form
                have hP8 := hO8.bytes (by have := HYL'.out.1; omega)
                rw [← HYN.out] at hP8 ⊢
                have hsm1 := ref01_Same (HXd.out.1.below hb8) hP8
                rw [show decide (Y = Y) = true from decide_eq_true rfl] at hsm1
                have HSM1 := hid hsm1
                have HB8 := hid hb8
                clear hO8 hb8 hP8 hsm1
                go_wp2_with fail
                refine HSM1.out.mono ?_
                rintro e w9 ⟨rfl, rfl⟩
                go_wp2_with fail
                refine (HPT.out false _ HB8.out).mono ?_
                rintro e w9 ⟨v9, rfl, hO9, hb9⟩
                rw [← HZE.out] at hO9
                obtain ⟨pa9, pc9, rfl⟩ := hO9.form
                have hP9 := hO9.bytes (by have := HYL'.out.2; omega)
                rw [← HZN.out] at hP9 ⊢
                have HB9 := hid (HB8.out.trans (hb9.mono HB8.out.size))
                have hsm2 := ref01_Same (HXd.out.2.below HB9.out) hP9
                rw [show decide (Z = Z) = true from decide_eq_true rfl] at hsm2
                have HSM2 := hid hsm2
                clear hO9 hb9 hP9 hsm2
                go_wp2_with fail
                refine HSM2.out.mono ?_
                rintro e w10 ⟨rfl, rfl⟩
                go_wp2_with fail
                go_meet
                case rel => exact HB9.out
              · have hY : Y = [] := by rw [HY.out, if_pos hcc]
                have hZ : Z = [] := by rw [HZ.out, if_pos hcc]
                obtain rfl : yn = 0 := by rw [HYN.out, hY]; rfl
                obtain rfl : zn = 0 := by rw [HZN.out, hZ]; rfl
                have e1 : ((cc : Int) == 0) = false := by simpa using hcc
                have e2 : ((cc : Int) != 0) = true := by simpa using hcc
                clear hY hZ hcc HY HZ HMd HXd HS HB HC1 HCC
                go_wp2_with fail
                go_meet
                case rel => exact Below.refl _ _
            case rest =>
              have HBe := hid (HBd.out.trans (hcut.out.mono HBd.out.size))
              clear HXd HMd HY HZ HYN HZN HYL HC1 HCB HMKW
              go_wp2_with fail
              go_loopw [18, 19, 20, 21, 22] (fun v18 _ _ _ _ wr => ∃ i : Nat, v18 = .int .i64 (i : Int) ∧ i ≤ pn ∧ Hid (Below wc.heap.size wc wr)) (fun v18 _ _ _ _ _ => pn - (intOf v18).toNat)
              case atStart => exact ⟨0, rfl, by omega, Below.refl _ _⟩
              case round =>
                obtain ⟨i, rfl, hi, HJ⟩ := hrel
                have HBr := hid (HBe.out.trans (HJ.out.mono HBe.out.size))
                by_cases hlt : i < pn
                · by_cases h4 : i < 4
                  · obtain ⟨p, hp⟩ : ∃ p, ps[i]? = some p := ⟨_, List.getElem?_eq_getElem (by rw [← HPN.out]; exact hlt)⟩
                    obtain ⟨-, pb, po, hpa, hpc⟩ := HPAT.out i p hp
                    subst hpa
                    have hpl := HPL.out p (List.mem_of_getElem? hp)
                    have HPLP := hid hpl
                    have g0 := below_keeps HBr.out _ _ hpc
                    have hix := index_run1 Tryz.underlying25 size_strp1 (a := some ⟨pb, po, none⟩) rfl i hlt (cap := pc)
                    have hgl := World.block_lt_of_cell? wr _ g0
                    have hrc := resolve_code s root p
                    have hac := args_code s root d
                    have hvc := vcheck_code s root b d
                    have HKH := hid (keep_Has (HS.out.below HBr.out) (HB.out.below HBr.out) (by have := HBL.out; omega) hpl root d)
                    rw [has_by_code] at HKH
                    unfold hasCode1 at HKH
                    have HRR : Hid (∀ W, Below w.heap.size w W → Calls Tryz.prog 26 #[.slice sa sn sc, .int .i64 root, strV p] W (RResolvePost W (resolveC s root p))) := fun W hW => ref13_Resolve (HS.out.below hW) root p HPLP.out
                    unfold RResolvePost at HRR
                    have HAR : Hid (∀ W, Below w.heap.size w W → Calls Tryz.prog 23 #[.slice sa sn sc, .int .i64 root, .int .i64 d] W fun e w' => e = .returned (.int .i64 (argsCode s root d : Nat)) ∧ Below W.heap.size W w') := fun W hW => ref11_Args (HS.out.below hW) root d
                    have HCK : Hid (∀ W, Below w.heap.size w W → Calls Tryz.prog 15 #[.slice sa sn sc, .int .i64 root, .slice a n c, .int .i64 d] W fun e w' => e = .returned (.tuple #[.int .i64 ((vcheck s root b d).1 : Nat), .int .i64 ((vcheck s root b d).2 : Nat)]) ∧ Below W.heap.size W w') := fun W hW => ref11_Check (HS.out.below hW) (HB.out.below hW) (by have := HBL.out; omega) root d
                    obtain ⟨e0, HE0⟩ : ∃ c0, Hid (c0 = argsCode s root d) := ⟨_, rfl⟩
                    obtain ⟨e1, HE1⟩ : ∃ c0, Hid (c0 = (resolveC s root p).1) := ⟨_, rfl⟩
                    obtain ⟨way, HWY⟩ : ∃ c0, Hid (c0 = (resolveC s root p).2) := ⟨_, rfl⟩
                    obtain ⟨e2, HE2⟩ : ∃ c0, Hid (c0 = (vcheck s root b d).2) := ⟨_, rfl⟩
                    obtain ⟨e3, HE3⟩ : ∃ c0, Hid (c0 = (vcheck s root b d).1) := ⟨_, rfl⟩
                    rw [← HE0.out, ← HE1.out, ← HE2.out, ← HWY.out] at HKH
                    rw [← HE0.out] at HAR hac
                    rw [← HE1.out, ← HWY.out] at HRR
                    rw [← HE1.out] at hrc
                    rw [← HE2.out, ← HE3.out] at HCK
                    rw [← HE2.out] at hvc
                    obtain ⟨pv, HPV⟩ : ∃ pv, Hid (pv = (⟨p.toArray⟩ : ByteArray)) := ⟨_, rfl⟩
                    unfold strV at HKH HRR g0
                    rw [← HPV.out] at HKH HRR g0
                    have HG0 : Hid (∀ V, Below w.heap.size w V → V.cell? ⟨pb, po + i, none⟩ = some (.string pv) ∧ pb < V.heap.size) := fun V hV => by
                      have h := below_keeps hV _ _ hpc
                      unfold strV at h
                      rw [← HPV.out] at h
                      exact ⟨h, World.block_lt_of_cell? V _ h⟩
                    have HNX : Hid (∀ V, Below wr.heap.size wr V → Below wc.heap.size wc V) := fun V hV => HJ.out.trans (hV.mono HJ.out.size)
                    clear hp hpc hpl HTRUE HPAT HPL HP
                    by_cases h0 : e0 = 0
                    · subst h0
                      by_cases h1 : e1 = 0
                      · obtain ⟨g1, g2, g3, g5, g6⟩ := resolve_ok HS.out (HE1.out.symm.trans h1)
                        rw [← HWY.out] at g2 g3 g5 g6
                        subst h1
                        by_cases h2 : e2 = 0
                        · obtain ⟨-, ⟨q2, q3⟩, -, q6⟩ := vcheck_ok (HE2.out.symm.trans h2)
                          obtain ⟨r, rfl⟩ : ∃ r : Nat, root = r := ⟨root.toNat, by omega⟩
                          rw [Int.toNat_natCast] at q6
                          subst h2
                          have hko : orC (orC 0 0) 0 = 0 := rfl
                          rw [hko, if_pos rfl, Int.toNat_natCast] at HKH
                          obtain ⟨W, HW⟩ : ∃ W, Hid (W = wayHas s way r b) := ⟨_, rfl⟩
                          rw [← HW.out] at HKH
                          have HRH : Hid (∀ (V : World) (wv : Value), Below w.heap.size w V → IntsAt V wv way → Calls Tryz.prog 27 #[.slice sa sn sc, .int .i64 (r : Int), .slice a n c, wv] V fun e w' => e = .returned (.bool W) ∧ Below V.heap.size V w') := by
                            intro V wv hV hI
                            rw [HW.out]
                            exact ref19_Has g1 HS.out way g3 r d.toNat V _ _ b (by omega) hV (HB.out.below hV) (by have := HBL.out; omega) hI g2 q6
                          have HG := hid (And.intro g5 g6)
                          clear g1 g2 g3 g5 g6 q2 q3 q6 hko
                          clear HE0 HE1 HE2 HE3 HWY HPV HHAS HPLP HBL HSN HN HPN HB HS
                          go_wp2_with fail
                          refine HKH.out.mono ?_
                          rintro e w6 ⟨rfl, hb6⟩
                          have HB6 := hid (And.intro (HBr.out.trans (hb6.mono HBr.out.size)) hb6)
                          clear hb6 g0 hgl
                          go_wp2_with fail
                          refine (HAR.out _ HB6.out.1).mono ?_
                          rintro e w7 ⟨rfl, hb7⟩
                          have HB7 := hid (And.intro (HB6.out.1.trans (hb7.mono HB6.out.1.size)) (HB6.out.2.trans (hb7.mono HB6.out.2.size)))
                          clear hb7
                          obtain ⟨g0, hgl⟩ := HG0.out _ HB7.out.1
                          go_wp2_with fail
                          refine (HRR.out _ HB7.out.1).mono ?_
                          rintro e w8 ⟨v8, rfl, hI8, hb8⟩
                          obtain ⟨i8a, i8c, rfl⟩ := hI8.form
                          have HI8 := hid hI8
                          have HB8 := hid (And.intro (HB7.out.1.trans (hb8.mono HB7.out.1.size)) (HB7.out.2.trans (hb8.mono HB7.out.2.size)))
                          clear hb8 hI8 g0 hgl
                          go_wp2_with fail
                          refine (HCK.out _ HB8.out.1).mono ?_
                          rintro e w9 ⟨rfl, hb9⟩
                          have HB9 := hid (And.intro (HB8.out.1.trans (hb9.mono HB8.out.1.size)) (HB8.out.2.trans (hb9.mono HB8.out.2.size)))
                          have HI9 := hid ((HI8.out.later hb9).ints (by have := HG.out.1; omega) HG.out.2)
                          clear hb9
                          go_wp2_with fail
                          refine (HRH.out _ _ HB9.out.1 HI9.out).mono ?_
                          rintro e w10 ⟨rfl, hb10⟩
                          have HB10 := hid (And.intro (HB9.out.1.trans (hb10.mono HB9.out.1.size)) (HB9.out.2.trans (hb10.mono HB9.out.2.size)))
                          clear hb10
                          cases W
                          all_goals
                            go_wp2_with fail
                            go_roundw
                            case rel => exact ⟨i + 1, by go_num, hlt, HNX.out _ HB10.out.2⟩
                            case measure => simp [intOf]; omega
                        · have hko : orC (orC 0 0) e2 = e2 := rfl
                          rw [hko, if_neg h2] at HKH
                          have k1 : ((e2 : Int) == 0) = false := by simpa using h2
                          have k2 : ((e2 : Int) != 0) = true := by simpa using h2
                          clear g1 g2 g3 g5 g6 hko h2
                          clear HE0 HE1 HE2 HE3 HWY HPV HHAS HPLP HBL HSN HN HPN HB HS
                          go_wp2_with fail
                          refine HKH.out.mono ?_
                          rintro e w6 ⟨rfl, hb6⟩
                          have HB6 := hid (And.intro (HBr.out.trans (hb6.mono HBr.out.size)) hb6)
                          clear hb6 g0 hgl
                          go_wp2_with fail
                          refine (HAR.out _ HB6.out.1).mono ?_
                          rintro e w7 ⟨rfl, hb7⟩
                          have HB7 := hid (And.intro (HB6.out.1.trans (hb7.mono HB6.out.1.size)) (HB6.out.2.trans (hb7.mono HB6.out.2.size)))
                          clear hb7
                          obtain ⟨g0, hgl⟩ := HG0.out _ HB7.out.1
                          go_wp2_with fail
                          refine (HRR.out _ HB7.out.1).mono ?_
                          rintro e w8 ⟨v8, rfl, hI8, hb8⟩
                          obtain ⟨i8a, i8c, rfl⟩ := hI8.form
                          have HI8 := hid hI8
                          have HB8 := hid (And.intro (HB7.out.1.trans (hb8.mono HB7.out.1.size)) (HB7.out.2.trans (hb8.mono HB7.out.2.size)))
                          clear hb8 hI8 g0 hgl
                          go_wp2_with fail
                          refine (HCK.out _ HB8.out.1).mono ?_
                          rintro e w9 ⟨rfl, hb9⟩
                          have HB9 := hid (And.intro (HB8.out.1.trans (hb9.mono HB8.out.1.size)) (HB8.out.2.trans (hb9.mono HB8.out.2.size)))
                          clear hb9
                          go_wp2_with fail
                          go_roundw
                          case rel => exact ⟨i + 1, by go_num, hlt, HNX.out _ HB9.out.2⟩
                          case measure => simp [intOf]; omega
                      · have hko : orC (orC 0 e1) e2 = e1 := by
                          show orC e1 e2 = e1
                          unfold orC; rw [if_neg h1]
                        rw [hko, if_neg h1] at HKH
                        have k1 : ((e1 : Int) == 0) = false := by simpa using h1
                        have k2 : ((e1 : Int) != 0) = true := by simpa using h1
                        clear hko h1
                        clear HE0 HE1 HE2 HE3 HWY HPV HHAS HPLP HBL HSN HN HPN HB HS
                        go_wp2_with fail
                        refine HKH.out.mono ?_
                        rintro e w6 ⟨rfl, hb6⟩
                        have HB6 := hid (And.intro (HBr.out.trans (hb6.mono HBr.out.size)) hb6)
                        clear hb6 g0 hgl
                        go_wp2_with fail
                        refine (HAR.out _ HB6.out.1).mono ?_
                        rintro e w7 ⟨rfl, hb7⟩
                        have HB7 := hid (And.intro (HB6.out.1.trans (hb7.mono HB6.out.1.size)) (HB6.out.2.trans (hb7.mono HB6.out.2.size)))
                        clear hb7
                        obtain ⟨g0, hgl⟩ := HG0.out _ HB7.out.1
                        go_wp2_with fail
                        refine (HRR.out _ HB7.out.1).mono ?_
                        rintro e w8 ⟨v8, rfl, hI8, hb8⟩
                        obtain ⟨i8a, i8c, rfl⟩ := hI8.form
                        have HI8 := hid hI8
                        have HB8 := hid (And.intro (HB7.out.1.trans (hb8.mono HB7.out.1.size)) (HB7.out.2.trans (hb8.mono HB7.out.2.size)))
                        clear hb8 hI8 g0 hgl
                        go_wp2_with fail
                        go_roundw
                        case rel => exact ⟨i + 1, by go_num, hlt, HNX.out _ HB8.out.2⟩
                        case measure => simp [intOf]; omega
                    · have hko : orC (orC e0 e1) e2 = e0 := by
                        unfold orC; rw [if_neg h0, if_neg h0]
                      rw [hko, if_neg h0] at HKH
                      have k1 : ((e0 : Int) == 0) = false := by simpa using h0
                      have k2 : ((e0 : Int) != 0) = true := by simpa using h0
                      clear hko h0
                      clear HE0 HE1 HE2 HE3 HWY HPV HHAS HPLP HBL HSN HN HPN HB HS
                      go_wp2_with fail
                      refine HKH.out.mono ?_
                      rintro e w6 ⟨rfl, hb6⟩
                      have HB6 := hid (And.intro (HBr.out.trans (hb6.mono HBr.out.size)) hb6)
                      clear hb6 g0 hgl
                      go_wp2_with fail
                      refine (HAR.out _ HB6.out.1).mono ?_
                      rintro e w7 ⟨rfl, hb7⟩
                      have HB7 := hid (And.intro (HB6.out.1.trans (hb7.mono HB6.out.1.size)) (HB6.out.2.trans (hb7.mono HB6.out.2.size)))
                      clear hb7
                      go_wp2_with fail
                      go_roundw
                      case rel => exact ⟨i + 1, by go_num, hlt, HNX.out _ HB7.out.2⟩
                      case measure => simp [intOf]; omega
                  · go_wp2_with fail
                    exact HTRUE.out _ HBr.out
                · obtain rfl : i = pn := by omega
                  go_wp2_with fail
                  exact HTRUE.out _ HBr.out
end Go.Proofs.YtfimpmennkfjcaaGreatDoor
