/- darninglaw16.CanonEncodes, CanonValues return true. The meaning's weight is at most 2^40. From the form's reading of an argument to this seat's words: []byte, [][]byte, api.Schema. -/
import Derived.Test.YtgephhmkaonahaaZ11
import Derived.Test.YtgephhmkaonahaaZ18
import Derived.Deep.Slices
import Derived.SizedLaws
import Derived.ProofKit
namespace Go.Proofs.Ytgephhmkaonahaa
open Go.RowKit

def s16 : List Mes := [⟨⟨#[109]⟩, [⟨⟨#[97]⟩, 1, 3, true, false, 0⟩]⟩]
def v16 : Val (M 0) := ⟨1, [1, 300], [], []⟩
def x16 : M 1 := (⟨[v16], []⟩ : Msgd (M 0))

set_option maxRecDepth 100000 in
set_option maxHeartbeats 4000000 in
theorem law16_alive (w : World) : Calls Try.prog 17 #[] w fun e w' => e = .returned (.bool true) ∧ Below w.heap.size w w' := by
  have HC : Hid (mayCode s16 0 1 x16 = 0 ∧ encOut s16 0 1 x16 = [10, 3, 1, 172, 2] ∧ mwt 1 x16 ≤ 100) := by
    refine ⟨by decide +kernel, by decide +kernel, by decide +kernel⟩
  have HW : Hid (∀ W, W = ((((w.alloc (.cells #[.string ⟨#[97]⟩, .int .i64 1, .int .i64 3, .bool true, .bool false, .int .i64 0] 58)).alloc (.cells #[.string ⟨#[109]⟩, .slice (some ⟨w.heap.size, 0, none⟩) 1 1] 89)).alloc (.cells #[.int .u64 1, .int .u64 300] 95)).alloc
      (.cells #[.int .i64 1, .slice (some ⟨w.heap.size + 1 + 1, 0, none⟩) 2 2, .slice none 0 0, .slice none 0 0] 62)) →
      SchemaAt W (.slice (some ⟨w.heap.size + 1, 0, none⟩) 1 1) s16 ∧ MsgAt 1 W (.agg #[.slice (some ⟨w.heap.size + 1 + 1 + 1, 0, none⟩) 1 1, .slice none 0 0]) x16 ∧ Below w.heap.size w W) := by
    rintro W rfl
    have b0 := (((Blk.new w [.string ⟨#[97]⟩, .int .i64 1, .int .i64 3, .bool true, .bool false, .int .i64 0] 58).alloc (.cells #[.string ⟨#[109]⟩, .slice (some ⟨w.heap.size, 0, none⟩) 1 1] 89)).alloc (.cells #[.int .u64 1, .int .u64 300] 95)).alloc
      (.cells #[.int .i64 1, .slice (some ⟨w.heap.size + 1 + 1, 0, none⟩) 2 2, .slice none 0 0, .slice none 0 0] 62)
    have b1 := ((Blk.new' (w.alloc (.cells #[.string ⟨#[97]⟩, .int .i64 1, .int .i64 3, .bool true, .bool false, .int .i64 0] 58)) [.string ⟨#[109]⟩, .slice (some ⟨w.heap.size, 0, none⟩) 1 1] 89 (w.heap.size + 1) (by simp)).alloc (.cells #[.int .u64 1, .int .u64 300] 95)).alloc
      (.cells #[.int .i64 1, .slice (some ⟨w.heap.size + 1 + 1, 0, none⟩) 2 2, .slice none 0 0, .slice none 0 0] 62)
    have b2 := (Blk.new' ((w.alloc (.cells #[.string ⟨#[97]⟩, .int .i64 1, .int .i64 3, .bool true, .bool false, .int .i64 0] 58)).alloc (.cells #[.string ⟨#[109]⟩, .slice (some ⟨w.heap.size, 0, none⟩) 1 1] 89)) [.int .u64 1, .int .u64 300] 95 (w.heap.size + 1 + 1) (by simp)).alloc
      (.cells #[.int .i64 1, .slice (some ⟨w.heap.size + 1 + 1, 0, none⟩) 2 2, .slice none 0 0, .slice none 0 0] 62)
    have b3 := Blk.new' (((w.alloc (.cells #[.string ⟨#[97]⟩, .int .i64 1, .int .i64 3, .bool true, .bool false, .int .i64 0] 58)).alloc (.cells #[.string ⟨#[109]⟩, .slice (some ⟨w.heap.size, 0, none⟩) 1 1] 89)).alloc (.cells #[.int .u64 1, .int .u64 300] 95))
      [.int .i64 1, .slice (some ⟨w.heap.size + 1 + 1, 0, none⟩) 2 2, .slice none 0 0, .slice none 0 0] 62 (w.heap.size + 1 + 1 + 1) (by simp)
    refine ⟨?_, ?_, (((((Below.refl w.heap.size w).alloc (Nat.le_refl _) _).alloc (by simp) _).alloc (by simp; omega) _).alloc (by simp; omega) _)⟩
    · exact schema_one b1 (by decide) (fields_blk (fs := [⟨⟨#[97]⟩, 1, 3, true, false, 0⟩]) b0 1 rfl (by omega) (by simp; exact ⟨by decide, by decide, by decide, by decide⟩))
    · exact ⟨_, _, rfl, vals_one (d := 0) (x := v16) b3 ⟨_, _, _, rfl, by decide, words_blk (l := [1, 300]) b2 2 rfl (by omega) (by simp), strs_nil _, rowsAt_nil _ _ _⟩, strs_nil _⟩
  go_enter Try.func17, Try.ntmps17
  go_wp2_with fail
  obtain ⟨hS, hM, hb⟩ := HW.out _ rfl
  obtain ⟨W, HWW⟩ : ∃ W, Hid (W = ((((w.alloc (.cells #[.string ⟨#[97]⟩, .int .i64 1, .int .i64 3, .bool true, .bool false, .int .i64 0] 58)).alloc (.cells #[.string ⟨#[109]⟩, .slice (some ⟨w.heap.size, 0, none⟩) 1 1] 89)).alloc (.cells #[.int .u64 1, .int .u64 300] 95)).alloc
      (.cells #[.int .i64 1, .slice (some ⟨w.heap.size + 1 + 1, 0, none⟩) 2 2, .slice none 0 0, .slice none 0 0] 62))) := ⟨_, rfl⟩
  rw [← HWW.out] at hS hM hb ⊢
  have HCE := hid (canon_Encode hS 0 hM (by have := HC.out.2.2; omega))
  rw [HC.out.1, HC.out.2.1] at HCE
  have HB := hid hb
  clear hS hM hb HW HWW HC
  refine HCE.out.mono ?_
  rintro e w1 ⟨v1, rfl, hO, hb1⟩
  obtain ⟨a, q, e1⟩ := hO.form
  simp only [List.length_cons, List.length_nil, Nat.zero_add] at e1
  subst e1
  have HB1 := hid (HB.out.trans (hb1.mono HB.out.size))
  have HBY := hid (hO.bytes (by simp))
  clear hO hb1
  go_wp2_with fail
  have hb5 := (Below.refl w1.heap.size w1).alloc (Nat.le_refl _) (.cells #[.int .u8 10, .int .u8 3, .int .u8 1, .int .u8 172, .int .u8 2] 5)
  have HSM := hid (ref01_Same (HBY.out.below hb5) (bytes_new w1 5 #[.int .u8 10, .int .u8 3, .int .u8 1, .int .u8 172, .int .u8 2] [10, 3, 1, 172, 2] rfl (by simp)))
  have HB5 := hid (HB1.out.trans (hb5.mono HB1.out.size))
  clear hb5
  refine HSM.out.mono ?_
  rintro e w2 ⟨rfl, rfl⟩
  go_wp2_with fail
  go_ret
  exact ⟨by simp, HB5.out⟩

theorem size_rmsg1 (w : World) : ∀ (g n : Nat), n = 1 → (Instr.indexAt 54 (.slice (some ⟨g, 0, none⟩) n n) (.int .i64 0)).run Try.prog w = .ok (.pointer (some ⟨g, 0, none⟩)) w := by
  rintro g n rfl
  have := index_run Try.underlying54 size_rmsg (a := some ⟨g, 0, none⟩) rfl 0 (len := 1) (by decide) (cap := 1) w
  simpa using this
theorem may_cases (s : List Mes) (root : Int) (d : Nat) (x : M d) : mayCode s root d x = 0 ∧ sright s = true ∧ rightB s d root x = true ∨ mayCode s root d x = 9 ∨ mayCode s root d x = 2 ∨ mayCode s root d x = 12 := by
  unfold mayCode
  by_cases h1 : sright s = false
  · rw [if_pos h1]; omega
  · rw [if_neg h1]
    by_cases h2 : root < 0 ∨ (s.length : Int) ≤ root
    · rw [if_pos h2]; omega
    · rw [if_neg h2]
      by_cases h3 : rightB s d root x = false
      · rw [if_pos h3]; omega
      · rw [if_neg h3]; exact .inl ⟨rfl, by simpa using h1, by simpa using h3⟩

set_option maxRecDepth 100000 in
set_option maxHeartbeats 8000000 in
theorem law16_CanonEncodes {w : World} {vs vx : Value} {s : List Mes} {d : Nat} {x : M d} (hS : SchemaAt w vs s) (root : Int) (hM : MsgAt d w vx x) (hw : mwt d x ≤ 1099511627776) :
    Calls Try.prog 4 #[vs, .int .i64 root, vx] w fun e w' => e = .returned (.bool true) ∧ Below w.heap.size w w' := by
  obtain ⟨a1, n1, c1, a2, n2, c2, rfl⟩ := hM.form
  obtain ⟨-, sa, sc, rfl, -⟩ := hS.open
  obtain ⟨sn, HSN⟩ : ∃ n, Hid (n = s.length) := ⟨_, rfl⟩
  rw [← HSN.out] at hS ⊢
  have HS := hid hS
  have HM := hid hM
  have HW := hid hw
  obtain ⟨z, HZ⟩ : ∃ z, Hid (z = szM 71 d x) := ⟨_, rfl⟩
  have hz : z ≤ 5000 + 1099511627776 := by
    rw [HZ.out]
    exact Nat.le_trans (szM_le 71 d x) (by omega)
  clear hS hM hw
  go_enter Try.func4, Try.ntmps4
  go_wp2_with fail
  have H2 : Hid (∀ W, W = (w.alloc (.cells #[.slice a1 n1 c1, .slice a2 n2 c2] 43)) → Blk W w.heap.size [.slice a1 n1 c1, .slice a2 n2 c2] 43 ∧ Below w.heap.size w W) := by
    rintro W rfl
    exact ⟨Blk.new w _ _, (Below.refl w.heap.size w).alloc (Nat.le_refl _) _⟩
  obtain ⟨hk1, hb1⟩ := H2.out _ rfl
  clear H2
  obtain ⟨W2, HW2⟩ : ∃ W2, Hid (W2 = (w.alloc (.cells #[.slice a1 n1 c1, .slice a2 n2 c2] 43))) := ⟨_, rfl⟩
  rw [← HW2.out] at hk1 hb1 ⊢
  obtain ⟨b1, HB1E⟩ : ∃ b1, Hid (b1 = w.heap.size) := ⟨_, rfl⟩
  rw [← HB1E.out] at hk1 ⊢
  have HK1 := hid hk1
  have HB1 := hid hb1
  clear hk1 hb1 HW2
  refine (law16_alive _).mono ?_
  rintro e w1 ⟨rfl, hb2⟩
  have HK2 := hid (HK1.out.below hb2)
  have HB2 := hid (HB1.out.trans (hb2.mono HB1.out.size))
  clear hb2 HK1 HB1
  go_wp2_with fail
  refine (law07_Few (HS.out.keep (below_keeps HB2.out))).mono ?_
  rintro e w2 ⟨⟨fw, rfl⟩, hb3⟩
  have HK3 := hid (HK2.out.below hb3)
  have HB3 := hid (HB2.out.trans (hb3.mono HB2.out.size))
  clear hb3 HK2 HB2
  cases fw with
  | false =>
    go_wp2_with fail
    go_ret
    exact ⟨rfl, HB3.out⟩
  | true =>
    have l1 := HK3.out.lt
    have k0 := HK3.out.cell 0 _ rfl
    have k1 := HK3.out.cell 1 _ rfl
    have hsz := law14_Size 71 d (by omega) w2 _ x (HM.out.keep (below_keeps HB3.out)) HW.out
    rw [← HZ.out] at hsz
    have HSZ := hid hsz
    clear hsz
    go_wp2_with fail
    refine HSZ.out.mono ?_
    rintro e w3 ⟨rfl, hb4⟩
    have HK4 := hid (HK3.out.below hb4)
    have HB4 := hid (HB3.out.trans (hb4.mono HB3.out.size))
    clear hb4 HK3 HB3 l1 k0 k1
    by_cases hbig : 3000 < z
    · go_wp2_with fail
      go_ret
      exact ⟨rfl, HB4.out⟩
    · have hwx : mwt d x ≤ 3000 := by
        have h1 := szM_exact 71 d x (by rw [← HZ.out]; omega)
        have h2 := HZ.out
        omega
      have HWX := hid hwx
      clear hwx
      have l1 := HK4.out.lt
      have k0 := HK4.out.cell 0 _ rfl
      have k1 := HK4.out.cell 1 _ rfl
      have HOF := hid (law14_Of (HM.out.keep (below_keeps HB4.out)) (by have := HWX.out; omega))
      go_wp2_with fail
      refine HOF.out.mono ?_
      rintro e w4 ⟨vy, rfl, hb5, hMy⟩
      obtain ⟨y1, m1, q1, y2, m2, q2, rfl⟩ := hMy.form
      have HK5 := hid ((HK4.out.below hb5).alloc (.cells #[.slice y1 m1 q1, .slice y2 m2 q2] 47))
      have HY5 := hid (Blk.new w4 [.slice y1 m1 q1, .slice y2 m2 q2] 47)
      have hb6 := hb5.alloc hb5.size (.cells #[.slice y1 m1 q1, .slice y2 m2 q2] 47)
      have HMY := hid (hMy.below ((Below.refl w4.heap.size w4).alloc (Nat.le_refl _) (.cells #[.slice y1 m1 q1, .slice y2 m2 q2] 47)))
      have HB6 := hid (HB4.out.trans (hb6.mono HB4.out.size))
      have hk5 := HK4.out.below hb5
      clear hb5 hb6 hMy HK4 HB4 l1 k0 k1
      have l1 := hk5.lt
      have k0 := hk5.cell 0 _ rfl
      have k1 := hk5.cell 1 _ rfl
      clear hk5
      go_wp2_with fail
      obtain ⟨W6, HW6⟩ : ∃ W6, Hid (W6 = w4.alloc (.cells #[.slice y1 m1 q1, .slice y2 m2 q2] 47)) := ⟨_, rfl⟩
      rw [← HW6.out] at HK5 HY5 HMY HB6 ⊢
      obtain ⟨yb, HYB⟩ : ∃ yb, Hid (yb = w4.heap.size) := ⟨_, rfl⟩
      rw [← HYB.out] at HY5 ⊢
      clear l1 k0 k1 HW6
      obtain ⟨mc, HMC⟩ : ∃ c, Hid (c = mayCode s root d x) := ⟨_, rfl⟩
      have hmc : mc ≤ 255 := by
        have := may_cases s root d x
        rw [HMC.out]; omega
      have HCE := hid (canon_Encode (HS.out.keep (below_keeps HB6.out)) root (HM.out.keep (below_keeps HB6.out)) (by have := HWX.out; omega))
      rw [← HMC.out] at HCE
      refine HCE.out.mono ?_
      rintro e w6 ⟨v6, rfl, hO6, hb7⟩
      obtain ⟨oa, oc, eo⟩ := hO6.form
      obtain ⟨on, HON⟩ : ∃ n, Hid (n = (encOut s root d x).length) := ⟨_, rfl⟩
      rw [← HON.out] at eo
      subst eo
      have HK6 := hid (HK5.out.below hb7)
      have HY6 := hid (HY5.out.below hb7)
      have HM6 := hid (HMY.out.below hb7)
      have HB7 := hid (HB6.out.trans (hb7.mono HB6.out.size))
      have HO6 := hid hO6
      clear hb7 hO6 HK5 HY5 HMY HB6
      have l1 := HK6.out.lt
      have k0 := HK6.out.cell 0 _ rfl
      have k1 := HK6.out.cell 1 _ rfl
      have HCS := hid (canon_Size (HS.out.keep (below_keeps HB7.out)) root (HM.out.keep (below_keeps HB7.out)) (by have := HWX.out; omega))
      rw [← HON.out] at HCS
      rw [← HMC.out] at HCS
      go_wp2_with fail
      refine HCS.out.mono ?_
      rintro e w7 ⟨rfl, hb8⟩
      have HY7 := hid (HY6.out.below hb8)
      have HM7 := hid (HM6.out.below hb8)
      have HB8 := hid (HB7.out.trans (hb8.mono HB7.out.size))
      have HO7 := hid (HO6.out.below_of hb8)
      clear hb8 HK6 HY6 HM6 HB7 HO6 l1 k0 k1
      have l1 := HY7.out.lt
      have k0 := HY7.out.cell 0 _ rfl
      have k1 := HY7.out.cell 1 _ rfl
      go_wp2_with fail
      have hB9 := (Below.refl w7.heap.size w7).alloc (Nat.le_refl _) (.cells #[.slice y1 m1 q1, .slice y2 m2 q2] 47)
      have hB := Blk.new w7 [.slice y1 m1 q1, .slice y2 m2 q2] 47
      obtain ⟨W8, HW8⟩ : ∃ W8, Hid (W8 = w7.alloc (.cells #[.slice y1 m1 q1, .slice y2 m2 q2] 47)) := ⟨_, rfl⟩
      have hY := HY7.out.below hB9
      rw [← HW8.out] at hB9 hB hY ⊢
      have HB9 := hid (HB8.out.trans (hB9.mono HB8.out.size))
      have HMA := hid (ref15_May (HS.out.keep (below_keeps HB9.out)) root (HM7.out.below hB9) (by have := HWX.out; omega) (hB.cell 0 _ rfl) (hB.cell 1 _ rfl))
      rw [← HMC.out] at HMA
      have HM8 := hid (HM7.out.below hB9)
      have HY8 := hid hY
      have HO8 := hid (HO7.out.below_of hB9)
      clear hB9 hB hY HW8 HM7 HY7 HO7 HB8 l1 k0 k1
      refine HMA.out.mono ?_
      rintro e w9 ⟨rfl, hb10⟩
      have HY9 := hid (HY8.out.below hb10)
      have HM9 := hid (HM8.out.below hb10)
      have HBX := hid (HB9.out.trans (hb10.mono HB9.out.size))
      have HO9 := hid (HO8.out.below_of hb10)
      clear hb10 HM8 HY8 HO8 HB9
      by_cases hc : mc = 0
      · have HRT : Hid (sright s = true ∧ rightB s d root x = true ∧ encOut s root d x = encM s d root x) := by
          have h1 := may_cases s root d x
          have h2 := HMC.out
          refine ⟨?_, ?_, by rw [encOut, if_pos (by omega)]⟩
          · rcases h1 with h1 | h1
            · exact h1.2.1
            · omega
          · rcases h1 with h1 | h1
            · exact h1.2.2
            · omega
        subst hc
        have l1 := HY9.out.lt
        have k0 := HY9.out.cell 0 _ rfl
        have k1 := HY9.out.cell 1 _ rfl
        have HRE := hid (ref16_EncOk HRT.out.1 d w9 root _ _ x (HS.out.keep (below_keeps HBX.out)) HM9.out HRT.out.2.1 (by have := HWX.out; omega))
        have hel := enc_len (w := w9) HRT.out.1 d root _ x HM9.out (by have := HWX.out; omega)
        have HEL : Hid ((encM s d root x).length ≤ 90000) := by have := HWX.out; show _ ≤ _; omega
        have hon : on ≤ 90000 := by rw [HON.out, HRT.out.2.2]; exact HEL.out
        clear hel
        go_wp2_with fail
        refine HRE.out.mono ?_
        rintro e wa ⟨va, rfl, hOa, hba⟩
        obtain ⟨pa, pc, ep⟩ := hOa.form
        have HPN : Hid ((encM s d root x).length = on) := by rw [Hid, HON.out, HRT.out.2.2]
        rw [HPN.out] at ep
        subst ep
        have hOb := HO9.out.below_of hba
        rw [HRT.out.2.2] at hOb
        have HSM := hid (ref01_Same (hOb.bytes (by have := HEL.out; omega)) (hOa.bytes (by have := HEL.out; omega)))
        have HBA := hid (HBX.out.trans (hba.mono HBX.out.size))
        clear hOa hba hOb l1 k0 k1
        go_wp2_with fail
        refine HSM.out.mono ?_
        rintro e wb ⟨rfl, rfl⟩
        go_wp2_with fail
        go_ret
        exact ⟨by simp, HBA.out⟩
      · have HEO : Hid (encOut s root d x = []) := by
          rw [Hid, encOut, if_neg (by rw [← HMC.out]; exact hc)]
        have hon : on = 0 := by rw [HON.out, HEO.out]; rfl
        subst hon
        have hc1 : 1 ≤ mc := by omega
        clear hc
        go_wp2_with fail
        go_ret
        exact ⟨by simp, HBX.out⟩

set_option maxRecDepth 100000 in
set_option maxHeartbeats 8000000 in
theorem law16_CanonValues {w : World} {vs vx : Value} {s : List Mes} {d : Nat} {x : Val (M d)} (hS : SchemaAt w vs s) (f : Fld) (hf : -9223372036854775808 ≤ f.number ∧ f.number ≤ 9223372036854775807) (hM : ValAt (MsgAt d) w vx x) (hw : vwt (mwt d) x ≤ 1099511627776) :
    Calls Try.prog 5 #[vs, f.val, vx] w fun e w' => e = .returned (.bool true) ∧ Below w.heap.size w w' := by
  obtain ⟨m0, a1, n1, c1, a2, n2, c2, a3, n3, c3, rfl⟩ := hM.form
  obtain ⟨-, sa, sc, rfl, -⟩ := hS.open
  obtain ⟨sn, HSN⟩ : ∃ n, Hid (n = s.length) := ⟨_, rfl⟩
  rw [← HSN.out] at hS ⊢
  obtain ⟨f0, HF0⟩ : ∃ f0, Hid (f0 = f) := ⟨_, rfl⟩
  have HFB := hid hf
  rw [← HF0.out] at HFB
  obtain ⟨name, number, kind, rep, packed, of⟩ := f
  simp only [Fld.val]
  simp only at hf
  have HVF : Hid (Fld.val f0 = .agg #[.string name, .int .i64 number, .int .i64 kind, .bool rep, .bool packed, .int .i64 of]) := by rw [HF0.out]; rfl
  have HNF : Hid (f0.number = number) := by rw [HF0.out]; rfl
  have HS := hid hS
  have HM := hid hM
  have HW := hid hw
  obtain ⟨z, HZ⟩ : ∃ z, Hid (z = szV (szM 70 d) x) := ⟨_, rfl⟩
  have hz : z ≤ 5000 + 1099511627776 := by
    rw [HZ.out]
    exact Nat.le_trans (szV_le (szM 70 d) (mwt d) x) (by omega)
  obtain ⟨mc, HMC⟩ : ∃ c, Hid (c = valCode s d f0 x) := ⟨_, rfl⟩
  have hmc : mc ≤ 255 := by
    rw [HMC.out, valCode]
    repeat' split
    all_goals omega
  obtain ⟨on, HON⟩ : ∃ n, Hid (n = (valOut s d f0 x).length) := ⟨_, rfl⟩
  obtain ⟨L1, HL1⟩ : ∃ L1 : List Value, Hid (L1 = [.string name, .int .i64 number, .int .i64 kind, .bool rep, .bool packed, .int .i64 of]) := ⟨_, rfl⟩
  obtain ⟨L2, HL2⟩ : ∃ L2 : List Value, Hid (L2 = [.int .i64 m0, .slice a1 n1 c1, .slice a2 n2 c2, .slice a3 n3 c3]) := ⟨_, rfl⟩
  have H2 : Hid (∀ W, W = ((w.alloc (.cells #[.string name, .int .i64 number, .int .i64 kind, .bool rep, .bool packed, .int .i64 of] 58)).alloc (.cells #[.int .i64 m0, .slice a1 n1 c1, .slice a2 n2 c2, .slice a3 n3 c3] 62)) →
      Blk W w.heap.size L1 58 ∧ Blk W (w.heap.size + 1) L2 62 ∧ Below w.heap.size w W) := by
    rintro W rfl
    rw [HL1.out, HL2.out]
    exact ⟨(Blk.new w _ _).alloc _, Blk.new' (w.alloc (.cells #[.string name, .int .i64 number, .int .i64 kind, .bool rep, .bool packed, .int .i64 of] 58)) [.int .i64 m0, .slice a1 n1 c1, .slice a2 n2 c2, .slice a3 n3 c3] _ _ (by simp), ((Below.refl w.heap.size w).alloc (Nat.le_refl _) _).alloc (by simp) _⟩
  clear hS hM hw
  go_enter Try.func5, Try.ntmps5
  go_wp2_with fail
  obtain ⟨hk1, hj1, hb1⟩ := H2.out _ rfl
  clear H2
  obtain ⟨W2, HW2⟩ : ∃ W2, Hid (W2 = ((w.alloc (.cells #[.string name, .int .i64 number, .int .i64 kind, .bool rep, .bool packed, .int .i64 of] 58)).alloc (.cells #[.int .i64 m0, .slice a1 n1 c1, .slice a2 n2 c2, .slice a3 n3 c3] 62))) := ⟨_, rfl⟩
  rw [← HW2.out] at hk1 hj1 hb1 ⊢
  obtain ⟨b1, HB1E⟩ : ∃ b1, Hid (b1 = w.heap.size) := ⟨_, rfl⟩
  rw [← HB1E.out] at hk1 hj1 ⊢
  have HK1 := hid hk1
  have HJ1 := hid hj1
  have HB1 := hid hb1
  clear hk1 hj1 hb1 HW2
  refine (law16_alive _).mono ?_
  rintro e w1 ⟨rfl, hb2⟩
  have HK2 := hid (HK1.out.below hb2)
  have HJ2 := hid (HJ1.out.below hb2)
  have HB2 := hid (HB1.out.trans (hb2.mono HB1.out.size))
  clear hb2 HK1 HJ1 HB1
  go_wp2_with fail
  refine (law07_Few (HS.out.keep (below_keeps HB2.out))).mono ?_
  rintro e w2 ⟨⟨fw, rfl⟩, hb3⟩
  have HK3 := hid (HK2.out.below hb3)
  have HJ3 := hid (HJ2.out.below hb3)
  have HB3 := hid (HB2.out.trans (hb3.mono HB2.out.size))
  clear hb3 HK2 HJ2 HB2
  cases fw with
  | false =>
    go_wp2_with fail
    go_ret
    exact ⟨rfl, HB3.out⟩
  | true =>
    have h2 := HJ3.out
    rw [HL2.out] at h2
    have l2 := h2.lt
    have x0 := h2.cell 0 _ rfl
    have x1 := h2.cell 1 _ rfl
    have x2 := h2.cell 2 _ rfl
    have x3 := h2.cell 3 _ rfl
    have hsz := law14_SizeValue (k := 70) (by omega) (VMsg.keep HM.out (below_keeps HB3.out)) HW.out
    rw [← HZ.out] at hsz
    have HSZ : Hid (Calls Try.prog 24 #[.agg #[.int .i64 m0, .slice a1 n1 c1, .slice a2 n2 c2, .slice a3 n3 c3], .int .i64 70] w2 fun e w' => e = .returned (.int .i64 z) ∧ Below w2.heap.size w2 w') := hsz
    clear hsz h2
    go_wp2_with fail
    refine HSZ.out.mono ?_
    rintro e w3 ⟨rfl, hb4⟩
    have HK4 := hid (HK3.out.below hb4)
    have HJ4 := hid (HJ3.out.below hb4)
    have HB4 := hid (HB3.out.trans (hb4.mono HB3.out.size))
    clear hb4 HK3 HJ3 HB3 l2 x0 x1 x2 x3
    by_cases hbig : 3000 < z
    · go_wp2_with fail
      go_ret
      exact ⟨rfl, HB4.out⟩
    · have hwx : vwt (mwt d) x ≤ 3000 := by
        have h1 := szV_exact (f := szM 70 d) (g := mwt d) (v := x) (fun y _ hy => szM_exact 70 d y hy) (by rw [← HZ.out]; omega)
        have h2 := HZ.out
        omega
      have HWX := hid hwx
      clear hwx
      have h1 := HK4.out
      have h2 := HJ4.out
      rw [HL1.out] at h1
      rw [HL2.out] at h2
      have l1 := h1.lt
      have l2 := h2.lt
      have k0 := h1.cell 0 _ rfl
      have k1 := h1.cell 1 _ rfl
      have k2 := h1.cell 2 _ rfl
      have k3 := h1.cell 3 _ rfl
      have k4 := h1.cell 4 _ rfl
      have k5 := h1.cell 5 _ rfl
      have x0 := h2.cell 0 _ rfl
      have x1 := h2.cell 1 _ rfl
      have x2 := h2.cell 2 _ rfl
      have x3 := h2.cell 3 _ rfl
      clear h1 h2
      have hcv := canon_Value (HS.out.keep (below_keeps HB4.out)) f0 HFB.out (VMsg.keep HM.out (below_keeps HB4.out)) (by have := HWX.out; omega)
      rw [HVF.out, ← HMC.out] at hcv
      have HCV := hid hcv
      clear hcv
      go_wp2_with fail
      refine HCV.out.mono ?_
      rintro e w4 ⟨v4, rfl, hO4, hb5⟩
      obtain ⟨oa, oc, eo⟩ := hO4.form
      rw [← HON.out] at eo
      subst eo
      have HK5 := hid (HK4.out.below hb5)
      have HJ5 := hid (HJ4.out.below hb5)
      have HB5 := hid (HB4.out.trans (hb5.mono HB4.out.size))
      have HO5 := hid hO4
      clear hb5 hO4 HK4 HJ4 HB4 l1 l2 k0 k1 k2 k3 k4 k5 x0 x1 x2 x3
      have h2 := HJ5.out
      rw [HL2.out] at h2
      have l2 := h2.lt
      have x0 := h2.cell 0 _ rfl
      have x1 := h2.cell 1 _ rfl
      have x2 := h2.cell 2 _ rfl
      have x3 := h2.cell 3 _ rfl
      clear h2
      have HOF := hid (law14_OfValue (VMsg.keep HM.out (below_keeps HB5.out)) (by have := HWX.out; omega))
      go_wp2_with fail
      refine HOF.out.mono ?_
      rintro e w5 ⟨vy, rfl, hb6, hMy⟩
      obtain ⟨y0, y1, m1, q1, y2, m2, q2, y3, m3, q3, rfl⟩ := hMy.form
      have hba := (Below.refl w5.heap.size w5).alloc (Nat.le_refl _) (.cells #[.int .i64 y0, .slice y1 m1 q1, .slice y2 m2 q2, .slice y3 m3 q3] 66)
      have hbb := hb6.trans (hba.mono hb6.size)
      have HY6 := hid (Blk.new w5 [.int .i64 y0, .slice y1 m1 q1, .slice y2 m2 q2, .slice y3 m3 q3] 66)
      have HMY := hid (VMsg.below hMy hba)
      have HK6 := hid (HK5.out.below hbb)
      have HB6 := hid (HB5.out.trans (hbb.mono HB5.out.size))
      have HO6 := hid (HO5.out.below_of hbb)
      clear hb6 hMy hba hbb HK5 HJ5 HB5 HO5 l2 x0 x1 x2 x3
      go_wp2_with fail
      obtain ⟨W6, HW6⟩ : ∃ W6, Hid (W6 = w5.alloc (.cells #[.int .i64 y0, .slice y1 m1 q1, .slice y2 m2 q2, .slice y3 m3 q3] 66)) := ⟨_, rfl⟩
      rw [← HW6.out] at HK6 HY6 HMY HB6 HO6 ⊢
      obtain ⟨yb, HYB⟩ : ∃ yb, Hid (yb = w5.heap.size) := ⟨_, rfl⟩
      rw [← HYB.out] at HY6 ⊢
      refine (ref07_Right (HS.out.keep (below_keeps HB6.out))).mono ?_
      rintro e w7 ⟨rfl, hb7⟩
      have HK7 := hid (HK6.out.below hb7)
      have HY7 := hid (HY6.out.below hb7)
      have HM7 := hid (VMsg.below HMY.out hb7)
      have HB7 := hid (HB6.out.trans (hb7.mono HB6.out.size))
      have HO7 := hid (HO6.out.below_of hb7)
      clear hb7 HK6 HY6 HMY HB6 HO6 HW6
      cases hsr : sright s with
      | false =>
        have HCC : Hid (mc = 9) := by rw [Hid, HMC.out, valCode, if_pos hsr]
        have hon : on = 0 := by rw [HON.out, valOut, if_neg (by rw [← HMC.out, HCC.out]; decide)]; rfl
        have hmc9 : mc = 9 := HCC.out
        subst hmc9
        subst hon
        clear hsr
        go_wp2_with fail
        go_ret
        exact ⟨by simp, HB7.out⟩
      | true =>
        have HSR := hid hsr
        clear hsr
        have h1 := HK7.out
        rw [HL1.out] at h1
        have l1 := h1.lt
        have k0 := h1.cell 0 _ rfl
        have k1 := h1.cell 1 _ rfl
        have k2 := h1.cell 2 _ rfl
        have k3 := h1.cell 3 _ rfl
        have k4 := h1.cell 4 _ rfl
        have k5 := h1.cell 5 _ rfl
        have ly := HY7.out.lt
        have y0' := HY7.out.cell 0 _ rfl
        have y1' := HY7.out.cell 1 _ rfl
        have y2' := HY7.out.cell 2 _ rfl
        have y3' := HY7.out.cell 3 _ rfl
        clear h1
        by_cases hroot : number < 1 ∨ 536870911 < number
        · have hmc9 : mc = 12 := by rw [HMC.out, valCode, if_neg (by rw [HSR.out]; decide), if_pos (.inl (by rw [HNF.out]; exact hroot))]
          have hon : on = 0 := by rw [HON.out, valOut, if_neg (by rw [← HMC.out, hmc9]; decide)]; rfl
          subst hmc9
          subst hon
          rcases hroot with hroot | hroot
          all_goals
            go_wp2_with fail
            go_ret
            exact ⟨by simp, HB7.out⟩
        · have hn1 : 1 ≤ number := by omega
          have hn2 : number ≤ 536870911 := by omega
          have HNM := hid (And.intro hn1 hn2)
          clear hroot
          have hfx := ref14_Fits (ref14_rightOk HSR.out d) w7 f0 _ _ x (HS.out.keep (below_keeps HB7.out)) HM7.out (by have := HWX.out; omega)
          rw [HVF.out] at hfx
          have HFX := hid hfx
          clear hfx
          go_wp2_with fail
          refine HFX.out.mono ?_
          rintro e w8 ⟨rfl, hb8⟩
          have HK8 := hid (HK7.out.below hb8)
          have HY8 := hid (HY7.out.below hb8)
          have HM8 := hid (VMsg.below HM7.out hb8)
          have HB8 := hid (HB7.out.trans (hb8.mono HB7.out.size))
          have HO8 := hid (HO7.out.below_of hb8)
          clear hb8 HK7 HY7 HM7 HB7 HO7 l1 k0 k1 k2 k3 k4 k5 ly y0' y1' y2' y3'
          cases hrb : fitsB (rightB s d) f0 x with
          | false =>
            have hmc9 : mc = 12 := by rw [HMC.out, valCode, if_neg (by rw [HSR.out]; decide), if_pos (.inr hrb)]
            have hon : on = 0 := by rw [HON.out, valOut, if_neg (by rw [← HMC.out, hmc9]; decide)]; rfl
            subst hmc9
            subst hon
            clear hrb
            go_wp2_with fail
            go_ret
            exact ⟨by simp, HB8.out⟩
          | true =>
            have HRB := hid hrb
            have hmc9 : mc = 0 := by
              rw [HMC.out, valCode, if_neg (by rw [HSR.out]; decide), if_neg]
              rintro (h | h)
              · rw [HNF.out] at h; omega
              · rw [hrb] at h; exact absurd h (by decide)
            have HVO : Hid (valOut s d f0 x = encV (encM s d) f0 x) := by rw [Hid, valOut, if_pos (by rw [← HMC.out, hmc9])]
            subst hmc9
            clear hrb
            have h1 := HK8.out
            rw [HL1.out] at h1
            have l1 := h1.lt
            have k0 := h1.cell 0 _ rfl
            have k1 := h1.cell 1 _ rfl
            have k2 := h1.cell 2 _ rfl
            have k3 := h1.cell 3 _ rfl
            have k4 := h1.cell 4 _ rfl
            have k5 := h1.cell 5 _ rfl
            have ly := HY8.out.lt
            have y0' := HY8.out.cell 0 _ rfl
            have y1' := HY8.out.cell 1 _ rfl
            have y2' := HY8.out.cell 2 _ rfl
            have y3' := HY8.out.cell 3 _ rfl
            clear h1
            have hel := enc_lenV (w := w8) (fun root v x h hw => enc_len HSR.out d root v x h hw) f0 (by rw [HNF.out]; omega) _ x HM8.out (by have := HWX.out; omega)
            have HEL : Hid ((encV (encM s d) f0 x).length ≤ 90000) := by have := HWX.out; show _ ≤ _; omega
            have hrv := ref16_Value HSR.out (ref16_EncOk HSR.out d) w8 f0 _ _ x (HS.out.keep (below_keeps HB8.out)) HM8.out HRB.out (by rw [HNF.out]; exact HNM.out) (by have := HWX.out; omega)
            rw [HVF.out] at hrv
            have HRV := hid hrv
            clear hrv hel
            go_wp2_with fail
            refine HRV.out.mono ?_
            rintro e wa ⟨va, rfl, hOa, hba⟩
            have hOb := HO8.out.below_of hba
            rw [HVO.out] at hOb
            have HSM := hid (ref01_Same (hOb.bytes (by have := HEL.out; omega)) (hOa.bytes (by have := HEL.out; omega)))
            have HBA := hid (HB8.out.trans (hba.mono HB8.out.size))
            clear hOa hba hOb l1 k0 k1 k2 k3 k4 k5 ly y0' y1' y2' y3'
            go_wp2_with fail
            refine HSM.out.mono ?_
            rintro e wb ⟨rfl, rfl⟩
            go_wp2_with fail
            go_ret
            exact ⟨by simp, HBA.out⟩

end Go.Proofs.Ytgephhmkaonahaa

namespace Go.Proofs.Ytgephhmkaonahaa
open Go.RowKit Go.Deep

/-- every part of a datum is within the form's reach -/
def Light {H : Type} (P : Program) (t : TypeId) (d : DataW H) : Prop := ∀ n ∈ d.weights P t, n ≤ reachBytes

theorem light_slice {H : Type} {P : Program} {t e : TypeId} (ht : P.underlying t = some (.slice e)) {es sp : List (DataW H)} (h : Light P t (.slice es sp)) :
    (es.length + sp.length) * P.bytesOf e ≤ reachBytes ∧ (∀ d ∈ es, Light P e d) ∧ (∀ d ∈ sp, Light P e d) := by
  have all : ∀ (l : List (DataW H)) (d : DataW H), d ∈ l → ∀ n ∈ d.weights P e, n ∈ DataW.weightsAll P e l := by
    intro l
    induction l with
    | nil => intro d hd; simp at hd
    | cons x r ih =>
      intro d hd n hn
      rw [DataW.weightsAll]
      rcases List.mem_cons.1 hd with rfl | hd
      · exact List.mem_append_left _ hn
      · exact List.mem_append_right _ (ih d hd n hn)
  refine ⟨h _ (by simp [DataW.weights, ht]), fun d hd n hn => h n ?_, fun d hd n hn => h n ?_⟩
  · simp only [DataW.weights, ht]
    exact List.mem_cons_of_mem _ (List.mem_append_left _ (all _ d hd n hn))
  · simp only [DataW.weights, ht]
    exact List.mem_cons_of_mem _ (List.mem_append_right _ (all _ d hd n hn))

theorem light_struct {H : Type} {P : Program} {t : TypeId} {fs : Array Field} (ht : P.underlying t = some (.struct fs)) {ds : List (DataW H)} (h : Light P t (.agg ds)) :
    ∀ (i : Nat) (f : Field) (d : DataW H), fs[i]? = some f → ds[i]? = some d → Light P f.type d := by
  have each : ∀ (ts : List TypeId) (l : List (DataW H)) (i : Nat) (u : TypeId) (d : DataW H), ts[i]? = some u → l[i]? = some d → ∀ n ∈ d.weights P u, n ∈ DataW.weightsEach P ts l := by
    intro ts
    induction ts with
    | nil => intro l i u d hu; simp at hu
    | cons a r ih =>
      intro l i u d hu hd n hn
      cases l with
      | nil => simp at hd
      | cons x l =>
        rw [DataW.weightsEach]
        cases i with
        | zero => simp at hu hd; subst hu; subst hd; exact List.mem_append_left _ hn
        | succ i => exact List.mem_append_right _ (ih l i u d (by simpa using hu) (by simpa using hd) n hn)
  intro i f d hf hd n hn
  refine h n ?_
  simp only [DataW.weights, ht]
  exact each _ _ i f.type d (by simp; exact ⟨f, by simpa using hf, rfl⟩) hd n hn

theorem light_arg {H : Type} {P : Program} {ts : List TypeId} {ds : List (DataW H)} (h : (DataW.weightsEach P ts ds).all (· ≤ reachBytes) = true) {j : Nat} {t : TypeId} {d : DataW H} (ht : ts[j]? = some t) (hd : ds[j]? = some d) : Light P t d := by
  intro n hn
  have := List.all_eq_true.1 h _ (DataW.weights_mem_each ht hd n hn)
  simpa using this

/-- a slice of whatever elements, as cells -/
theorem seg_of_trod {H : Type} {enc : TypeId × Value → H} {P : Program} {w : World} {t e : TypeId} {size : Nat} (ht : P.underlying t = some (.slice e)) (hce : P.cellsOf e = size) (hbytes : 1 ≤ P.bytesOf e)
    {v : Value} {d : DataW H} {p : List MemPlace} (hv : ∃ a n c, v = .slice a n c) (h : DataW.Trod enc P w 0 (fun _ => true) true t v d p) (hL : Light P t d) :
    ∃ (n fuel : Nat) (css : Nat → List Value) (D : Nat → DataW H) (Pl : Nat → List MemPlace), Seg w v size n ((List.range n).flatMap css) ∧ (∀ i, i < n → (css i).length = size ∧ DataW.trod enc P w 0 (fun _ => true) true fuel e (css i) = some (D i, Pl i) ∧ Light P e (D i)) := by
  obtain ⟨a0, n0, c0, rfl⟩ := hv
  obtain ⟨fuel, h⟩ := h
  rcases open_slice ht h with ⟨hcs, -⟩ | ⟨a, len, cap, m, n, D, Pl, hcs, -, hl, hm, hmm, hx, hel⟩
  · simp [Value.cells] at hcs
    obtain ⟨rfl, rfl, rfl⟩ := hcs
    exact ⟨0, 0, fun _ => [], fun _ => .nil, fun _ => [], ⟨by simp, by simp, none, 0, rfl, Nat.le_refl _, by omega, fun _ => rfl, fun j u hu => by simp at hu⟩, fun i hi => absurd hi (by omega)⟩
  · simp [Value.cells] at hcs
    obtain ⟨rfl, rfl, rfl⟩ := hcs
    simp only [if_true] at hmm
    subst hmm
    simp only [Prod.mk.injEq] at hx
    obtain ⟨rfl, -⟩ := hx
    obtain ⟨hb, hle, -⟩ := light_slice ht hL
    simp only [List.length_map, List.length_range] at hb
    have hn47 : n0 ≤ 140737488355328 := by
      have h1 : reachBytes < 2 ^ 47 := reachBytes_lt
      have h2 : n0 * 1 ≤ (n0 + (m - n0)) * P.bytesOf e := Nat.mul_le_mul (by omega) hbytes
      omega
    obtain ⟨css, hcss⟩ := choose_lt (α := List Value) (n := n0) (p := fun i cs => w.cells? 0 (a.add (i * P.cellsOf e)) (P.cellsOf e) = some cs ∧ DataW.trod enc P w 0 (fun _ => true) true n e cs = some (D i, Pl i)) (fun i hi => hel i (by omega))
    have hlen : ∀ i, i < n0 → (css i).length = size := fun i hi => by rw [← hce]; exact (World.cells?_some (hcss i hi).1).2.1
    have flat : ∀ (k : Nat), k ≤ n0 → ((List.range k).flatMap css).length = k * size := by
      intro k
      induction k with
      | zero => intro _; simp
      | succ k ih =>
        intro hk
        rw [List.range_succ, List.flatMap_append, List.length_append, ih (by omega)]
        simp [hlen k (by omega), Nat.succ_mul]
    refine ⟨n0, n, css, D, Pl, ⟨flat n0 (Nat.le_refl _), hn47, some a, m, rfl, hl, by unfold maxLen at hm; omega, by simp, ?_⟩, fun i hi => ⟨hlen i hi, (hcss i hi).2, hle _ (List.mem_map.2 ⟨i, List.mem_range.2 hi, rfl⟩)⟩⟩
    intro j u hu
    -- the cell at place j lies in element j / size
    have get : ∀ (k : Nat), k ≤ n0 → ∀ j u, ((List.range k).flatMap css)[j]? = some u → ∃ i q, i < k ∧ q < size ∧ j = i * size + q ∧ (css i)[q]? = some u := by
      intro k
      induction k with
      | zero => intro _ j u hu; simp at hu
      | succ k ih =>
        intro hk j u hu
        rw [List.range_succ, List.flatMap_append] at hu
        by_cases hj : j < k * size
        · rw [List.getElem?_append_left (by rw [flat k (by omega)]; exact hj)] at hu
          obtain ⟨i, q, h1, h2, h3, h4⟩ := ih (by omega) j u hu
          exact ⟨i, q, by omega, h2, h3, h4⟩
        · rw [List.getElem?_append_right (by rw [flat k (by omega)]; omega), flat k (by omega)] at hu
          simp at hu
          have hq : j - k * size < size := by
            have := (List.getElem?_eq_some_iff.1 hu).1
            rw [hlen k (by omega)] at this; exact this
          exact ⟨k, j - k * size, by omega, hq, by omega, hu⟩
    obtain ⟨i, q, h1, h2, rfl, h4⟩ := get n0 (Nat.le_refl _) j u hu
    obtain ⟨-, -, hc⟩ := World.cells?_some (hcss i h1).1
    have hcell := hc q (by rw [hce]; exact h2)
    rw [h4, hce, add_add] at hcell
    have hspot : a.spot = none := by
      have h0 := (World.cells?_some (hcss 0 (by omega)).1).2.2 0 (by rw [hce]; omega)
      have h5 : (css 0)[0]? = some ((css 0)[0]'(by rw [hlen 0 (by omega)]; omega)) := List.getElem?_eq_getElem _
      rw [h5] at h0
      simpa [Addr.add] using World.cell?_spot h0
    obtain ⟨b, o, sp⟩ := a
    have : sp = none := hspot
    subst this
    rw [addr_add] at hcell
    exact ⟨b, o, rfl, hcell⟩

theorem bytes_u8 : Try.prog.bytesOf 5 = 1 := by kernel_rfl
theorem cells_u8 : Try.prog.cellsOf 5 = 1 := by kernel_rfl

theorem getD_range {α : Type} (n : Nat) (f : Nat → α) (z : α) (j : Nat) (hj : j < n) : ((List.range n).map f).getD j z = f j := by simp [List.getD, hj]
theorem flat_one {α : Type} (n : Nat) (css : Nat → List α) (f : Nat → α) (h : ∀ i, i < n → css i = [f i]) : (List.range n).flatMap css = (List.range n).map f := by
  induction n with
  | zero => rfl
  | succ n ih =>
    rw [List.range_succ, List.flatMap_append, List.map_append, ih (fun i hi => h i (by omega))]
    simp [h n (by omega)]

theorem flatMap_congr' {α β : Type} {l : List α} {f g : α → List β} (h : ∀ a ∈ l, f a = g a) : l.flatMap f = l.flatMap g := by
  induction l with
  | nil => rfl
  | cons a r ih =>
    rw [List.flatMap_cons, List.flatMap_cons, h a (by simp), ih fun x hx => h x (by simp [hx])]

theorem bytes_of_trod {H : Type} {enc : TypeId × Value → H} {w : World} {v : Value} {d : DataW H} {p : List MemPlace} (hv : ∃ a n c, v = .slice a n c) (h : DataW.Trod enc Try.prog w 0 (fun _ => true) true 22 v d p) (hL : Light Try.prog 22 d) :
    ∃ l, Bytes w v l := by
  obtain ⟨n, fuel, css, D, Pl, hs, hel⟩ := seg_of_trod under_bytes cells_u8 (by rw [bytes_u8]; exact Nat.le_refl _) hv h hL
  obtain ⟨c, hc⟩ := choose_lt (α := UInt8) (n := n) (p := fun i c => css i = [byteV c]) (fun i hi => by
    obtain ⟨h1, h2, -⟩ := hel i hi
    obtain ⟨z, hz, -, wz⟩ := DataW.trod_int Try.underlying5 h2
    have hb : 0 ≤ z ∧ z ≤ 255 := by simpa [Lit.wf, IntKind.min, IntKind.max, IntKind.signed, IntKind.bits] using wz
    refine ⟨UInt8.ofNat z.toNat, ?_⟩
    rw [hz]
    simp [byteV]
    omega)
  refine ⟨(List.range n).map c, ?_⟩
  unfold Bytes
  rw [List.length_map, List.length_range, List.map_map, ← flat_one n css (byteV ∘ c) (fun i hi => hc i hi)]
  exact hs

theorem bytes_sl : Try.prog.bytesOf 22 = 24 := by kernel_rfl
theorem cells_sl : Try.prog.cellsOf 22 = 1 := by kernel_rfl
theorem cells_rows : Try.prog.cellsOf 23 = 1 := by kernel_rfl

/-- a slice's value, of its cells -/
theorem trod_slice_form {H : Type} {enc : TypeId × Value → H} {P : Program} {w : World} {t e : TypeId} {fuel : Nat} {u : Value} {x : DataW H × List MemPlace} (ht : P.underlying t = some (.slice e)) (h : DataW.trod enc P w 0 (fun _ => true) true fuel t [u] = some x) : ∃ a n c, u = .slice a n c := by
  rcases open_slice ht h with ⟨hcs, -⟩ | ⟨a, len, cap, m, n, D, Pl, hcs, -⟩
  · exact ⟨_, _, _, by simpa using hcs⟩
  · exact ⟨_, _, _, by simpa using hcs⟩

theorem bytesL_of_trod {H : Type} {enc : TypeId × Value → H} {w : World} {v : Value} {d : DataW H} {p : List MemPlace} (hv : ∃ a n c, v = .slice a n c) (h : DataW.Trod enc Try.prog w 0 (fun _ => true) true 23 v d p) (hL : Light Try.prog 23 d) :
    ∃ ls, BytesL w v ls := by
  obtain ⟨n, fuel, css, D, Pl, hs, hel⟩ := seg_of_trod under_rows cells_sl (by rw [bytes_sl]; omega) hv h hL
  obtain ⟨u, hu⟩ := choose_lt (α := Value) (n := n) (p := fun i u => css i = [u] ∧ ∃ l, Bytes w u l) (fun i hi => by
    obtain ⟨h1, h2, h3⟩ := hel i hi
    match hcs : css i, h1 with
    | [u], _ =>
      rw [hcs] at h2
      have hf := trod_slice_form under_bytes h2
      obtain ⟨a, k, c, rfl⟩ := hf
      exact ⟨_, rfl, bytes_of_trod ⟨a, k, c, rfl⟩ ⟨fuel, by simpa [Value.cells] using h2⟩ h3⟩)
  obtain ⟨ls, hls⟩ := choose_lt (α := List UInt8) (n := n) (p := fun i l => Bytes w (u i) l) (fun i hi => (hu i hi).2)
  refine ⟨(List.range n).map ls, (List.range n).map u, by simp, ?_, fun j hj => ?_⟩
  · rw [List.length_map, List.length_range, ← flat_one n css u (fun i hi => (hu i hi).1)]
    exact hs
  · rw [List.length_map, List.length_range] at hj
    rw [getD_range n u undef j hj, getD_range n ls [] j hj]
    exact hls j hj

theorem bytes_fld : Try.prog.bytesOf 58 = 48 := by kernel_rfl
theorem cells_fld : Try.prog.cellsOf 58 = 6 := by kernel_rfl
theorem bytes_mes : Try.prog.bytesOf 89 = 40 := by kernel_rfl
theorem cells_mes : Try.prog.cellsOf 89 = 2 := by kernel_rfl
theorem cells_str : Try.prog.cellsOf 9 = 1 := by kernel_rfl
theorem cells_int : Try.prog.cellsOf 3 = 1 := by kernel_rfl
theorem cells_bool : Try.prog.cellsOf 4 = 1 := by kernel_rfl
theorem cells_flds : Try.prog.cellsOf 87 = 1 := by kernel_rfl

theorem i64_bd {x : Int} (h : (Lit.int .i64 x).wf = true) : -9223372036854775808 ≤ x ∧ x ≤ 9223372036854775807 := by
  simpa [Lit.wf, IntKind.min, IntKind.max, IntKind.signed, IntKind.bits] using h

set_option maxRecDepth 100000 in
/-- the cells of a field -/
theorem fld_of_trod {H : Type} {enc : TypeId × Value → H} {w : World} {fuel : Nat} {cs : List Value} {d : DataW H} {p : List MemPlace} (h : DataW.trod enc Try.prog w 0 (fun _ => true) true fuel 58 cs = some (d, p)) (hL : Light Try.prog 58 d) :
    ∃ f : Fld, f.Ok ∧ cs = f.cells := by
  obtain ⟨xs, n, -, hx, hl, hlen, hf⟩ := DataW.trod_struct Try.underlying58 h
  simp only [Prod.mk.injEq] at hx
  obtain ⟨rfl, -⟩ := hx
  have hsub := light_struct Try.underlying58 hL
  rw [cells_fld] at hl
  match cs, hl, xs, hlen with
  | [c0, c1, c2, c3, c4, c5], _, [x0, x1, x2, x3, x4, x5], _ =>
    have g0 : DataW.trod enc Try.prog w 0 (fun _ => true) true n 9 [c0] = some x0 := by have := hf 0 _ rfl; simpa [cells_str] using this
    have g1 : DataW.trod enc Try.prog w 0 (fun _ => true) true n 3 [c1] = some x1 := by have := hf 1 _ rfl; simpa [cells_int] using this
    have g2 : DataW.trod enc Try.prog w 0 (fun _ => true) true n 3 [c2] = some x2 := by have := hf 2 _ rfl; simpa [cells_int] using this
    have g3 : DataW.trod enc Try.prog w 0 (fun _ => true) true n 4 [c3] = some x3 := by have := hf 3 _ rfl; simpa [cells_bool] using this
    have g4 : DataW.trod enc Try.prog w 0 (fun _ => true) true n 4 [c4] = some x4 := by have := hf 4 _ rfl; simpa [cells_bool] using this
    have g5 : DataW.trod enc Try.prog w 0 (fun _ => true) true n 3 [c5] = some x5 := by have := hf 5 _ rfl; simpa [cells_int] using this
    obtain ⟨s, e0, r0, -⟩ := DataW.trod_string Try.underlying9 g0
    obtain ⟨n1, e1, -, w1⟩ := DataW.trod_int Try.underlying3 g1
    obtain ⟨n2, e2, -, w2⟩ := DataW.trod_int Try.underlying3 g2
    obtain ⟨b3, e3, -⟩ := DataW.trod_bool Try.underlying4 g3
    obtain ⟨b4, e4, -⟩ := DataW.trod_bool Try.underlying4 g4
    obtain ⟨n5, e5, -, w5⟩ := DataW.trod_int Try.underlying3 g5
    have hs : s.size ≤ 140737488355328 := by
      have h1 := hsub 0 _ _ rfl rfl
      rw [r0] at h1
      have h2 := h1 s.data.toList.length (by simp [DataW.weights])
      have h3 : reachBytes < 2 ^ 47 := reachBytes_lt
      simp at h2
      have h4 : s.data.size = s.size := rfl
      omega
    simp only [List.cons.injEq, and_true] at e0 e1 e2 e3 e4 e5
    refine ⟨⟨s, n1, n2, b3, b4, n5⟩, ⟨hs, i64_bd w1, i64_bd w2, i64_bd w5⟩, ?_⟩
    simp [Fld.cells, e0, e1, e2, e3, e4, e5]

theorem fields_of_trod {H : Type} {enc : TypeId × Value → H} {w : World} {v : Value} {d : DataW H} {p : List MemPlace} (hv : ∃ a n c, v = .slice a n c) (h : DataW.Trod enc Try.prog w 0 (fun _ => true) true 87 v d p) (hL : Light Try.prog 87 d) :
    ∃ fs, FieldsAt w v fs := by
  obtain ⟨n, fuel, css, D, Pl, hs, hel⟩ := seg_of_trod Try.underlying87 cells_fld (by rw [bytes_fld]; omega) hv h hL
  haveI : Inhabited Fld := ⟨.zero⟩
  obtain ⟨f, hf⟩ := choose_lt (α := Fld) (n := n) (p := fun i f => f.Ok ∧ css i = f.cells) (fun i hi => by
    obtain ⟨h1, h2, h3⟩ := hel i hi
    exact fld_of_trod h2 h3)
  refine ⟨(List.range n).map f, ?_, fun g hg => ?_⟩
  · rw [List.length_map, List.length_range]
    have : ((List.range n).map f).flatMap Fld.cells = (List.range n).flatMap css := by
      rw [List.flatMap_map]
      exact flatMap_congr' (fun i hi => ((hf i (List.mem_range.1 hi)).2).symm)
    rw [this]
    exact hs
  · obtain ⟨i, hi, rfl⟩ := List.mem_map.1 hg
    exact (hf i (List.mem_range.1 hi)).1

set_option maxRecDepth 100000 in
theorem schema_of_trod {H : Type} {enc : TypeId × Value → H} {w : World} {v : Value} {d : DataW H} {p : List MemPlace} (hv : ∃ a n c, v = .slice a n c) (h : DataW.Trod enc Try.prog w 0 (fun _ => true) true 25 v d p) (hL : Light Try.prog 25 d) :
    ∃ s, SchemaAt w v s := by
  obtain ⟨n, fuel, css, D, Pl, hs, hel⟩ := seg_of_trod Try.underlying25 cells_mes (by rw [bytes_mes]; omega) hv h hL
  haveI : Inhabited (Mes × Value) := ⟨(.zero, undef)⟩
  obtain ⟨m, hm⟩ := choose_lt (α := Mes × Value) (n := n) (p := fun i m => m.1.name.size ≤ 140737488355328 ∧ css i = mesCells m ∧ FieldsAt w m.2 m.1.fields) (fun i hi => by
    obtain ⟨h1, h2, h3⟩ := hel i hi
    obtain ⟨xs, k, -, hx, hl, hlen, hf⟩ := DataW.trod_struct Try.underlying89 h2
    simp only [Prod.mk.injEq] at hx
    obtain ⟨hx, -⟩ := hx
    rw [hx] at h3
    have hsub := light_struct Try.underlying89 h3
    match hcs : css i, h1, xs, hlen with
    | [c0, c1], _, [x0, x1], _ =>
      rw [hcs] at hf
      have g0 : DataW.trod enc Try.prog w 0 (fun _ => true) true k 9 [c0] = some x0 := by have := hf 0 _ rfl; simpa [cells_str] using this
      have g1 : DataW.trod enc Try.prog w 0 (fun _ => true) true k 87 [c1] = some x1 := by have := hf 1 _ rfl; simpa [cells_flds] using this
      obtain ⟨s, e0, r0, -⟩ := DataW.trod_string Try.underlying9 g0
      have hs : s.size ≤ 140737488355328 := by
        have h1 := hsub 0 _ _ rfl rfl
        rw [r0] at h1
        have h2 := h1 s.data.toList.length (by simp [DataW.weights])
        have h3 : reachBytes < 2 ^ 47 := reachBytes_lt
        simp at h2
        have h4 : s.data.size = s.size := rfl
        omega
      obtain ⟨a, q, c, rfl⟩ := trod_slice_form Try.underlying87 g1
      obtain ⟨fs, hfs⟩ := fields_of_trod ⟨a, q, c, rfl⟩ ⟨k, by simpa [Value.cells] using g1⟩ (hsub 1 _ _ rfl rfl)
      simp only [List.cons.injEq, and_true] at e0
      exact ⟨(⟨s, fs⟩, .slice a q c), hs, by simp [mesCells, e0], hfs⟩)
  refine ⟨(List.range n).map fun i => (m i).1, (List.range n).map fun i => (m i).2, by simp, ?_, fun x hx => ?_, fun i hi => ?_⟩
  · rw [List.length_map, List.length_range]
    have : (((List.range n).map fun i => (m i).1).zip ((List.range n).map fun i => (m i).2)).flatMap mesCells = (List.range n).flatMap css := by
      rw [List.zip_map', List.flatMap_map]
      exact flatMap_congr' (fun i hi => ((hm i (List.mem_range.1 hi)).2.1).symm)
    rw [this]
    exact hs
  · obtain ⟨i, hi, rfl⟩ := List.mem_map.1 hx
    exact (hm i (List.mem_range.1 hi)).1
  · rw [List.length_map, List.length_range] at hi
    rw [getD_range n _ undef i hi, getD_range n _ Mes.zero i hi]
    exact (hm i hi).2.2

end Go.Proofs.Ytgephhmkaonahaa
