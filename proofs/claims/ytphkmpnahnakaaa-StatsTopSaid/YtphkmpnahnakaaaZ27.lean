/- slices.symMergeCmpFunc of ints: two sorted runs become one. At most 2^40 ints. -/
import Derived.Test.YtphkmpnahnakaaaZ26
namespace Go.Proofs.Ytphkmpnahnakaaa
open Go.RowKit
theorem row_get_leftR {P L : List TR} {r : List TR} (k t : Nat) (x : TR) (hk : k = P.length + t) (hx : L[t]? = some x) : (P ++ L ++ r).getD k zTR = x := by
  have hl : t < L.length := (List.getElem?_eq_some_iff.1 hx).1
  subst hk
  rw [List.append_assoc, List.getD_eq_getElem?_getD, List.getElem?_append_right (by omega), Nat.add_sub_cancel_left, List.getElem?_append_left hl, hx]; rfl
set_option maxRecDepth 100000 in
set_option maxHeartbeats 8000000 in
theorem symMerge_leftR {w0 w : World} {g c N : Nat} {P Q S : List TR} {x : TR} (hN : N = (P ++ [x] ++ Q ++ S).length) (hN40 : N ≤ 1099511627776) (F : Nat) (cap : Array Value) (cf : TR → TR → Int) (hcf : ∀ (args : Array Value) (w : World), (callFunc F args).run Try.prog w = .ok (.enter F args) w)
    (hcmp : CmpIR F cap cf w0 g (x :: Q)) {R : TR → TR → Prop} (ht : ∀ x y z, R x y → R y z → R x z) (hQ : Q.Pairwise R) (hA : ∀ y ∈ Q, AgreeR cf R x y) (hI : RRow w g (P ++ [x] ++ Q ++ S)) (hG : w0.grownBy w (some g))
    (a m b : Nat) (ha : a = P.length) (hm : m = a + 1) (hb : b = m + Q.length) :
    Calls Try.prog 38 #[.slice (some ⟨g, 0, none⟩) N c, .int .i64 (a : Int), .int .i64 (m : Int), .int .i64 (b : Int), .func (.func F) #[] cap] w (SortPostR w0 g R P ([x] ++ Q) S) := by
  have HCM := hid hcmp
  have HT := hid ht
  have HA := hid hA
  have HQS := hid hQ
  have HI := hid (And.intro hI hG)
  have HP := hid (And.intro ha hb)
  have HN := hid hN
  have hbN : b ≤ N := by rw [hb, hm, ha, hN]; simp only [List.length_append, List.length_singleton]; omega
  have hmb : m ≤ b := by omega
  have HMA : Hid (m = a + 1) := hm
  have hma : (m : Int) - (a : Int) = 1 := by omega
  have ham : a < m := by omega
  obtain ⟨QQ, HQ⟩ : ∃ QQ : Ending → World → Prop, Hid (QQ = SortPostR w0 g R P ([x] ++ Q) S) := ⟨_, rfl⟩
  rw [← HQ.out]
  have HIX : Hid (∀ k : Nat, k < N → ∀ W, (Instr.indexAt 27 (.slice (some ⟨g, 0, none⟩) N c) (.int .i64 (k : Int))).run Try.prog W = .ok (.pointer (some ⟨g, k * 4, none⟩)) W) := by
    intro k hk W
    have := index_run Try.underlying27 size_rowS (a := some ⟨g, 0, none⟩) rfl k hk W (cap := c)
    rwa [Nat.zero_add] at this
  have HGX : Hid ((P ++ [x] ++ Q ++ S).getD a zTR = x) := by
    rw [Hid, List.append_assoc]; exact row_get_leftR (L := [x]) a 0 x ha rfl
  clear hcmp ht hQ hA hI hG ha hm hb hN
  go_enter Try.func38, Try.ntmps38
  go_wp2_with fail
  go_loopw [10, 11] (fun v10 v11 wr => ∃ i j : Nat, v10 = .int .i64 (i : Int) ∧ v11 = .int .i64 (j : Int) ∧ m ≤ i ∧ i ≤ j ∧ j ≤ b ∧ Hid ((i = m ∨ ∃ y, Q[i - m - 1]? = some y ∧ R y x) ∧ (j = b ∨ ∃ y, Q[j - m]? = some y ∧ R x y) ∧ RRow wr g (P ++ [x] ++ Q ++ S) ∧ w0.grownBy wr (some g))) (fun v10 v11 _ => (intOf v11).toNat - (intOf v10).toNat)
  case atStart => exact ⟨m, b, rfl, rfl, by omega, by omega, by omega, .inl rfl, .inl rfl, HI.out⟩
  case round =>
    obtain ⟨i, j, rfl, rfl, hmi, hij, hjb, HZ⟩ := hrel
    by_cases hlt : i < j
    · obtain ⟨h, HH⟩ : ∃ h, Hid (h = (i + j) / 2) := ⟨_, rfl⟩
      have hh : ((i : Int) + (j : Int)) / 2 = (h : Int) := by have := HH.out; omega
      have hih : i ≤ h := by have := HH.out; omega
      have hhj : h < j := by have := HH.out; omega
      have hhN : h < N := by omega
      have haN : a < N := by omega
      obtain ⟨y, hy⟩ : ∃ y, Q[h - m]? = some y := ⟨_, List.getElem?_eq_getElem (by have := HP.out.2; omega)⟩
      have HY := hid hy
      have hix := HIX.out h hhN
      have hix2 := HIX.out a haN
      have HLT := hid (And.intro hhj hih)
      have g0 := HZ.out.2.2.1.cell h (by rw [← HN.out]; exact hhN)
      have HGY : Hid ((P ++ [x] ++ Q ++ S).getD h zTR = y) := row_get_leftR h (h - m) y (by have := HP.out.1; have := HMA.out; simp only [List.length_append, List.length_singleton]; omega) hy
      rw [HGY.out] at g0
      unfold Cells4 at g0
      have g1 := HZ.out.2.2.1.cell a (by rw [← HN.out]; exact haN)
      rw [HGX.out] at g1
      unfold Cells4 at g1
      have HC1 := hid (HCM.out y x wr.drew (by simp [List.mem_of_getElem? hy]) (by simp) (grown_drew HZ.out.2.2.2))
      have HAG := hid (HA.out y (List.mem_of_getElem? hy))
      clear hy
      go_wp2_with fail
      go_still_tail 9, (by kernel_rfl)
      change wpList _ _ _ _ _ wr.drew
      go_wp2_with fail
      refine HC1.out.mono ?_
      rintro e w3 ⟨rfl, hb3⟩
      have HZ3 : Hid (RRow w3 g (P ++ [x] ++ Q ++ S) ∧ w0.grownBy w3 (some g)) := ⟨(HZ.out.2.2.1.of_block (w' := wr.drew) rfl).below hb3, grown_belowS (grown_drew HZ.out.2.2.2) hb3⟩
      clear hb3
      by_cases hc : cf y x < 0
      · have hc1 : decide (cf y x < 0) = true := decide_eq_true hc
        have HRY : Hid (R y x) := HAG.out.1.1 hc
        clear hc
        go_wp2_with fail
        go_roundw
        case rel => exact ⟨h + 1, j, by go_num, rfl, by omega, by omega, hjb, .inr ⟨y, by rw [show h + 1 - m - 1 = h - m by omega]; exact HY.out, HRY.out⟩, HZ.out.2.1, HZ3.out⟩
        case measure => simp [intOf]; omega
      · have hc1 : decide (cf y x < 0) = false := decide_eq_false hc
        have HRY : Hid (R x y) := HAG.out.2.resolve_right fun h => hc (HAG.out.1.2 h)
        clear hc
        go_wp2_with fail
        go_roundw
        case rel => exact ⟨i, h, rfl, rfl, hmi, hih, by omega, HZ.out.1, .inr ⟨y, HY.out, HRY.out⟩, HZ3.out⟩
        case measure => simp [intOf]; omega
    · obtain rfl : i = j := by omega
      obtain ⟨p, HPP⟩ : ∃ p, Hid (p = i - m) := ⟨_, rfl⟩
      have hpi : i = m + p := by have := HPP.out; omega
      have HPI := hid hpi
      have hpQ : p ≤ Q.length := by have := HP.out.2; omega
      have HPQ := hid hpQ
      have HRES : Hid ((Q.take p ++ x :: Q.drop p).Pairwise R ∧ (Q.take p ++ x :: Q.drop p).Perm ([x] ++ Q)) := by
        refine ⟨srt_insert HT.out HQS.out p ?_ ?_, perm_insert x p⟩
        · rcases HZ.out.1 with h | h
          · exact .inl (by omega)
          · rw [show i - m - 1 = p - 1 by omega] at h; exact .inr h
        · rcases HZ.out.2.1 with h | h
          · exact .inl (by have := HP.out.2; omega)
          · rw [show i - m = p by omega] at h; exact .inr h
      have hmw : (i : Int) - 1 = (a : Int) + (p : Int) := by have := HMA.out; omega
      have hpN : a + p < N := by have := HMA.out; omega
      obtain ⟨wo, rfl⟩ : ∃ wo : World, wo = wr := ⟨_, rfl⟩
      clear hpi hpQ hlt
      go_wp2_with fail
      go_loopw [13] (fun v13 wr => ∃ k t : Nat, v13 = .int .i64 (k : Int) ∧ a ≤ k ∧ k ≤ a + p ∧ Hid (k = a + t ∧ RRow wr g (putAt P Q t x S) ∧ w0.grownBy wr (some g))) (fun v13 _ => a + p - (intOf v13).toNat)
      case atStart =>
        refine ⟨a, 0, rfl, by omega, by omega, rfl, ?_, HZ.out.2.2.2⟩
        have := HZ.out.2.2.1
        unfold putAt
        simpa using this
      case round =>
        obtain ⟨k, t, rfl, hak, hkp, HK⟩ := hrel
        by_cases hlt : k < a + p
        · have htp : t < p := by have := HK.out.1; omega
          obtain ⟨y, hy⟩ : ∃ y, Q[t]? = some y := ⟨_, List.getElem?_eq_getElem (by have := HPQ.out; omega)⟩
          obtain ⟨k1, HK1⟩ : ∃ k1, Hid (k1 = k + 1) := ⟨_, rfl⟩
          have hk1 : (k : Int) + 1 = (k1 : Int) := by have := HK1.out; omega
          have hkN : k < N := by omega
          have hk1N : k1 < N := by have := HK1.out; omega
          have HUP := hid (putAt_up zTR P Q t x y S hy k k1 (by rw [HK.out.1, HP.out.1]) HK1.out)
          have HL : Hid (∀ t, (putAt P Q t x S).length = N) := by
            intro t
            rw [putAt_len, HN.out]
            simp only [List.length_append, List.length_singleton]
            omega
          have HGK : Hid ((putAt P Q t x S).getD k zTR = x) := putAt_get zTR P Q t x S (by have := HPQ.out; omega) k (by rw [HK.out.1, HP.out.1])
          have hix := HIX.out k hkN
          have hix2 := HIX.out k1 hk1N
          rw [← hk1] at hix2
          have g0 := HK.out.2.1.cell k (by rw [HL.out]; exact hkN)
          rw [HGK.out] at g0
          unfold Cells4 at g0
          have g1 := HK.out.2.1.cell k1 (by rw [HL.out]; exact hk1N)
          rw [HUP.out.1] at g1
          unfold Cells4 at g1
          obtain ⟨WS1, WS2, hW1, hW2, hq1, hf1, ⟨zz, hq2⟩, hf2, hrow, hgr⟩ := HK.out.2.1.exch (HK.out.2.2) k k1 (by rw [HL.out]; exact hkN) (by rw [HL.out]; exact hk1N) x y HGK.out HUP.out.1
          rw [HUP.out.2.1] at hrow
          unfold set4 at hW1 hW2
          unfold Cells4 at hq1 hq2
          have HSW := hid hrow
          have HGS := hid hgr
          have HW1 := hid hW1
          have HW2 := hid hW2
          have HQ2 := hid (And.intro hq2 hf2)
          clear hrow hgr hW1 hW2 hq2 hf2 g0 g1
          have hw1 : IntKind.i64.wrap ((k : Int) + 1) = (k : Int) + 1 := by rw [IntKind.wrap_i64]; omega
          clear hy hk1
          go_wp2_with fail
          refine wp_region_seq (fun _ => True) (fun w' => (w'.cell? ⟨g, k * 4, none⟩ = some (.string x.path) ∧ w'.cell? ⟨g, k * 4 + 1, none⟩ = some (.int .i64 (x.recs : Int)) ∧ w'.cell? ⟨g, k * 4 + 2, none⟩ = some (.int .i64 (x.bytes : Int)) ∧ w'.cell? ⟨g, k * 4 + 3, none⟩ = some (.int .i64 (x.vals : Int))) ∧ (w'.cell? ⟨g, k1 * 4, none⟩ = some (.string y.path) ∧ w'.cell? ⟨g, k1 * 4 + 1, none⟩ = some (.int .i64 (y.recs : Int)) ∧ w'.cell? ⟨g, k1 * 4 + 2, none⟩ = some (.int .i64 (y.bytes : Int)) ∧ w'.cell? ⟨g, k1 * 4 + 3, none⟩ = some (.int .i64 (y.vals : Int)))) 15 [0, 0, 0, 0, 0, 0, 0, 0, 0, 1, 0, 0, 0, 1, 0, 2, 0, 2] (by kernel_rfl) rfl (by kernel_rfl) (fun _ _ dst _ _ h => by cases dst <;> exact h) trivial hq1 (fun OPS _ => ?_)
          refine seqG0 (v := ?v0) ?hy0 ?hr0
          case hy0 => (intro w hw; go_simp; all_goals rfl)
          simp only [Act.put, List.setIfInBounds_toArray, List.set_cons_zero, List.set_cons_succ]
          refine seqG0 (v := ?v1) ?hy1 ?hr1
          case hy1 => (intro w hw; go_simp; all_goals rfl)
          simp only [Act.put, List.setIfInBounds_toArray, List.set_cons_zero, List.set_cons_succ]
          refine seqG0 (v := ?v2) ?hy2 ?hr2
          case hy2 => (intro w hw; go_simp; all_goals rfl)
          simp only [Act.put, List.setIfInBounds_toArray, List.set_cons_zero, List.set_cons_succ]
          refine seqG0 (v := ?v3) ?hy3 ?hr3
          case hy3 => (intro w hw; go_simp; all_goals rfl)
          simp only [Act.put, List.setIfInBounds_toArray, List.set_cons_zero, List.set_cons_succ]
          refine seqG0 (v := ?v4) ?hy4 ?hr4
          case hy4 => (intro w hw; go_simp; all_goals rfl)
          simp only [Act.put, List.setIfInBounds_toArray, List.set_cons_zero, List.set_cons_succ]
          refine seqG0 (v := ?v5) ?hy5 ?hr5
          case hy5 => (intro w hw; go_simp; all_goals rfl)
          simp only [Act.put, List.setIfInBounds_toArray, List.set_cons_zero, List.set_cons_succ]
          refine seqG0 (v := ?v6) ?hy6 ?hr6
          case hy6 => (intro w hw; go_simp; all_goals rfl)
          simp only [Act.put, List.setIfInBounds_toArray, List.set_cons_zero, List.set_cons_succ]
          refine seqG0 (v := ?v7) ?hy7 ?hr7
          case hy7 => (intro w hw; go_simp; all_goals rfl)
          simp only [Act.put, List.setIfInBounds_toArray, List.set_cons_zero, List.set_cons_succ]
          refine seqG0 (v := ?v8) ?hy8 ?hr8
          case hy8 => (intro w hw; go_simp; all_goals rfl)
          simp only [Act.put, List.setIfInBounds_toArray, List.set_cons_zero, List.set_cons_succ]
          refine seqG1 (v := ?v9) ?hy9 ?hr9
          case hy9 => (intro w hw; go_simp; all_goals rfl)
          simp only [Act.put, List.setIfInBounds_toArray, List.set_cons_zero, List.set_cons_succ]
          refine seqG0 (v := ?v10) ?hy10 ?hr10
          case hy10 => (intro w hw; go_simp; all_goals rfl)
          simp only [Act.put, List.setIfInBounds_toArray, List.set_cons_zero, List.set_cons_succ]
          refine seqG0 (v := ?v11) ?hy11 ?hr11
          case hy11 => (intro w hw; go_simp; all_goals rfl)
          simp only [Act.put, List.setIfInBounds_toArray, List.set_cons_zero, List.set_cons_succ]
          refine seqG0 (v := ?v12) ?hy12 ?hr12
          case hy12 => (intro w hw; go_simp; all_goals rfl)
          simp only [Act.put, List.setIfInBounds_toArray, List.set_cons_zero, List.set_cons_succ]
          refine seqG1 (v := ?v13) ?hy13 ?hr13
          case hy13 => (intro w hw; go_simp; all_goals rfl)
          simp only [Act.put, List.setIfInBounds_toArray, List.set_cons_zero, List.set_cons_succ]
          refine seqG0 (v := ?v14) ?hy14 ?hr14
          case hy14 => (intro w hw; go_simp; all_goals rfl)
          simp only [Act.put, List.setIfInBounds_toArray, List.set_cons_zero, List.set_cons_succ]
          obtain ⟨⟨j0, j1, j2, j3⟩, f0, f1, f2, f3, fl⟩ := hf1
          refine seqG2 (fun K12 HK12 => ?_)
          go_wp2_with fail
          refine HK12.out _ _ trivial ?_
          clear HK12 K12
          intro _
          rw [← HW1.out]
          clear hq1 j0 j1 j2 j3 f0 f1 f2 f3 fl
          obtain ⟨⟨j0, j1, j2, j3⟩, f0, f1, f2, f3⟩ := HQ2.out
          refine seqG0 (v := ?v16) ?hy16 ?hr16
          case hy16 => (intro w hw; go_simp; all_goals rfl)
          simp only [Act.put, List.setIfInBounds_toArray, List.set_cons_zero, List.set_cons_succ]
          refine seqG2 (fun K12 HK12 => ?_)
          go_wp2_with fail
          refine HK12.out _ _ trivial ?_
          clear HK12 K12
          intro _
          rw [← HW2.out]
          clear j0 j1 j2 j3 f0 f1 f2 f3
          refine seqG_end ?_
          go_wp2_with fail
          go_roundw
          case rel => exact ⟨k + 1, t + 1, by go_num, by omega, by omega, by have := HK.out.1; omega, HSW.out, HGS.out⟩
          case measure => simp [intOf]; omega
        · have HT2 : Hid (t = p) := by have := HK.out.1; show t = p; omega
          go_wp2_with fail
          go_end0
          rw [HQ.out]
          refine ⟨rfl, _, HRES.out.2, HRES.out.1, ?_, HK.out.2.2⟩
          have := HK.out.2.1
          rw [HT2.out] at this
          exact this
set_option maxRecDepth 100000 in
set_option maxHeartbeats 8000000 in
theorem symMerge_rightR {w0 w : World} {g c N : Nat} {P L S : List TR} {y : TR} (hN : N = (P ++ L ++ [y] ++ S).length) (hN40 : N ≤ 1099511627776) (F : Nat) (cap : Array Value) (cf : TR → TR → Int) (hcf : ∀ (args : Array Value) (w : World), (callFunc F args).run Try.prog w = .ok (.enter F args) w)
    (hcmp : CmpIR F cap cf w0 g (y :: L)) {R : TR → TR → Prop} (ht : ∀ x y z, R x y → R y z → R x z) (hL : L.Pairwise R) (hL1 : L.length ≠ 1) (hA : ∀ x ∈ L, AgreeR cf R x y) (hI : RRow w g (P ++ L ++ [y] ++ S)) (hG : w0.grownBy w (some g))
    (a m b : Nat) (ha : a = P.length) (hm : m = a + L.length) (hb : b = m + 1) :
    Calls Try.prog 38 #[.slice (some ⟨g, 0, none⟩) N c, .int .i64 (a : Int), .int .i64 (m : Int), .int .i64 (b : Int), .func (.func F) #[] cap] w (SortPostR w0 g R P (L ++ [y]) S) := by
  have HCM := hid hcmp
  have HT := hid ht
  have HA := hid hA
  have HLS := hid hL
  have HI := hid (And.intro hI hG)
  have HP := hid (And.intro ha hm)
  have HN := hid hN
  have hbN : b ≤ N := by rw [hb, hm, ha, hN]; simp only [List.length_append, List.length_singleton]; omega
  have ham : a ≤ m := by omega
  have HBM : Hid (b = m + 1) := hb
  have hbm : (b : Int) - (m : Int) = 1 := by omega
  have n1 : ((m : Int) - (a : Int) == 1) = false := by simp; omega
  have n2 : decide ((m : Int) - (a : Int) = 1) = false := decide_eq_false (by omega)
  have hmN : m < N := by omega
  obtain ⟨QQ, HQ⟩ : ∃ QQ : Ending → World → Prop, Hid (QQ = SortPostR w0 g R P (L ++ [y]) S) := ⟨_, rfl⟩
  rw [← HQ.out]
  have HIX : Hid (∀ k : Nat, k < N → ∀ W, (Instr.indexAt 27 (.slice (some ⟨g, 0, none⟩) N c) (.int .i64 (k : Int))).run Try.prog W = .ok (.pointer (some ⟨g, k * 4, none⟩)) W) := by
    intro k hk W
    have := index_run Try.underlying27 size_rowS (a := some ⟨g, 0, none⟩) rfl k hk W (cap := c)
    rwa [Nat.zero_add] at this
  have HGM : Hid ((P ++ L ++ [y] ++ S).getD m zTR = y) := row_get_leftR (P := P ++ L) (L := [y]) m 0 y (by simp only [List.length_append]; omega) rfl
  clear hcmp ht hL hL1 hA hI hG ha hm hb hN
  go_enter Try.func38, Try.ntmps38
  go_wp2_with fail
  go_loopw [14, 15] (fun v14 v15 wr => ∃ i j : Nat, v14 = .int .i64 (i : Int) ∧ v15 = .int .i64 (j : Int) ∧ a ≤ i ∧ i ≤ j ∧ j ≤ m ∧ Hid ((i = a ∨ ∃ x, L[i - a - 1]? = some x ∧ R x y) ∧ (j = m ∨ ∃ x, L[j - a]? = some x ∧ R y x) ∧ RRow wr g (P ++ L ++ [y] ++ S) ∧ w0.grownBy wr (some g))) (fun v14 v15 _ => (intOf v15).toNat - (intOf v14).toNat)
  case atStart => exact ⟨a, m, rfl, rfl, by omega, by omega, by omega, .inl rfl, .inl rfl, HI.out⟩
  case round =>
    obtain ⟨i, j, rfl, rfl, hmi, hij, hjb, HZ⟩ := hrel
    by_cases hlt : i < j
    · obtain ⟨h, HH⟩ : ∃ h, Hid (h = (i + j) / 2) := ⟨_, rfl⟩
      have hh : ((i : Int) + (j : Int)) / 2 = (h : Int) := by have := HH.out; omega
      have hih : i ≤ h := by have := HH.out; omega
      have hhj : h < j := by have := HH.out; omega
      have hhN : h < N := by omega
      obtain ⟨x, hx⟩ : ∃ x, L[h - a]? = some x := ⟨_, List.getElem?_eq_getElem (by have := HP.out.2; omega)⟩
      have HX := hid hx
      have hix := HIX.out h hhN
      have hix2 := HIX.out m hmN
      have g0 := HZ.out.2.2.1.cell h (by rw [← HN.out]; exact hhN)
      have HGX : Hid ((P ++ L ++ [y] ++ S).getD h zTR = x) := by
        have h1 := row_get_leftR (P := P) (L := L) (r := [y] ++ S) h (h - a) x (by have := HP.out.1; omega) hx
        rw [Hid, List.append_assoc]; exact h1
      rw [HGX.out] at g0
      unfold Cells4 at g0
      have g1 := HZ.out.2.2.1.cell m (by rw [← HN.out]; exact hmN)
      rw [HGM.out] at g1
      unfold Cells4 at g1
      have HC1 := hid (HCM.out y x wr.drew (by simp) (by simp [List.mem_of_getElem? hx]) (grown_drew HZ.out.2.2.2))
      have HAG := hid (HA.out x (List.mem_of_getElem? hx))
      clear hx
      go_wp2_with fail
      go_still_tail 9, (by kernel_rfl)
      change wpList _ _ _ _ _ wr.drew
      go_wp2_with fail
      refine HC1.out.mono ?_
      rintro e w3 ⟨rfl, hb3⟩
      have HZ3 : Hid (RRow w3 g (P ++ L ++ [y] ++ S) ∧ w0.grownBy w3 (some g)) := ⟨(HZ.out.2.2.1.of_block (w' := wr.drew) rfl).below hb3, grown_belowS (grown_drew HZ.out.2.2.2) hb3⟩
      clear hb3
      by_cases hc : cf y x < 0
      · have hc1 : decide (cf y x < 0) = true := decide_eq_true hc
        have HRY : Hid (R y x) := HAG.out.1.1 hc
        clear hc
        go_wp2_with fail
        go_roundw
        case rel => exact ⟨i, h, rfl, rfl, hmi, hih, by omega, HZ.out.1, .inr ⟨x, HX.out, HRY.out⟩, HZ3.out⟩
        case measure => simp [intOf]; omega
      · have hc1 : decide (cf y x < 0) = false := decide_eq_false hc
        have HRY : Hid (R x y) := HAG.out.2.resolve_right fun h => hc (HAG.out.1.2 h)
        clear hc
        go_wp2_with fail
        go_roundw
        case rel => exact ⟨h + 1, j, by go_num, rfl, by omega, by omega, hjb, .inr ⟨x, by rw [show h + 1 - a - 1 = h - a by omega]; exact HX.out, HRY.out⟩, HZ.out.2.1, HZ3.out⟩
        case measure => simp [intOf]; omega
    · obtain rfl : i = j := by omega
      obtain ⟨p, HPP⟩ : ∃ p, Hid (p = i - a) := ⟨_, rfl⟩
      have hpi : i = a + p := by have := HPP.out; omega
      have HPI := hid hpi
      have hpL : p ≤ L.length := by have := HP.out.2; omega
      have HPL := hid hpL
      have HRES : Hid ((L.take p ++ y :: L.drop p).Pairwise R ∧ (L.take p ++ y :: L.drop p).Perm (L ++ [y])) := by
        refine ⟨srt_insert HT.out HLS.out p ?_ ?_, (perm_insert y p).trans (List.perm_append_singleton y L).symm⟩
        · rcases HZ.out.1 with h | h
          · exact .inl (by omega)
          · rw [show i - a - 1 = p - 1 by omega] at h; exact .inr h
        · rcases HZ.out.2.1 with h | h
          · exact .inl (by have := HP.out.2; omega)
          · rw [show i - a = p by omega] at h; exact .inr h
      have HIAP := hid hpi
      obtain ⟨wo, rfl⟩ : ∃ wo : World, wo = wr := ⟨_, rfl⟩
      clear hpi hpL hlt
      go_wp2_with fail
      go_loopw [17] (fun v17 wr => ∃ k t : Nat, v17 = .int .i64 (k : Int) ∧ i ≤ k ∧ k ≤ m ∧ Hid (k = a + t ∧ RRow wr g (putAt P L t y S) ∧ w0.grownBy wr (some g))) (fun v17 _ => (intOf v17).toNat - i)
      case atStart =>
        refine ⟨m, L.length, rfl, by omega, by omega, HP.out.2, ?_, HZ.out.2.2.2⟩
        have := HZ.out.2.2.1
        unfold putAt
        simpa using this
      case round =>
        obtain ⟨k, t, rfl, hak, hkp, HK⟩ := hrel
        by_cases hlt : i < k
        · obtain ⟨t1, HT1⟩ : ∃ t1, Hid (t = t1 + 1) := ⟨t - 1, by have := HK.out.1; have := HIAP.out; show t = t - 1 + 1; omega⟩
          obtain ⟨x, hx⟩ : ∃ x, L[t1]? = some x := ⟨_, List.getElem?_eq_getElem (by have := HP.out.2; have := HK.out.1; have := HT1.out; omega)⟩
          obtain ⟨k1, HK1⟩ : ∃ k1, Hid (k1 + 1 = k) := ⟨k - 1, by show k - 1 + 1 = k; omega⟩
          have hk1 : (k : Int) - 1 = (k1 : Int) := by have := HK1.out; omega
          have hkN : k < N := by omega
          have hk1N : k1 < N := by have := HK1.out; omega
          have HUP := hid (putAt_up zTR P L t1 y x S hx k1 k (by have := HK.out.1; have := HT1.out; have := HK1.out; have := HP.out.1; omega) HK1.out.symm)
          rw [← HT1.out] at HUP
          have HL : Hid (∀ t, (putAt P L t y S).length = N) := by
            intro t
            rw [putAt_len, HN.out]
            simp only [List.length_append, List.length_singleton]
          have HGK : Hid ((putAt P L t y S).getD k zTR = y) := putAt_get zTR P L t y S (by have := HP.out.2; have := HK.out.1; omega) k (by rw [HK.out.1, HP.out.1])
          have hix := HIX.out k hkN
          have hix2 := HIX.out k1 hk1N
          rw [← hk1] at hix2
          have g0 := HK.out.2.1.cell k (by rw [HL.out]; exact hkN)
          rw [HGK.out] at g0
          unfold Cells4 at g0
          have g1 := HK.out.2.1.cell k1 (by rw [HL.out]; exact hk1N)
          rw [HUP.out.2.2.2] at g1
          unfold Cells4 at g1
          obtain ⟨WS1, WS2, hW1, hW2, hq1, hf1, ⟨zz, hq2⟩, hf2, hrow, hgr⟩ := HK.out.2.1.exch (HK.out.2.2) k k1 (by rw [HL.out]; exact hkN) (by rw [HL.out]; exact hk1N) y x HGK.out HUP.out.2.2.2
          rw [HUP.out.2.2.1] at hrow
          unfold set4 at hW1 hW2
          unfold Cells4 at hq1 hq2
          have HSW := hid hrow
          have HGS := hid hgr
          have HW1 := hid hW1
          have HW2 := hid hW2
          have HQ2 := hid (And.intro hq2 hf2)
          clear hrow hgr hW1 hW2 hq2 hf2 g0 g1
          have hw1 : IntKind.i64.wrap ((k : Int) - 1) = (k : Int) - 1 := by rw [IntKind.wrap_i64]; omega
          have hkk : 1 ≤ k := by omega
          have HK1' : Hid ((k : Int) - 1 = (k1 : Int)) := hk1
          clear hx hk1
          go_wp2_with fail
          refine wp_region_seq (fun _ => True) (fun w' => (w'.cell? ⟨g, k * 4, none⟩ = some (.string y.path) ∧ w'.cell? ⟨g, k * 4 + 1, none⟩ = some (.int .i64 (y.recs : Int)) ∧ w'.cell? ⟨g, k * 4 + 2, none⟩ = some (.int .i64 (y.bytes : Int)) ∧ w'.cell? ⟨g, k * 4 + 3, none⟩ = some (.int .i64 (y.vals : Int))) ∧ (w'.cell? ⟨g, k1 * 4, none⟩ = some (.string x.path) ∧ w'.cell? ⟨g, k1 * 4 + 1, none⟩ = some (.int .i64 (x.recs : Int)) ∧ w'.cell? ⟨g, k1 * 4 + 2, none⟩ = some (.int .i64 (x.bytes : Int)) ∧ w'.cell? ⟨g, k1 * 4 + 3, none⟩ = some (.int .i64 (x.vals : Int)))) 15 [0, 0, 0, 0, 0, 0, 0, 0, 0, 1, 0, 0, 0, 1, 0, 2, 0, 2] (by kernel_rfl) rfl (by kernel_rfl) (fun _ _ dst _ _ h => by cases dst <;> exact h) trivial hq1 (fun OPS _ => ?_)
          refine seqG0 (v := ?v0) ?hy0 ?hr0
          case hy0 => (intro w hw; go_simp; all_goals rfl)
          simp only [Act.put, List.setIfInBounds_toArray, List.set_cons_zero, List.set_cons_succ]
          refine seqG0 (v := ?v1) ?hy1 ?hr1
          case hy1 => (intro w hw; go_simp; all_goals rfl)
          simp only [Act.put, List.setIfInBounds_toArray, List.set_cons_zero, List.set_cons_succ]
          refine seqG0 (v := ?v2) ?hy2 ?hr2
          case hy2 => (intro w hw; go_simp; all_goals rfl)
          simp only [Act.put, List.setIfInBounds_toArray, List.set_cons_zero, List.set_cons_succ]
          refine seqG0 (v := ?v3) ?hy3 ?hr3
          case hy3 => (intro w hw; go_simp; all_goals rfl)
          simp only [Act.put, List.setIfInBounds_toArray, List.set_cons_zero, List.set_cons_succ]
          refine seqG0 (v := ?v4) ?hy4 ?hr4
          case hy4 => (intro w hw; go_simp; all_goals rfl)
          simp only [Act.put, List.setIfInBounds_toArray, List.set_cons_zero, List.set_cons_succ]
          refine seqG0 (v := ?v5) ?hy5 ?hr5
          case hy5 => (intro w hw; go_simp; all_goals rfl)
          simp only [Act.put, List.setIfInBounds_toArray, List.set_cons_zero, List.set_cons_succ]
          refine seqG0 (v := ?v6) ?hy6 ?hr6
          case hy6 => (intro w hw; go_simp; all_goals rfl)
          simp only [Act.put, List.setIfInBounds_toArray, List.set_cons_zero, List.set_cons_succ]
          refine seqG0 (v := ?v7) ?hy7 ?hr7
          case hy7 => (intro w hw; go_simp; all_goals rfl)
          simp only [Act.put, List.setIfInBounds_toArray, List.set_cons_zero, List.set_cons_succ]
          refine seqG0 (v := ?v8) ?hy8 ?hr8
          case hy8 => (intro w hw; go_simp; all_goals rfl)
          simp only [Act.put, List.setIfInBounds_toArray, List.set_cons_zero, List.set_cons_succ]
          refine seqG1 (v := ?v9) ?hy9 ?hr9
          case hy9 => (intro w hw; go_simp; all_goals rfl)
          simp only [Act.put, List.setIfInBounds_toArray, List.set_cons_zero, List.set_cons_succ]
          refine seqG0 (v := ?v10) ?hy10 ?hr10
          case hy10 => (intro w hw; go_simp; all_goals rfl)
          simp only [Act.put, List.setIfInBounds_toArray, List.set_cons_zero, List.set_cons_succ]
          refine seqG0 (v := ?v11) ?hy11 ?hr11
          case hy11 => (intro w hw; go_simp; all_goals rfl)
          simp only [Act.put, List.setIfInBounds_toArray, List.set_cons_zero, List.set_cons_succ]
          refine seqG0 (v := ?v12) ?hy12 ?hr12
          case hy12 => (intro w hw; go_simp; all_goals rfl)
          simp only [Act.put, List.setIfInBounds_toArray, List.set_cons_zero, List.set_cons_succ]
          refine seqG1 (v := ?v13) ?hy13 ?hr13
          case hy13 => (intro w hw; go_simp; all_goals rfl)
          simp only [Act.put, List.setIfInBounds_toArray, List.set_cons_zero, List.set_cons_succ]
          refine seqG0 (v := ?v14) ?hy14 ?hr14
          case hy14 => (intro w hw; go_simp; all_goals rfl)
          simp only [Act.put, List.setIfInBounds_toArray, List.set_cons_zero, List.set_cons_succ]
          obtain ⟨⟨j0, j1, j2, j3⟩, f0, f1, f2, f3, fl⟩ := hf1
          refine seqG2 (fun K12 HK12 => ?_)
          go_wp2_with fail
          refine HK12.out _ _ trivial ?_
          clear HK12 K12
          intro _
          rw [← HW1.out]
          clear hq1 j0 j1 j2 j3 f0 f1 f2 f3 fl
          obtain ⟨⟨j0, j1, j2, j3⟩, f0, f1, f2, f3⟩ := HQ2.out
          refine seqG0 (v := ?v16) ?hy16 ?hr16
          case hy16 => (intro w hw; go_simp; all_goals rfl)
          simp only [Act.put, List.setIfInBounds_toArray, List.set_cons_zero, List.set_cons_succ]
          refine seqG2 (fun K12 HK12 => ?_)
          go_wp2_with fail
          refine HK12.out _ _ trivial ?_
          clear HK12 K12
          intro _
          rw [← HW2.out]
          clear j0 j1 j2 j3 f0 f1 f2 f3
          refine seqG_end ?_
          go_wp2_with fail
          go_roundw
          case rel => exact ⟨k1, t1, by rw [HK1'.out], by have := HK1.out; omega, by have := HK1.out; omega, by have := HK.out.1; have := HK1.out; have := HT1.out; omega, HSW.out, HGS.out⟩
          case measure => simp [intOf]; have := HK1.out; omega
        · have HT2 : Hid (t = p) := by have := HK.out.1; have := HIAP.out; show t = p; omega
          go_wp2_with fail
          go_end0
          rw [HQ.out]
          refine ⟨rfl, _, HRES.out.2, HRES.out.1, ?_, HK.out.2.2⟩
          have := HK.out.2.1
          rw [HT2.out] at this
          exact this
end Go.Proofs.Ytphkmpnahnakaaa
