/- slices.symMergeCmpFunc of ints: the great case, by itself again. At most 2^40 ints. -/
import Derived.Test.YtphkmpnahnakaaaZ27
import Derived.Deep.DeepCutAuto
namespace Go.Proofs.Ytphkmpnahnakaaa
open Go.RowKit
theorem sym_boundsR {a m b mid n lo hi : Nat} (h1 : a + 2 ≤ m) (h2 : m + 2 ≤ b) (hmid : mid = (a + b) / 2) (hn : n = mid + m) (h : (mid < m ∧ lo + b = n ∧ hi = mid) ∨ (m ≤ mid ∧ lo = a ∧ hi = m)) :
    a ≤ lo ∧ lo ≤ hi ∧ hi ≤ m ∧ hi ≤ mid ∧ m + hi ≤ n ∧ n ≤ lo + b ∧ a < mid ∧ mid < b ∧ (lo = a ∨ lo + b = n) ∧ (hi = m ∨ hi + m = n) := by omega
def SymIHR (F : Nat) (cap : Array Value) (cf : TR → TR → Int) (R : TR → TR → Prop) (w0 : World) (g c N : Nat) (len : Nat) : Prop :=
  ∀ (P L Q S : List TR) (w : World) (a m b : Nat), L.length + Q.length < len → N = (P ++ L ++ Q ++ S).length → CmpIR F cap cf w0 g (L ++ Q) → L.Pairwise R → Q.Pairwise R → (∀ x ∈ L, ∀ y ∈ Q, AgreeR cf R x y) → RRow w g (P ++ L ++ Q ++ S) → w0.grownBy w (some g) →
    a = P.length → m = a + L.length → b = m + Q.length → 0 < L.length → 0 < Q.length →
    Calls Try.prog 38 #[.slice (some ⟨g, 0, none⟩) N c, .int .i64 (a : Int), .int .i64 (m : Int), .int .i64 (b : Int), .func (.func F) #[] cap] w (SortPostR w0 g R P (L ++ Q) S)
set_option maxRecDepth 100000 in
set_option maxHeartbeats 16000000 in
theorem symMerge_stepR {w0 w : World} {g c N : Nat} {P L Q S : List TR} (hN : N = (P ++ L ++ Q ++ S).length) (hN40 : N ≤ 1099511627776) (F : Nat) (cap : Array Value) (cf : TR → TR → Int) (hcf : ∀ (args : Array Value) (w : World), (callFunc F args).run Try.prog w = .ok (.enter F args) w)
    (hcmp : CmpIR F cap cf w0 g (L ++ Q)) {R : TR → TR → Prop} (ht : ∀ x y z, R x y → R y z → R x z) (hL : L.Pairwise R) (hQ : Q.Pairwise R) (hA : ∀ x ∈ L, ∀ y ∈ Q, AgreeR cf R x y) (hI : RRow w g (P ++ L ++ Q ++ S)) (hG : w0.grownBy w (some g))
    (hih : SymIHR F cap cf R w0 g c N (L.length + Q.length))
    (a m b : Nat) (ha : a = P.length) (hm : m = a + L.length) (hb : b = m + Q.length) (hL2 : 2 ≤ L.length) (hQ2 : 2 ≤ Q.length) :
    Calls Try.prog 38 #[.slice (some ⟨g, 0, none⟩) N c, .int .i64 (a : Int), .int .i64 (m : Int), .int .i64 (b : Int), .func (.func F) #[] cap] w (SortPostR w0 g R P (L ++ Q) S) := by
  have HCM := hid hcmp
  have HT := hid ht
  have HA := hid hA
  have HLS := hid (And.intro hL hQ)
  have HIH := hid hih
  have HP := hid (And.intro ha (And.intro hm hb))
  have HN := hid hN
  have hbN : b ≤ N := by rw [hb, hm, ha, hN]; simp only [List.length_append]; omega
  have ham : a + 2 ≤ m := by omega
  have hmb : m + 2 ≤ b := by omega
  obtain ⟨mid, HMID⟩ : ∃ mid, Hid (mid = (a + b) / 2) := ⟨_, rfl⟩
  obtain ⟨n, HNN⟩ : ∃ n, Hid (n = mid + m) := ⟨_, rfl⟩
  obtain ⟨lo, hi, HLH⟩ : ∃ lo hi, Hid ((mid < m ∧ lo + b = n ∧ hi = mid) ∨ (m ≤ mid ∧ lo = a ∧ hi = m)) := by
    by_cases h : mid < m
    · exact ⟨n - b, mid, .inl ⟨h, by have := HMID.out; have := HNN.out; omega, rfl⟩⟩
    · exact ⟨a, m, .inr ⟨by omega, rfl, rfl⟩⟩
  have HBD := hid (sym_boundsR ham hmb HMID.out HNN.out HLH.out)
  have hmid : ((a : Int) + (b : Int)) / 2 = (mid : Int) := by have := HMID.out; omega
  have hn : (mid : Int) + (m : Int) = (n : Int) := by have := HNN.out; omega
  obtain ⟨p, HPN⟩ : ∃ p, Hid (p + 1 = n) := ⟨n - 1, by show n - 1 + 1 = n; have := HNN.out; omega⟩
  have hp : (n : Int) - 1 = (p : Int) := by have := HPN.out; omega
  have n1 : ((m : Int) - (a : Int) == 1) = false := by simp; omega
  have n2 : decide ((m : Int) - (a : Int) = 1) = false := decide_eq_false (by omega)
  have n3 : ((b : Int) - (m : Int) == 1) = false := by simp; omega
  have n4 : decide ((b : Int) - (m : Int) = 1) = false := decide_eq_false (by omega)
  have hmidb : a < mid ∧ mid < b := ⟨HBD.out.2.2.2.2.2.2.1, HBD.out.2.2.2.2.2.2.2.1⟩
  have hmd := hmidb.2
  have hnN : n ≤ 2 * N := by have := HNN.out; omega
  obtain ⟨QQ, HQ⟩ : ∃ QQ : Ending → World → Prop, Hid (QQ = SortPostR w0 g R P (L ++ Q) S) := ⟨_, rfl⟩
  rw [← HQ.out]
  have HIX : Hid (∀ k : Nat, k < N → ∀ W, (Instr.indexAt 27 (.slice (some ⟨g, 0, none⟩) N c) (.int .i64 (k : Int))).run Try.prog W = .ok (.pointer (some ⟨g, k * 4, none⟩)) W) := by
    intro k hk W
    have := index_run Try.underlying27 size_rowS (a := some ⟨g, 0, none⟩) rfl k hk W (cap := c)
    rwa [Nat.zero_add] at this
  have HI := hid (And.intro hI hG)
  clear hcmp ht hL hQ hA hI hG hih ha hm hb hN hL2 hQ2 hmidb
  go_enter Try.func38, Try.ntmps38
  go_upto_if 140 with fail
  go_cut [20, 21] (fun s20 s21 wx => s20 = .int .i64 (lo : Int) ∧ s21 = .int .i64 (hi : Int) ∧ Hid (RRow wx g (P ++ L ++ Q ++ S) ∧ w0.grownBy wx (some g)))
  case first =>
    as_aux_lemma =>
    rcases HLH.out with ⟨h1, h2, h3⟩ | ⟨h1, h2, h3⟩
    · have e : (n : Int) - (b : Int) = (lo : Int) := by omega
      have e2 : Hid (hi = mid) := h3
      clear h2 h3
      go_wp2_with fail
      go_meet
      exact ⟨rfl, by rw [e2.out], HI⟩
    · have e2 := hid (And.intro h2 h3)
      clear h2 h3
      go_wp2_with fail
      go_meet
      exact ⟨by rw [e2.out.1], by rw [e2.out.2], HI⟩
  case rest =>
    obtain ⟨rfl, rfl, HI2⟩ := hcut
    clear HI
    clear n1 n2 n3 n4
    have hlh := HBD.out.2.1
    have hhm := HBD.out.2.2.1
    have hmhn := HBD.out.2.2.2.2.1
    have hnlb := HBD.out.2.2.2.2.2.1
    have halo := HBD.out.1
    have HROW := fun (k : Nat) => hid (row_get_leftR (P := P) (L := L) (r := Q ++ S) (P.length + k) k)
    go_wp2_with fail
    go_loopw [20, 21] (fun v20 v21 wr => ∃ s r : Nat, v20 = .int .i64 (s : Int) ∧ v21 = .int .i64 (r : Int) ∧ lo ≤ s ∧ s ≤ r ∧ r ≤ hi ∧ Hid ((s = lo ∨ ∃ x y, L[s - 1 - a]? = some x ∧ Q[n - s - m]? = some y ∧ R x y) ∧ (r = hi ∨ ∃ x y, L[r - a]? = some x ∧ Q[n - 1 - r - m]? = some y ∧ R y x) ∧ RRow wr g (P ++ L ++ Q ++ S) ∧ w0.grownBy wr (some g))) (fun v20 v21 _ => (intOf v21).toNat - (intOf v20).toNat)
    case atStart => exact ⟨lo, hi, rfl, rfl, Nat.le_refl _, hlh, Nat.le_refl _, .inl rfl, .inl rfl, HI2.out⟩
    case round =>
      obtain ⟨s, r, rfl, rfl, hls, hsr, hrh, HZ⟩ := hrel
      by_cases hlt : s < r
      · as_aux_lemma =>
        obtain ⟨h, HH⟩ : ∃ h, Hid (h = (s + r) / 2) := ⟨_, rfl⟩
        have hh : ((s : Int) + (r : Int)) / 2 = (h : Int) := by have := HH.out; omega
        have hsh : s ≤ h := by have := HH.out; omega
        have hhr : h < r := by have := HH.out; omega
        obtain ⟨q, HQN⟩ : ∃ q, Hid (q + h + 1 = n) := ⟨n - 1 - h, by show n - 1 - h + h + 1 = n; omega⟩
        have hq : (p : Int) - (h : Int) = (q : Int) := by have := HQN.out; have := HPN.out; omega
        have hmq : m ≤ q := by have := HQN.out; omega
        have hqb : q < b := by have := HQN.out; omega
        have hhN : h < N := by omega
        have hqN : q < N := by omega
        obtain ⟨x, hx⟩ : ∃ x, L[h - a]? = some x := ⟨_, List.getElem?_eq_getElem (by have := HP.out.2.1; omega)⟩
        obtain ⟨y, hy⟩ : ∃ y, Q[q - m]? = some y := ⟨_, List.getElem?_eq_getElem (by have := HP.out.2.2; omega)⟩
        have HX := hid hx
        have HY := hid hy
        have hix := HIX.out h hhN
        have hix2 := HIX.out q hqN
        have g0 := HZ.out.2.2.1.cell h (by rw [← HN.out]; exact hhN)
        have HGX : Hid ((P ++ L ++ Q ++ S).getD h zTR = x) := by
          have h1 := row_get_leftR (P := P) (L := L) (r := Q ++ S) h (h - a) x (by have := HP.out.1; omega) hx
          rw [Hid, List.append_assoc]; exact h1
        rw [HGX.out] at g0
        unfold Cells4 at g0
        have g1 := HZ.out.2.2.1.cell q (by rw [← HN.out]; exact hqN)
        have HGY : Hid ((P ++ L ++ Q ++ S).getD q zTR = y) := row_get_leftR (P := P ++ L) (L := Q) q (q - m) y (by have := HP.out.1; have := HP.out.2.1; simp only [List.length_append]; omega) hy
        rw [HGY.out] at g1
        unfold Cells4 at g1
        have HC1 := hid (HCM.out y x wr.drew (by simp [List.mem_of_getElem? hy]) (by simp [List.mem_of_getElem? hx]) (grown_drew HZ.out.2.2.2))
        have HAG := hid (HA.out x (List.mem_of_getElem? hx) y (List.mem_of_getElem? hy))
        have hw1 : IntKind.i64.wrap ((p : Int) - (h : Int)) = (p : Int) - (h : Int) := by rw [IntKind.wrap_i64]; omega
        have hw2 : IntKind.i64.wrap (q : Int) = (q : Int) := by rw [IntKind.wrap_i64]; omega
        have HLE := hid (And.intro hls (And.intro hrh (And.intro hmq hqb)))
        clear hx hy
        go_wp2_with fail
        go_still_tail 11, (by kernel_rfl)
        change wpList _ _ _ _ _ wr.drew
        go_wp2_with fail
        refine HC1.out.mono ?_
        rintro e w3 ⟨rfl, hb3⟩
        have HZ3 : Hid (RRow w3 g (P ++ L ++ Q ++ S) ∧ w0.grownBy w3 (some g)) := ⟨(HZ.out.2.2.1.of_block (w' := wr.drew) rfl).below hb3, grown_belowS (grown_drew HZ.out.2.2.2) hb3⟩
        clear hb3
        by_cases hc : cf y x < 0
        · have hc1 : decide (cf y x < 0) = true := decide_eq_true hc
          have HRY : Hid (R y x) := HAG.out.1.1 hc
          clear hc
          go_wp2_with fail
          go_roundw
          case rel => exact ⟨s, h, rfl, rfl, hls, hsh, by omega, HZ.out.1, .inr ⟨x, y, HX.out, by rw [show n - 1 - h - m = q - m by have := HQN.out; omega]; exact HY.out, HRY.out⟩, HZ3.out⟩
          case measure => simp [intOf]; omega
        · have hc1 : decide (cf y x < 0) = false := decide_eq_false hc
          have HRY : Hid (R x y) := HAG.out.2.resolve_right fun h => hc (HAG.out.1.2 h)
          clear hc
          go_wp2_with fail
          go_roundw
          case rel => exact ⟨h + 1, r, by go_num, rfl, by omega, by omega, hrh, .inr ⟨x, y, by rw [show h + 1 - 1 - a = h - a by omega]; exact HX.out, by rw [show n - (h + 1) - m = q - m by have := HQN.out; omega]; exact HY.out, HRY.out⟩, HZ.out.2.1, HZ3.out⟩
          case measure => simp [intOf]; omega
      · obtain rfl : s = r := by omega
        obtain ⟨en, HEN⟩ : ∃ en, Hid (en + s = n) := ⟨n - s, by show n - s + s = n; omega⟩
        have he : (n : Int) - (s : Int) = (en : Int) := by have := HEN.out; omega
        have hme : m ≤ en := by have := HEN.out; omega
        have heb : en ≤ b := by have := HEN.out; omega
        have has : a ≤ s := by omega
        have hsm : s ≤ m := by omega
        have hsmid : s ≤ mid := by have := HBD.out.2.2.2.1; omega
        have hmide : mid ≤ en := by have := HEN.out; have := HNN.out; omega
        obtain ⟨L1, L2, hL12, hl1, hl2⟩ := rot_cutR (s - a) (l := L) (by have := HP.out.2.1; omega)
        obtain ⟨Q1, Q2, hQ12, hq1, hq2⟩ := rot_cutR (en - m) (l := Q) (by have := HP.out.2.2; omega)
        have HL12 := hid hL12
        have HQ12 := hid hQ12
        have HSZ : Hid (a = P.length ∧ s = a + L1.length ∧ m = s + L2.length ∧ en = m + Q1.length ∧ b = en + Q2.length ∧ mid = s + Q1.length ∧ en = mid + L2.length) := by
          have h1 := HP.out.1
          have h2 := HP.out.2.1
          have h3 := HP.out.2.2
          have h4 := HEN.out
          have h5 := HNN.out
          refine ⟨h1, by omega, by omega, by omega, by omega, by omega, by omega⟩
        have HJ1 : Hid (L1 = [] ∨ Q2 = [] ∨ ∃ x y, L1.getLast? = some x ∧ Q2.head? = some y ∧ R x y) := by
          have h4 := HEN.out
          rcases HZ.out.1 with h | ⟨x, y, hx, hy, hxy⟩
          · rcases HBD.out.2.2.2.2.2.2.2.2.1 with h' | h'
            · exact .inl (List.eq_nil_of_length_eq_zero (by omega))
            · exact .inr (.inl (List.eq_nil_of_length_eq_zero (by have := HP.out.2.2; omega)))
          · by_cases hz : L1.length = 0
            · exact .inl (List.eq_nil_of_length_eq_zero hz)
            · refine .inr (.inr ⟨x, y, ?_, ?_, hxy⟩)
              · rw [hL12, List.getElem?_append_left (by omega)] at hx
                rw [List.getLast?_eq_getElem?, show L1.length - 1 = s - 1 - a by omega]; exact hx
              · rw [hQ12, List.getElem?_append_right (by omega), show n - s - m - Q1.length = 0 by omega] at hy
                rw [List.head?_eq_getElem?]; exact hy
        have HJ2 : Hid (Q1 = [] ∨ L2 = [] ∨ ∃ x y, Q1.getLast? = some x ∧ L2.head? = some y ∧ R x y) := by
          have h4 := HEN.out
          rcases HZ.out.2.1 with h | ⟨x, y, hx, hy, hxy⟩
          · rcases HBD.out.2.2.2.2.2.2.2.2.2 with h' | h'
            · exact .inr (.inl (List.eq_nil_of_length_eq_zero (by have := HP.out.2.1; omega)))
            · exact .inl (List.eq_nil_of_length_eq_zero (by omega))
          · by_cases hz : Q1.length = 0
            · exact .inl (List.eq_nil_of_length_eq_zero hz)
            · refine .inr (.inr ⟨y, x, ?_, ?_, hxy⟩)
              · rw [hQ12, List.getElem?_append_left (by omega)] at hy
                rw [List.getLast?_eq_getElem?, show Q1.length - 1 = n - 1 - s - m by omega]; exact hy
              · rw [hL12, List.getElem?_append_right (by omega), show s - a - L1.length = 0 by omega] at hx
                rw [List.head?_eq_getElem?]; exact hx
        have HZR := hid HZ.out.2.2
        obtain ⟨wo, rfl⟩ : ∃ wo : World, wo = wr := ⟨_, rfl⟩
        clear hL12 hQ12 hl1 hl2 hq1 hq2 HZ hlt HROW
        obtain ⟨z1, HZ1⟩ : ∃ z1 : Bool, Hid (z1 = decide (s < m ∧ m < en)) := ⟨_, rfl⟩
        go_upto_region 39 with fail
        go_cut [185] (fun s185 wx => s185 = .bool z1 ∧ Hid (RRow wx g (P ++ L ++ Q ++ S) ∧ w0.grownBy wx (some g)))
        case first =>
          as_aux_lemma =>
          by_cases h1 : s < m
          · by_cases h2 : m < en
            · have HE : Hid (z1 = true) := by rw [Hid, HZ1.out]; exact decide_eq_true ⟨h1, h2⟩
              go_wp2_with fail
              go_meet
              exact ⟨by rw [HE.out], HZR⟩
            · have HE : Hid (z1 = false) := by rw [Hid, HZ1.out]; exact decide_eq_false fun h => h2 h.2
              go_wp2_with fail
              go_meet
              exact ⟨by rw [HE.out], HZR⟩
          · have HE : Hid (z1 = false) := by rw [Hid, HZ1.out]; exact decide_eq_false fun h => h1 h.1
            go_wp2_with fail
            go_meet
            exact ⟨by rw [HE.out], HZR⟩
        case rest =>
          obtain ⟨rfl, HZR2⟩ := hcut
          clear HZR
          go_upto_if 185 with fail
          go_cut [] (fun wx => Hid (RRow wx g (P ++ L1 ++ Q1 ++ L2 ++ Q2 ++ S) ∧ w0.grownBy wx (some g)))
          case first =>
            as_aux_lemma =>
            cases z1 with
            | true =>
              have HRT := hid (rotate_row (c := c) (U := P ++ L1) (X := L2) (Y := Q1) (W := Q2 ++ S) (by rw [HN.out, HL12.out, HQ12.out]; simp only [List.append_assoc]) hN40 (.func (.func F) #[] cap) (by have h := HZR2.out.1; rw [HL12.out, HQ12.out] at h; simpa only [List.append_assoc] using h) HZR2.out.2 s m en
                (by have := HSZ.out; simp only [List.length_append]; omega) (by have := HSZ.out; simp only [List.length_append]; omega) (by have := HSZ.out; simp only [List.length_append]; omega) (by have := of_decide_eq_true HZ1.out.symm; have := HSZ.out; omega) (by have := of_decide_eq_true HZ1.out.symm; have := HSZ.out; omega))
              go_wp2_with fail
              refine HRT.out.mono ?_
              rintro e w3 ⟨rfl, h1, h2⟩
              have H12 := hid (And.intro h1 h2)
              clear h1 h2
              go_wp2_with fail
              go_meet
              exact ⟨by simpa only [List.append_assoc] using H12.out.1, H12.out.2⟩
            | false =>
              have hne : ¬ (s < m ∧ m < en) := of_decide_eq_false HZ1.out.symm
              have HEQ : Hid (P ++ L ++ Q ++ S = P ++ L1 ++ Q1 ++ L2 ++ Q2 ++ S) := by
                have h := HSZ.out
                rw [Hid, HL12.out, HQ12.out]
                by_cases h1 : s < m
                · obtain rfl : Q1 = [] := List.eq_nil_of_length_eq_zero (by omega)
                  simp only [List.append_assoc, List.nil_append]
                · obtain rfl : L2 = [] := List.eq_nil_of_length_eq_zero (by omega)
                  simp only [List.append_assoc, List.append_nil]
              clear hne
              go_wp2_with fail
              go_meet
              exact ⟨by rw [← HEQ.out]; exact HZR2.out.1, HZR2.out.2⟩
          case rest =>
            have HZR3 := hcut
            clear HZR2 hcut
            obtain ⟨z2, HZ2⟩ : ∃ z2 : Bool, Hid (z2 = decide (a < s ∧ s < mid)) := ⟨_, rfl⟩
            go_upto_region 41 with fail
            go_cut [199] (fun s199 wx => s199 = .bool z2 ∧ Hid (RRow wx g (P ++ L1 ++ Q1 ++ L2 ++ Q2 ++ S) ∧ w0.grownBy wx (some g)))
            case first =>
              as_aux_lemma =>
              by_cases h1 : a < s
              · by_cases h2 : s < mid
                · have HE : Hid (z2 = true) := by rw [Hid, HZ2.out]; exact decide_eq_true ⟨h1, h2⟩
                  go_wp2_with fail
                  go_meet
                  exact ⟨by rw [HE.out], HZR3⟩
                · have HE : Hid (z2 = false) := by rw [Hid, HZ2.out]; exact decide_eq_false fun h => h2 h.2
                  go_wp2_with fail
                  go_meet
                  exact ⟨by rw [HE.out], HZR3⟩
              · have HE : Hid (z2 = false) := by rw [Hid, HZ2.out]; exact decide_eq_false fun h => h1 h.1
                go_wp2_with fail
                go_meet
                exact ⟨by rw [HE.out], HZR3⟩
            case rest =>
              obtain ⟨rfl, HZR4⟩ := hcut
              clear HZR3
              have HLQ : Hid (L1.Pairwise R ∧ L2.Pairwise R ∧ Q1.Pairwise R ∧ Q2.Pairwise R) := by
                have h1 := HLS.out.1
                have h2 := HLS.out.2
                rw [HL12.out] at h1
                rw [HQ12.out] at h2
                exact ⟨(List.pairwise_append.1 h1).1, (List.pairwise_append.1 h1).2.1, (List.pairwise_append.1 h2).1, (List.pairwise_append.1 h2).2.1⟩
              have HLT : Hid (L1.length + Q1.length < L.length + Q.length ∧ L2.length + Q2.length < L.length + Q.length) := by
                have h1 := HSZ.out
                have h2 := HBD.out
                have h3 := HP.out
                exact ⟨by omega, by omega⟩
              go_upto_if 199 with fail
              go_cut [] (fun wx => ∃ Z1 : List TR, Hid (Z1.Perm (L1 ++ Q1) ∧ Z1.Pairwise R ∧ RRow wx g (P ++ Z1 ++ (L2 ++ (Q2 ++ S))) ∧ w0.grownBy wx (some g)))
              case first =>
                as_aux_lemma =>
                cases z2 with
                | true =>
                  have hc := HIH.out P L1 Q1 (L2 ++ Q2 ++ S) wc a s mid HLT.out.1 (by rw [HN.out, HL12.out, HQ12.out]; simp only [List.length_append]; omega) (HCM.out.sub (by rw [HL12.out, HQ12.out]; intro x hx; simp only [List.mem_append] at hx ⊢; rcases hx with h | h <;> simp [h])) HLQ.out.1 HLQ.out.2.2.1 (fun x hx y hy => HA.out x (by rw [HL12.out]; simp [hx]) y (by rw [HQ12.out]; simp [hy])) (by have h := HZR4.out.1; simpa only [List.append_assoc] using h) HZR4.out.2
                    (by have := HSZ.out; omega) (by have := HSZ.out; omega) (by have := HSZ.out; omega) (by have := of_decide_eq_true HZ2.out.symm; have := HSZ.out; omega) (by have := of_decide_eq_true HZ2.out.symm; have := HSZ.out; omega)
                  have HC := hid hc
                  clear hc
                  go_wp2_with fail
                  refine HC.out.mono ?_
                  rintro e w3 ⟨rfl, Z1, h1, h2, h3, h4⟩
                  have HZ := hid (And.intro h1 (And.intro h2 (And.intro h3 h4)))
                  clear h1 h2 h3 h4
                  go_wp2_with fail
                  go_meet
                  exact ⟨Z1, HZ.out.1, HZ.out.2.1, by have h := HZ.out.2.2.1; simpa only [List.append_assoc] using h, HZ.out.2.2.2⟩
                | false =>
                  have HS1 : Hid ((L1 ++ Q1).Pairwise R) := by
                    have hne : ¬ (a < s ∧ s < mid) := of_decide_eq_false HZ2.out.symm
                    have h := HSZ.out
                    by_cases h1 : a < s
                    · obtain rfl : Q1 = [] := List.eq_nil_of_length_eq_zero (by omega)
                      rw [Hid, List.append_nil]; exact HLQ.out.1
                    · obtain rfl : L1 = [] := List.eq_nil_of_length_eq_zero (by omega)
                      rw [Hid, List.nil_append]; exact HLQ.out.2.2.1
                  go_wp2_with fail
                  go_meet
                  exact ⟨L1 ++ Q1, List.Perm.refl _, HS1.out, by have h := HZR4.out.1; simpa only [List.append_assoc] using h, HZR4.out.2⟩
              case rest =>
                obtain ⟨Z1, HZ5⟩ := hcut
                clear HZR4
                have HZL : Hid (Z1.length = L1.length + Q1.length) := by have := HZ5.out.1.length_eq; rw [List.length_append] at this; exact this
                obtain ⟨z3, HZ3⟩ : ∃ z3 : Bool, Hid (z3 = decide (mid < en ∧ en < b)) := ⟨_, rfl⟩
                go_upto_region 43 with fail
                go_cut [213] (fun s213 wx => s213 = .bool z3 ∧ Hid (RRow wx g (P ++ Z1 ++ (L2 ++ (Q2 ++ S))) ∧ w0.grownBy wx (some g)))
                case first =>
                  as_aux_lemma =>
                  by_cases h1 : mid < en
                  · by_cases h2 : en < b
                    · have HE : Hid (z3 = true) := by rw [Hid, HZ3.out]; exact decide_eq_true ⟨h1, h2⟩
                      go_wp2_with fail
                      go_meet
                      exact ⟨by rw [HE.out], HZ5.out.2.2⟩
                    · have HE : Hid (z3 = false) := by rw [Hid, HZ3.out]; exact decide_eq_false fun h => h2 h.2
                      go_wp2_with fail
                      go_meet
                      exact ⟨by rw [HE.out], HZ5.out.2.2⟩
                  · have HE : Hid (z3 = false) := by rw [Hid, HZ3.out]; exact decide_eq_false fun h => h1 h.1
                    go_wp2_with fail
                    go_meet
                    exact ⟨by rw [HE.out], HZ5.out.2.2⟩
                case rest =>
                  obtain ⟨rfl, HZ6⟩ := hcut
                  have HFIN : Hid (∀ (Z2 : List TR) (w' : World), Z2.Perm (L2 ++ Q2) → Z2.Pairwise R → RRow w' g (P ++ Z1 ++ Z2 ++ S) → w0.grownBy w' (some g) → QQ (.returned (.tuple #[])) w') := by
                    intro Z2 w' h1 h2 h3 h4
                    have h5 := merge_join HT.out (L1 := L1) (L2 := L2) (Q1 := Q1) (Q2 := Q2) (by rw [← HL12.out]; exact HLS.out.1) (by rw [← HQ12.out]; exact HLS.out.2) HJ1.out HJ2.out HZ5.out.1 HZ5.out.2.1 h1 h2
                    rw [← HL12.out, ← HQ12.out] at h5
                    rw [HQ.out]
                    exact ⟨rfl, Z1 ++ Z2, h5.2, h5.1, by simpa only [List.append_assoc] using h3, h4⟩
                  cases z3 with
                  | true =>
                    have hc := HIH.out (P ++ Z1) L2 Q2 S wc mid en b HLT.out.2 (by rw [HN.out, HL12.out, HQ12.out]; simp only [List.length_append]; have := HZL.out; omega) (HCM.out.sub (by rw [HL12.out, HQ12.out]; intro x hx; simp only [List.mem_append] at hx ⊢; rcases hx with h | h <;> simp [h])) HLQ.out.2.1 HLQ.out.2.2.2 (fun x hx y hy => HA.out x (by rw [HL12.out]; simp [hx]) y (by rw [HQ12.out]; simp [hy])) (by have h := HZ6.out.1; simpa only [List.append_assoc] using h) HZ6.out.2 (by have := HSZ.out; have := HZL.out; simp only [List.length_append]; omega) (by have := HSZ.out; omega) (by have := HSZ.out; omega) (by have := of_decide_eq_true HZ3.out.symm; have := HSZ.out; omega) (by have := of_decide_eq_true HZ3.out.symm; have := HSZ.out; omega)
                    have HC := hid hc
                    clear hc
                    go_wp2_with fail
                    refine HC.out.mono ?_
                    rintro e w3 ⟨rfl, Z2, h1, h2, h3, h4⟩
                    have HZ := hid (HFIN.out Z2 w3 h1 h2 h3 h4)
                    clear h1 h2 h3 h4
                    go_wp2_with fail
                    go_end0
                    exact HZ.out
                  | false =>
                    have HS1 : Hid ((L2 ++ Q2).Pairwise R) := by
                      have hne : ¬ (mid < en ∧ en < b) := of_decide_eq_false HZ3.out.symm
                      have h := HSZ.out
                      by_cases h1 : mid < en
                      · obtain rfl : Q2 = [] := List.eq_nil_of_length_eq_zero (by omega)
                        rw [Hid, List.append_nil]; exact HLQ.out.2.1
                      · obtain rfl : L2 = [] := List.eq_nil_of_length_eq_zero (by omega)
                        rw [Hid, List.nil_append]; exact HLQ.out.2.2.2
                    have HZ := hid (HFIN.out (L2 ++ Q2) wc (List.Perm.refl _) HS1.out (by have h := HZ6.out.1; simpa only [List.append_assoc] using h) HZ6.out.2)
                    go_wp2_with fail
                    go_end0
                    exact HZ.out
end Go.Proofs.Ytphkmpnahnakaaa
