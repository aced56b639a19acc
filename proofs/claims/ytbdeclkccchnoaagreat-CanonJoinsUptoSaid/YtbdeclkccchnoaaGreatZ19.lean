/- Parts of a proof: texts of the author, merged. No condition of their own. -/
import Derived.Test.YtbdeclkccchnoaaGreatZ04
import Derived.Test.YtbdeclkccchnoaaGreatZ11
import Derived.Test.YtbdeclkccchnoaaGreatZ18
import Derived.Deep.DeepCutAuto
namespace Go.Proofs.YtbdeclkccchnoaaGreat
open Go.RowKit
theorem sym_bounds {a m b mid n lo hi : Nat} (h1 : a + 2 ≤ m) (h2 : m + 2 ≤ b) (hmid : mid = (a + b) / 2) (hn : n = mid + m) (h : (mid < m ∧ lo + b = n ∧ hi = mid) ∨ (m ≤ mid ∧ lo = a ∧ hi = m)) :
    a ≤ lo ∧ lo ≤ hi ∧ hi ≤ m ∧ hi ≤ mid ∧ m + hi ≤ n ∧ n ≤ lo + b ∧ a < mid ∧ mid < b ∧ (lo = a ∨ lo + b = n) ∧ (hi = m ∨ hi + m = n) := by omega
def SymIH (F : Nat) (cap : Array Value) (cf : Int → Int → Int) (R : Int → Int → Prop) (w0 : World) (g c N : Nat) (len : Nat) : Prop :=
  ∀ (P L Q S : List Int) (w : World) (a m b : Nat), L.length + Q.length < len → N = (P ++ L ++ Q ++ S).length → CmpI F cap cf w0 g (L ++ Q) → L.Pairwise R → Q.Pairwise R → (∀ x ∈ L, ∀ y ∈ Q, Agree cf R x y) → IRow w g (P ++ L ++ Q ++ S) → w0.grownBy w (some g) →
    a = P.length → m = a + L.length → b = m + Q.length → 0 < L.length → 0 < Q.length →
    Calls Tryz.prog 124 #[.slice (some ⟨g, 0, none⟩) N c, .int .i64 (a : Int), .int .i64 (m : Int), .int .i64 (b : Int), .func (.func F) #[] cap] w (SortPost w0 g R P (L ++ Q) S)
set_option maxRecDepth 100000 in
set_option maxHeartbeats 16000000 in
theorem symMerge_step {w0 w : World} {g c N : Nat} {P L Q S : List Int} (hN : N = (P ++ L ++ Q ++ S).length) (hN40 : N ≤ 1099511627776) (F : Nat) (cap : Array Value) (cf : Int → Int → Int) (hcf : ∀ (args : Array Value) (w : World), (callFunc F args).run Tryz.prog w = .ok (.enter F args) w)
    (hcmp : CmpI F cap cf w0 g (L ++ Q)) {R : Int → Int → Prop} (ht : ∀ x y z, R x y → R y z → R x z) (hL : L.Pairwise R) (hQ : Q.Pairwise R) (hA : ∀ x ∈ L, ∀ y ∈ Q, Agree cf R x y) (hI : IRow w g (P ++ L ++ Q ++ S)) (hG : w0.grownBy w (some g))
    (hih : SymIH F cap cf R w0 g c N (L.length + Q.length))
    (a m b : Nat) (ha : a = P.length) (hm : m = a + L.length) (hb : b = m + Q.length) (hL2 : 2 ≤ L.length) (hQ2 : 2 ≤ Q.length) :
    Calls Tryz.prog 124 #[.slice (some ⟨g, 0, none⟩) N c, .int .i64 (a : Int), .int .i64 (m : Int), .int .i64 (b : Int), .func (.func F) #[] cap] w (SortPost w0 g R P (L ++ Q) S) := by
  have HCM := hid hcmp
  have HT := hid ht
  have HA := hid hA
  have HLS := hid (And.intro hL hQ)
  have HIH := hid hih
  have HP := hid (And.intro ha (And.intro hm hb))
  have HN := hid hN
  have hbN : b ≤ N := by rw [hb, hm, ha, hN]; simp only [List.length_append]; omega
  have ham : a + 2 ≤ m := by omega
  have hmb : m + 2 ≤ b := by omega
  obtain ⟨mid, HMID⟩ : ∃ mid, Hid (mid = (a + b) / 2) := ⟨_, rfl⟩
  obtain ⟨n, HNN⟩ : ∃ n, Hid (n = mid + m) := ⟨_, rfl⟩
  obtain ⟨lo, hi, HLH⟩ : ∃ lo hi, Hid ((mid < m ∧ lo + b = n ∧ hi = mid) ∨ (m ≤ mid ∧ lo = a ∧ hi = m)) := by
    by_cases h : mid < m
    · exact ⟨n - b, mid, .inl ⟨h, by have := HMID.out; have := HNN.out; omega, rfl⟩⟩
    · exact ⟨a, m, .inr ⟨by omega, rfl, rfl⟩⟩
  have HBD := hid (sym_bounds ham hmb HMID.out HNN.out HLH.out)
  have hmid : ((a : Int) + (b : Int)) / 2 = (mid : Int) := by have := HMID.out; omega
  have hn : (mid : Int) + (m : Int) = (n : Int) := by have := HNN.out; omega
  obtain ⟨p, HPN⟩ : ∃ p, Hid (p + 1 = n) := ⟨n - 1, by show n - 1 + 1 = n; have := HNN.out; omega⟩
  have hp : (n : Int) - 1 = (p : Int) := by have := HPN.out; omega
  have n1 : ((m : Int) - (a : Int) == 1) = false := by simp; omega
  have n2 : decide ((m : Int) - (a : Int) = 1) = false := decide_eq_false (by omega)
  have n3 : ((b : Int) - (m : Int) == 1) = false := by simp; omega
  have n4 : decide ((b : Int) - (m : Int) = 1) = false := decide_eq_false (by omega)
  have hmidb : a < mid ∧ mid < b := ⟨HBD.out.2.2.2.2.2.2.1, HBD.out.2.2.2.2.2.2.2.1⟩
  have hmd := hmidb.2
  have hnN : n ≤ 2 * N := by have := HNN.out; omega
  obtain ⟨QQ, HQ⟩ : ∃ QQ : Ending → World → Prop, Hid (QQ = SortPost w0 g R P (L ++ Q) S) := ⟨_, rfl⟩
  rw [← HQ.out]
  have HIX : Hid (∀ k : Nat, k < N → ∀ W, (Instr.indexAt 100 (.slice (some ⟨g, 0, none⟩) N c) (.int .i64 (k : Int))).run Tryz.prog W = .ok (.pointer (some ⟨g, k, none⟩)) W) := by
    intro k hk W
    have := index_run1 Tryz.underlying100 size_intw (a := some ⟨g, 0, none⟩) rfl k hk W (cap := c)
    rwa [Nat.zero_add] at this
  have HI := hid (And.intro hI hG)
  clear hcmp ht hL hQ hA hI hG hih ha hm hb hN hL2 hQ2 hmidb
  go_enter Tryz.func124, Tryz.ntmps124
  go_upto_if 140 with fail
  go_cut [20, 21] (fun s20 s21 wx => s20 = .int .i64 (lo : Int) ∧ s21 = .int .i64 (hi : Int) ∧ Hid (IRow wx g (P ++ L ++ Q ++ S) ∧ w0.grownBy wx (some g)))
  case first =>
    as_aux_lemma =>
    rcases HLH.out with ⟨h1, h2, h3⟩ | ⟨h1, h2, h3⟩
    · have e : (n : Int) - (b : Int) = (lo : Int) := by omega
      have e2 : Hid (hi = mid) := h3
      clear h2 h3
      go_wp2_with fail
      go_meet
      exact ⟨rfl, by rw [e2.out], HI⟩
    · have e2 := hid (And.intro h2 h3)
      clear h2 h3
      go_wp2_with fail
      go_meet
      exact ⟨by rw [e2.out.1], by rw [e2.out.2], HI⟩
  case rest =>
    obtain ⟨rfl, rfl, HI2⟩ := hcut
    clear HI
    clear n1 n2 n3 n4
    have hlh := HBD.out.2.1
    have hhm := HBD.out.2.2.1
    have hmhn := HBD.out.2.2.2.2.1
    have hnlb := HBD.out.2.2.2.2.2.1
    have halo := HBD.out.1
    have HROW := fun (k : Nat) => hid (row_get_left (P := P) (L := L) (r := Q ++ S) (P.length + k) k)
    go_wp2_with fail
    go_loopw [20, 21] (fun v20 v21 wr => ∃ s r : Nat, v20 = .int .i64 (s : Int) ∧ v21 = .int .i64 (r : Int) ∧ lo ≤ s ∧ s ≤ r ∧ r ≤ hi ∧ Hid ((s = lo ∨ ∃ x y, L[s - 1 - a]? = some x ∧ Q[n - s - m]? = some y ∧ R x y) ∧ (r = hi ∨ ∃ x y, L[r - a]? = some x ∧ Q[n - 1 - r - m]? = some y ∧ R y x) ∧ IRow wr g (P ++ L ++ Q ++ S) ∧ w0.grownBy wr (some g))) (fun v20 v21 _ => (intOf v21).toNat - (intOf v20).toNat)
    case atStart => exact ⟨lo, hi, rfl, rfl, Nat.le_refl _, hlh, Nat.le_refl _, .inl rfl, .inl rfl, HI2.out⟩
    case round =>
      obtain ⟨s, r, rfl, rfl, hls, hsr, hrh, HZ⟩ := hrel
      by_cases hlt : s < r
      · as_aux_lemma =>
        obtain ⟨h, HH⟩ : ∃ h, Hid (h = (s + r) / 2) := ⟨_, rfl⟩
        have hh : ((s : Int) + (r : Int)) / 2 = (h : Int) := by have := HH.out; omega
        have hsh : s ≤ h := by have := HH.out; omega
        have hhr : h < r := by have := HH.out; omega
        obtain ⟨q, HQN⟩ : ∃ q, Hid (q + h + 1 = n) := ⟨n - 1 - h, by show n - 1 - h + h + 1 = n; omega⟩
        have hq : (p : Int) - (h : Int) = (q : Int) := by have := HQN.out; have := HPN.out; omega
        have hmq : m ≤ q := by have := HQN.out; omega
        have hqb : q < b := by have := HQN.out; omega
        have hhN : h < N := by omega
        have hqN : q < N := by omega
        obtain ⟨x, hx⟩ : ∃ x, L[h - a]? = some x := ⟨_, List.getElem?_eq_getElem (by have := HP.out.2.1; omega)⟩
        obtain ⟨y, hy⟩ : ∃ y, Q[q - m]? = some y := ⟨_, List.getElem?_eq_getElem (by have := HP.out.2.2; omega)⟩
        have HX := hid hx
        have HY := hid hy
        have hix := HIX.out h hhN
        have hix2 := HIX.out q hqN
        have g0 := HZ.out.2.2.1.cell h (by rw [← HN.out]; exact hhN)
        have HGX : Hid ((P ++ L ++ Q ++ S).getD h 0 = x) := by
          have h1 := row_get_left (P := P) (L := L) (r := Q ++ S) h (h - a) x (by have := HP.out.1; omega) hx
          rw [Hid, List.append_assoc]; exact h1
        rw [HGX.out] at g0
        have g1 := HZ.out.2.2.1.cell q (by rw [← HN.out]; exact hqN)
        have HGY : Hid ((P ++ L ++ Q ++ S).getD q 0 = y) := row_get_left (P := P ++ L) (L := Q) q (q - m) y (by have := HP.out.1; have := HP.out.2.1; simp only [List.length_append]; omega) hy
        rw [HGY.out] at g1
        have HC1 := hid (HCM.out y x wr.drew (by simp [List.mem_of_getElem? hy]) (by simp [List.mem_of_getElem? hx]) (grown_drew HZ.out.2.2.2))
        have HAG := hid (HA.out x (List.mem_of_getElem? hx) y (List.mem_of_getElem? hy))
        have hw1 : IntKind.i64.wrap ((p : Int) - (h : Int)) = (p : Int) - (h : Int) := by rw [IntKind.wrap_i64]; omega
        have hw2 : IntKind.i64.wrap (q : Int) = (q : Int) := by rw [IntKind.wrap_i64]; omega
        have HLE := hid (And.intro hls (And.intro hrh (And.intro hmq hqb)))
        clear hx hy
        go_wp2_with fail
        go_still_tail 11, (by kernel_rfl)
        change wpList _ _ _ _ _ wr.drew
        go_wp2_with fail
        refine HC1.out.mono ?_
        rintro e w3 ⟨rfl, hb3⟩
        have HZ3 : Hid (IRow w3 g (P ++ L ++ Q ++ S) ∧ w0.grownBy w3 (some g)) := ⟨(HZ.out.2.2.1.of_block (w' := wr.drew) rfl).below hb3, grown_belowS (grown_drew HZ.out.2.2.2) hb3⟩
        clear hb3
        by_cases hc : cf y x < 0
        · have hc1 : decide (cf y x < 0) = true := decide_eq_true hc
          have HRY : Hid (R y x) := HAG.out.1.1 hc
          clear hc
          go_wp2_with fail
          go_roundw
          case rel => exact ⟨s, h, rfl, rfl, hls, hsh, by omega, HZ.out.1, .inr ⟨x, y, HX.out, by rw [show n - 1 - h - m = q - m by have := HQN.out; omega]; exact HY.out, HRY.out⟩, HZ3.out⟩
          case measure => simp [intOf]; omega
        · have hc1 : decide (cf y x < 0) = false := decide_eq_false hc
          have HRY : Hid (R x y) := HAG.out.2.resolve_right fun h => hc (HAG.out.1.2 h)
          clear hc
          go_wp2_with fail
          go_roundw
          case rel => exact ⟨h + 1, r, by go_num, rfl, by omega, by omega, hrh, .inr ⟨x, y, by rw [show h + 1 - 1 - a = h - a by omega]; exact HX.out, by rw [show n - (h + 1) - m = q - m by have := HQN.out; omega]; exact HY.out, HRY.out⟩, HZ.out.2.1, HZ3.out⟩
          case measure => simp [intOf]; omega
      · obtain rfl : s = r := by omega
        obtain ⟨en, HEN⟩ : ∃ en, Hid (en + s = n) := ⟨n - s, by show n - s + s = n; omega⟩
        have he : (n : Int) - (s : Int) = (en : Int) := by have := HEN.out; omega
        have hme : m ≤ en := by have := HEN.out; omega
        have heb : en ≤ b := by have := HEN.out; omega
        have has : a ≤ s := by omega
        have hsm : s ≤ m := by omega
        have hsmid : s ≤ mid := by have := HBD.out.2.2.2.1; omega
        have hmide : mid ≤ en := by have := HEN.out; have := HNN.out; omega
        obtain ⟨L1, L2, hL12, hl1, hl2⟩ := rot_cut (s - a) (l := L) (by have := HP.out.2.1; omega)
        obtain ⟨Q1, Q2, hQ12, hq1, hq2⟩ := rot_cut (en - m) (l := Q) (by have := HP.out.2.2; omega)
        have HL12 := hid hL12
        have HQ12 := hid hQ12
        have HSZ : Hid (a = P.length ∧ s = a + L1.length ∧ m = s + L2.length ∧ en = m + Q1.length ∧ b = en + Q2.length ∧ mid = s + Q1.length ∧ en = mid + L2.length) := by
          have h1 := HP.out.1
          have h2 := HP.out.2.1
          have h3 := HP.out.2.2
          have h4 := HEN.out
          have h5 := HNN.out
          refine ⟨h1, by omega, by omega, by omega, by omega, by omega, by omega⟩
        have HJ1 : Hid (L1 = [] ∨ Q2 = [] ∨ ∃ x y, L1.getLast? = some x ∧ Q2.head? = some y ∧ R x y) := by
          have h4 := HEN.out
          rcases HZ.out.1 with h | ⟨x, y, hx, hy, hxy⟩
          · rcases HBD.out.2.2.2.2.2.2.2.2.1 with h' | h'
            · exact .inl (List.eq_nil_of_length_eq_zero (by omega))
            · exact .inr (.inl (List.eq_nil_of_length_eq_zero (by have := HP.out.2.2; omega)))
          · by_cases hz : L1.length = 0
            · exact .inl (List.eq_nil_of_length_eq_zero hz)
            · refine .inr (.inr ⟨x, y, ?_, ?_, hxy⟩)
              · rw [hL12, List.getElem?_append_left (by omega)] at hx
                rw [List.getLast?_eq_getElem?, show L1.length - 1 = s - 1 - a by omega]; exact hx
              · rw [hQ12, List.getElem?_append_right (by omega), show n - s - m - Q1.length = 0 by omega] at hy
                rw [List.head?_eq_getElem?]; exact hy
        have HJ2 : Hid (Q1 = [] ∨ L2 = [] ∨ ∃ x y, Q1.getLast? = some x ∧ L2.head? = some y ∧ R x y) := by
          have h4 := HEN.out
          rcases HZ.out.2.1 with h | ⟨x, y, hx, hy, hxy⟩
          · rcases HBD.out.2.2.2.2.2.2.2.2.2 with h' | h'
            · exact .inr (.inl (List.eq_nil_of_length_eq_zero (by have := HP.out.2.1; omega)))
            · exact .inl (List.eq_nil_of_length_eq_zero (by omega))
          · by_cases hz : Q1.length = 0
            · exact .inl (List.eq_nil_of_length_eq_zero hz)
            · refine .inr (.inr ⟨y, x, ?_, ?_, hxy⟩)
              · rw [hQ12, List.getElem?_append_left (by omega)] at hy
                rw [List.getLast?_eq_getElem?, show Q1.length - 1 = n - 1 - s - m by omega]; exact hy
              · rw [hL12, List.getElem?_append_right (by omega), show s - a - L1.length = 0 by omega] at hx
                rw [List.head?_eq_getElem?]; exact hx
        have HZR := hid HZ.out.2.2
        obtain ⟨wo, rfl⟩ : ∃ wo : World, wo = wr := ⟨_, rfl⟩
        clear hL12 hQ12 hl1 hl2 hq1 hq2 HZ hlt HROW
        obtain ⟨z1, HZ1⟩ : ∃ z1 : Bool, Hid (z1 = decide (s < m ∧ m < en)) := ⟨_, rfl⟩
        go_upto_region 39 with fail
        go_cut [185] (fun s185 wx => s185 = .bool z1 ∧ Hid (IRow wx g (P ++ L ++ Q ++ S) ∧ w0.grownBy wx (some g)))
        case first =>
          as_aux_lemma =>
          by_cases h1 : s < m
          · by_cases h2 : m < en
            · have HE : Hid (z1 = true) := by rw [Hid, HZ1.out]; exact decide_eq_true ⟨h1, h2⟩
              go_wp2_with fail
              go_meet
              exact ⟨by rw [HE.out], HZR⟩
            · have HE : Hid (z1 = false) := by rw [Hid, HZ1.out]; exact decide_eq_false fun h => h2 h.2
              go_wp2_with fail
              go_meet
              exact ⟨by rw [HE.out], HZR⟩
          · have HE : Hid (z1 = false) := by rw [Hid, HZ1.out]; exact decide_eq_false fun h => h1 h.1
            go_wp2_with fail
            go_meet
            exact ⟨by rw [HE.out], HZR⟩
        case rest =>
          obtain ⟨rfl, HZR2⟩ := hcut
          clear HZR
          go_upto_if 185 with fail
          go_cut [] (fun wx => Hid (IRow wx g (P ++ L1 ++ Q1 ++ L2 ++ Q2 ++ S) ∧ w0.grownBy wx (some g)))
          case first =>
            as_aux_lemma =>
            cases z1 with
            | true =>
              have HRT := hid (rotate_int (c := c) (U := P ++ L1) (X := L2) (Y := Q1) (W := Q2 ++ S) (by rw [HN.out, HL12.out, HQ12.out]; simp only [List.append_assoc]) hN40 (.func (.func F) #[] cap) (by have h := HZR2.out.1; rw [HL12.out, HQ12.out] at h; simpa only [List.append_assoc] using h) HZR2.out.2 s m en
                (by have := HSZ.out; simp only [List.length_append]; omega) (by have := HSZ.out; simp only [List.length_append]; omega) (by have := HSZ.out; simp only [List.length_append]; omega) (by have := of_decide_eq_true HZ1.out.symm; have := HSZ.out; omega) (by have := of_decide_eq_true HZ1.out.symm; have := HSZ.out; omega))
              go_wp2_with fail
              refine HRT.out.mono ?_
              rintro e w3 ⟨rfl, h1, h2⟩
              have H12 := hid (And.intro h1 h2)
              clear h1 h2
              go_wp2_with fail
              go_meet
              exact ⟨by simpa only [List.append_assoc] using H12.out.1, H12.out.2⟩
            | false =>
              have hne : ¬ (s < m ∧ m < en) := of_decide_eq_false HZ1.out.symm
              have HEQ : Hid (P ++ L ++ Q ++ S = P ++ L1 ++ Q1 ++ L2 ++ Q2 ++ S) := by
                have h := HSZ.out
                rw [Hid, HL12.out, HQ12.out]
                by_cases h1 : s < m
                · obtain rfl : Q1 = [] := List.eq_nil_of_length_eq_zero (by omega)
                  simp only [List.append_assoc, List.nil_append]
                · obtain rfl : L2 = [] := List.eq_nil_of_length_eq_zero (by omega)
                  simp only [List.append_assoc, List.append_nil]
              clear hne
              go_wp2_with fail
              go_meet
              exact ⟨by rw [← HEQ.out]; exact HZR2.out.1, HZR2.out.2⟩
          case rest =>
            have HZR3 := hcut
            clear HZR2 hcut
            obtain ⟨z2, HZ2⟩ : ∃ z2 : Bool, Hid (z2 = decide (a < s ∧ s < mid)) := ⟨_, rfl⟩
            go_upto_region 41 with fail
            go_cut [199] (fun s199 wx => s199 = .bool z2 ∧ Hid (IRow wx g (P ++ L1 ++ Q1 ++ L2 ++ Q2 ++ S) ∧ w0.grownBy wx (some g)))
            case first =>
              as_aux_lemma =>
              by_cases h1 : a < s
              · by_cases h2 : s < mid
                · have HE : Hid (z2 = true) := by rw [Hid, HZ2.out]; exact decide_eq_true ⟨h1, h2⟩
                  go_wp2_with fail
                  go_meet
                  exact ⟨by rw [HE.out], HZR3⟩
                · have HE : Hid (z2 = false) := by rw [Hid, HZ2.out]; exact decide_eq_false fun h => h2 h.2
                  go_wp2_with fail
                  go_meet
                  exact ⟨by rw [HE.out], HZR3⟩
              · have HE : Hid (z2 = false) := by rw [Hid, HZ2.out]; exact decide_eq_false fun h => h1 h.1
                go_wp2_with fail
                go_meet
                exact ⟨by rw [HE.out], HZR3⟩
            case rest =>
              obtain ⟨rfl, HZR4⟩ := hcut
              clear HZR3
              have HLQ : Hid (L1.Pairwise R ∧ L2.Pairwise R ∧ Q1.Pairwise R ∧ Q2.Pairwise R) := by
                have h1 := HLS.out.1
                have h2 := HLS.out.2
                rw [HL12.out] at h1
                rw [HQ12.out] at h2
                exact ⟨(List.pairwise_append.1 h1).1, (List.pairwise_append.1 h1).2.1, (List.pairwise_append.1 h2).1, (List.pairwise_append.1 h2).2.1⟩
              have HLT : Hid (L1.length + Q1.length < L.length + Q.length ∧ L2.length + Q2.length < L.length + Q.length) := by
                have h1 := HSZ.out
                have h2 := HBD.out
                have h3 := HP.out
                exact ⟨by omega, by omega⟩
              go_upto_if 199 with fail
              go_cut [] (fun wx => ∃ Z1 : List Int, Hid (Z1.Perm (L1 ++ Q1) ∧ Z1.Pairwise R ∧ IRow wx g (P ++ Z1 ++ (L2 ++ (Q2 ++ S))) ∧ w0.grownBy wx (some g)))
              case first =>
                as_aux_lemma =>
                cases z2 with
                | true =>
                  have hc := HIH.out P L1 Q1 (L2 ++ Q2 ++ S) wc a s mid HLT.out.1 (by rw [HN.out, HL12.out, HQ12.out]; simp only [List.length_append]; omega) (HCM.out.sub (by rw [HL12.out, HQ12.out]; intro x hx; simp only [List.mem_append] at hx ⊢; rcases hx with h | h <;> simp [h])) HLQ.out.1 HLQ.out.2.2.1 (fun x hx y hy => HA.out x (by rw [HL12.out]; simp [hx]) y (by rw [HQ12.out]; simp [hy])) (by have h := HZR4.out.1; simpa only [List.append_assoc] using h) HZR4.out.2
                    (by have := HSZ.out; omega) (by have := HSZ.out; omega) (by have := HSZ.out; omega) (by have := of_decide_eq_true HZ2.out.symm; have := HSZ.out; omega) (by have := of_decide_eq_true HZ2.out.symm; have := HSZ.out; omega)
                  have HC := hid hc
                  clear hc
                  go_wp2_with fail
                  refine HC.out.mono ?_
                  rintro e w3 ⟨rfl, Z1, h1, h2, h3, h4⟩
                  have HZ := hid (And.intro h1 (And.intro h2 (And.intro h3 h4)))
                  clear h1 h2 h3 h4
                  go_wp2_with fail
                  go_meet
                  exact ⟨Z1, HZ.out.1, HZ.out.2.1, by have h := HZ.out.2.2.1; simpa only [List.append_assoc] using h, HZ.out.2.2.2⟩
                | false =>
                  have HS1 : Hid ((L1 ++ Q1).Pairwise R) := by
                    have hne : ¬ (a < s ∧ s < mid) := of_decide_eq_false HZ2.out.symm
                    have h := HSZ.out
                    by_cases h1 : a < s
                    · obtain rfl : Q1 = [] := List.eq_nil_of_length_eq_zero (by omega)
                      rw [Hid, List.append_nil]; exact HLQ.out.1
                    · obtain rfl : L1 = [] := List.eq_nil_of_length_eq_zero (by omega)
                      rw [Hid, List.nil_append]; exact HLQ.out.2.2.1
                  go_wp2_with fail
                  go_meet
                  exact ⟨L1 ++ Q1, List.Perm.refl _, HS1.out, by have h := HZR4.out.1; simpa only [List.append_assoc] using h, HZR4.out.2⟩
              case rest =>
                obtain ⟨Z1, HZ5⟩ := hcut
                clear HZR4
                have HZL : Hid (Z1.length = L1.length + Q1.length) := by have := HZ5.out.1.length_eq; rw [List.length_append] at this; exact this
                obtain ⟨z3, HZ3⟩ : ∃ z3 : Bool, Hid (z3 = decide (mid < en ∧ en < b)) := ⟨_, rfl⟩
                go_upto_region 43 with fail
                go_cut [213] (fun s213 wx => s213 = .bool z3 ∧ Hid (IRow wx g (P ++ Z1 ++ (L2 ++ (Q2 ++ S))) ∧ w0.grownBy wx (some g)))
                case first =>
                  as_aux_lemma =>
                  by_cases h1 : mid < en
                  · by_cases h2 : en < b
                    · have HE : Hid (z3 = true) := by rw [Hid, HZ3.out]; exact decide_eq_true ⟨h1, h2⟩
                      go_wp2_with fail
                      go_meet
                      exact ⟨by rw [HE.out], HZ5.out.2.2⟩
                    · have HE : Hid (z3 = false) := by rw [Hid, HZ3.out]; exact decide_eq_false fun h => h2 h.2
                      go_wp2_with fail
                      go_meet
                      exact ⟨by rw [HE.out], HZ5.out.2.2⟩
                  · have HE : Hid (z3 = false) := by rw [Hid, HZ3.out]; exact decide_eq_false fun h => h1 h.1
                    go_wp2_with fail
                    go_meet
                    exact ⟨by rw [HE.out], HZ5.out.2.2⟩
                case rest =>
                  obtain ⟨rfl, HZ6⟩ := hcut
                  have HFIN : Hid (∀ (Z2 : List Int) (w' : World), Z2.Perm (L2 ++ Q2) → Z2.Pairwise R → IRow w' g (P ++ Z1 ++ Z2 ++ S) → w0.grownBy w' (some g) → QQ (.returned (.tuple #[])) w') := by
                    intro Z2 w' h1 h2 h3 h4
                    have h5 := merge_join HT.out (L1 := L1) (L2 := L2) (Q1 := Q1) (Q2 := Q2) (by rw [← HL12.out]; exact HLS.out.1) (by rw [← HQ12.out]; exact HLS.out.2) HJ1.out HJ2.out HZ5.out.1 HZ5.out.2.1 h1 h2
                    rw [← HL12.out, ← HQ12.out] at h5
                    rw [HQ.out]
                    exact ⟨rfl, Z1 ++ Z2, h5.2, h5.1, by simpa only [List.append_assoc] using h3, h4⟩
                  cases z3 with
                  | true =>
                    have hc := HIH.out (P ++ Z1) L2 Q2 S wc mid en b HLT.out.2 (by rw [HN.out, HL12.out, HQ12.out]; simp only [List.length_append]; have := HZL.out; omega) (HCM.out.sub (by rw [HL12.out, HQ12.out]; intro x hx; simp only [List.mem_append] at hx ⊢; rcases hx with h | h <;> simp [h])) HLQ.out.2.1 HLQ.out.2.2.2 (fun x hx y hy => HA.out x (by rw [HL12.out]; simp [hx]) y (by rw [HQ12.out]; simp [hy])) (by have h := HZ6.out.1; simpa only [List.append_assoc] using h) HZ6.out.2 (by have := HSZ.out; have := HZL.out; simp only [List.length_append]; omega) (by have := HSZ.out; omega) (by have := HSZ.out; omega) (by have := of_decide_eq_true HZ3.out.symm; have := HSZ.out; omega) (by have := of_decide_eq_true HZ3.out.symm; have := HSZ.out; omega)
                    have HC := hid hc
                    clear hc
                    go_wp2_with fail
                    refine HC.out.mono ?_
                    rintro e w3 ⟨rfl, Z2, h1, h2, h3, h4⟩
                    have HZ := hid (HFIN.out Z2 w3 h1 h2 h3 h4)
                    clear h1 h2 h3 h4
                    go_wp2_with fail
                    go_end0
                    exact HZ.out
                  | false =>
                    have HS1 : Hid ((L2 ++ Q2).Pairwise R) := by
                      have hne : ¬ (mid < en ∧ en < b) := of_decide_eq_false HZ3.out.symm
                      have h := HSZ.out
                      by_cases h1 : mid < en
                      · obtain rfl : Q2 = [] := List.eq_nil_of_length_eq_zero (by omega)
                        rw [Hid, List.append_nil]; exact HLQ.out.2.1
                      · obtain rfl : L2 = [] := List.eq_nil_of_length_eq_zero (by omega)
                        rw [Hid, List.nil_append]; exact HLQ.out.2.2.2
                    have HZ := hid (HFIN.out (L2 ++ Q2) wc (List.Perm.refl _) HS1.out (by have h := HZ6.out.1; simpa only [List.append_assoc] using h) HZ6.out.2)
                    go_wp2_with fail
                    go_end0
                    exact HZ.out
end Go.Proofs.YtbdeclkccchnoaaGreat
namespace Go.Proofs.YtbdeclkccchnoaaGreat
variable {T : Type}
inductive BSc (R : T → T → Prop) (n : Nat) : List T → List T → Prop where
  | last (X Z : List T) : X.length ≤ n → Z.Perm X → Z.Pairwise R → BSc R n X Z
  | cons (X Z l t : List T) : X.length = n → Z.Perm X → Z.Pairwise R → BSc R n l t → BSc R n (X ++ l) (Z ++ t)
inductive FB (R : T → T → Prop) (n : Nat) : Nat → List T → List T → Prop where
  | zero : FB R n 0 [] []
  | snoc (k : Nat) (l t X Z : List T) : FB R n k l t → X.length = n → Z.Perm X → Z.Pairwise R → FB R n (k + 1) (l ++ X) (t ++ Z)
theorem FB.len {R : T → T → Prop} {n k : Nat} {l t : List T} (h : FB R n k l t) : l.length = n * k ∧ t.length = n * k := by
  induction h with
  | zero => simp
  | snoc k l t X Z _ h1 h2 _ ih => simp only [List.length_append, h2.length_eq, h1, ih.1, ih.2, Nat.mul_succ, and_self]
theorem FB.bsc {R : T → T → Prop} {n k : Nat} {l t : List T} (h : FB R n k l t) : ∀ {l2 t2 : List T}, BSc R n l2 t2 → BSc R n (l ++ l2) (t ++ t2) := by
  induction h with
  | zero => intro l2 t2 h2; simpa using h2
  | snoc k l t X Z _ h1 h2 h3 ih =>
    intro l2 t2 h4
    rw [List.append_assoc, List.append_assoc]
    exact ih (.cons X Z l2 t2 h1 h2 h3 h4)
theorem BSc.len {R : T → T → Prop} {n : Nat} {l t : List T} (h : BSc R n l t) : t.length = l.length := by
  induction h with
  | last X Z _ h _ => exact h.length_eq
  | cons X Z l t _ h _ _ ih => simp only [List.length_append, h.length_eq, ih]
theorem BSc.short {R : T → T → Prop} {n : Nat} {l t : List T} (h : BSc R n l t) (hl : l.length ≤ n) : t.Perm l ∧ t.Pairwise R := by
  cases h with
  | last _ _ _ h1 h2 => exact ⟨h1, h2⟩
  | cons X Z l t h1 h2 h3 h4 =>
    rw [List.length_append] at hl
    have e1 : l = [] := List.eq_nil_of_length_eq_zero (by omega)
    have e2 : t = [] := List.eq_nil_of_length_eq_zero (by rw [h4.len, e1]; rfl)
    subst e1
    subst e2
    rw [List.append_nil, List.append_nil]
    exact ⟨h2, h3⟩
theorem BSc.two {R : T → T → Prop} {n : Nat} (h0 : 0 < n) {l t : List T} (h : BSc R n l t) (hl : n < l.length) :
    ∃ X1 X2 l3 W1 W2 t3 : List T, l = X1 ++ (X2 ++ l3) ∧ t = W1 ++ (W2 ++ t3) ∧ X1.length = n ∧ 0 < X2.length ∧ X2.length ≤ n ∧ W1.Perm X1 ∧ W1.Pairwise R ∧ W2.Perm X2 ∧ W2.Pairwise R ∧ BSc R n l3 t3 ∧ (l3 = [] ∨ X2.length = n) := by
  cases h with
  | last _ _ h1 _ _ => omega
  | cons X Z l t h1 h2 h3 h4 =>
    rw [List.length_append] at hl
    cases h4 with
    | last _ _ k1 k2 k3 => exact ⟨X, l, [], Z, t, [], by simp, by simp, h1, by omega, k1, h2, h3, k2, k3, .last [] [] (by simp) (List.Perm.refl _) List.Pairwise.nil, .inl rfl⟩
    | cons X2 Z2 l3 t3 k1 k2 k3 k4 => exact ⟨X, X2, l3, Z, Z2, t3, rfl, rfl, h1, by omega, by omega, h2, h3, k2, k3, k4, .inr k1⟩
end Go.Proofs.YtbdeclkccchnoaaGreat
namespace Go.Proofs.YtbdeclkccchnoaaGreat
open Go.RowKit
theorem symMerge_all {w0 : World} {g c N : Nat} (hN40 : N ≤ 1099511627776) (F : Nat) (cap : Array Value) (cf : Int → Int → Int) (hcf : ∀ (args : Array Value) (w : World), (callFunc F args).run Tryz.prog w = .ok (.enter F args) w)
    {R : Int → Int → Prop} (ht : ∀ x y z, R x y → R y z → R x z) : ∀ len, SymIH F cap cf R w0 g c N len
  | 0 => fun P L Q S w a m b h => absurd h (by omega)
  | len + 1 => fun P L Q S w a m b h hN hcmp hL hQ hA hI hG ha hm hb h0 h1 => by
    by_cases hl1 : L.length = 1
    · obtain ⟨x, rfl⟩ := List.length_eq_one_iff.1 hl1
      exact symMerge_left hN hN40 F cap cf hcf (hcmp.sub (by simp)) ht hQ (fun y hy => hA x (by simp) y hy) hI hG a m b ha hm hb
    · by_cases hq1 : Q.length = 1
      · obtain ⟨y, rfl⟩ := List.length_eq_one_iff.1 hq1
        exact symMerge_right hN hN40 F cap cf hcf (hcmp.sub (by intro x hx; simp only [List.mem_cons] at hx; rcases hx with h | h <;> simp [h])) ht hL hl1 (fun x hx => hA x hx y (by simp)) hI hG a m b ha hm hb
      · refine symMerge_step hN hN40 F cap cf hcf hcmp ht hL hQ hA hI hG ?_ a m b ha hm hb (by omega) (by omega)
        intro P' L' Q' S' w' a' m' b' h'
        exact symMerge_all hN40 F cap cf hcf ht len P' L' Q' S' w' a' m' b' (by omega)
theorem pairwise_mid {T : Type} {A : T → T → Prop} {l1 X l2 : List T} (h : (l1 ++ X ++ l2).Pairwise A) : X.Pairwise A :=
  (List.pairwise_append.1 (List.pairwise_append.1 h).1).2.1
set_option maxRecDepth 100000 in
set_option maxHeartbeats 16000000 in
theorem stable_int {w0 w : World} {g c N : Nat} {l : List Int} (hN : N = l.length) (hN39 : N ≤ 549755813888) (F : Nat) (cap : Array Value) (cf : Int → Int → Int) (hcf : ∀ (args : Array Value) (w : World), (callFunc F args).run Tryz.prog w = .ok (.enter F args) w)
    (hcmp : CmpI F cap cf w0 g l) {R : Int → Int → Prop} (ht : ∀ x y z, R x y → R y z → R x z) (hA : l.Pairwise (Agree cf R)) (hI : IRow w g l) (hG : w0.grownBy w (some g)) :
    Calls Tryz.prog 103 #[.slice (some ⟨g, 0, none⟩) N c, .int .i64 (N : Int), .func (.func F) #[] cap] w (SortPost w0 g R [] l []) := by
  have HCM := hid hcmp
  have HT := hid ht
  have HA := hid hA
  have HI := hid (And.intro hI hG)
  have HN := hid hN
  have HIN : Hid (∀ (P X S : List Int) (W : World) (a b : Nat), N = (P ++ X ++ S).length → (∀ x ∈ X, x ∈ l) → X.Pairwise (Agree cf R) → IRow W g (P ++ X ++ S) → w0.grownBy W (some g) → a = P.length → b = P.length + X.length →
      Calls Tryz.prog 123 #[.slice (some ⟨g, 0, none⟩) N c, .int .i64 (a : Int), .int .i64 (b : Int), .func (.func F) #[] cap] W (SortPost w0 g R P X S)) :=
    fun P X S W a b h1 h2 h3 h4 h5 h6 h7 => insSort_int h1 (by omega) F cap cf hcf (hcmp.sub h2) ht h3 h4 h5 a b h6 h7
  have HSY := hid fun len => symMerge_all (w0 := w0) (g := g) (c := c) (N := N) (by omega) F cap cf hcf ht len
  obtain ⟨QQ, HQ⟩ : ∃ QQ : Ending → World → Prop, Hid (QQ = SortPost w0 g R [] l []) := ⟨_, rfl⟩
  rw [← HQ.out]
  clear hcmp ht hA hI hG hN
  go_enter Tryz.func103, Tryz.ntmps103
  go_wp2_with fail
  go_loopw [7, 8] (fun v7 v8 wr => ∃ a k : Nat, v7 = .int .i64 (a : Int) ∧ v8 = .int .i64 ((a : Int) + 20) ∧ a ≤ N ∧ Hid (a = 20 * k ∧ ∃ Z, FB R 20 k (l.take a) Z ∧ IRow wr g (Z ++ l.drop a) ∧ w0.grownBy wr (some g))) (fun v7 _ _ => N - (intOf v7).toNat)
  case atStart => exact ⟨0, 0, rfl, by simp, by omega, rfl, [], .zero, by simpa using HI.out.1, HI.out.2⟩
  case round =>
    obtain ⟨a, k, rfl, rfl, ha, HZ⟩ := hrel
    obtain ⟨Z, hF, hrow, hgr⟩ := HZ.out.2
    have HF := hid hF
    have HR := hid (And.intro hrow hgr)
    have HTL : Hid ((l.take a).length = a ∧ Z.length = a) := by
      have h1 := hF.len
      have h2 : (l.take a).length = a := by rw [List.length_take]; have := HN.out; omega
      exact ⟨h2, by omega⟩
    clear hF hrow hgr
    by_cases hlt : a + 20 ≤ N
    · obtain ⟨b, HB⟩ : ∃ b, Hid (b = a + 20) := ⟨_, rfl⟩
      have hb : (a : Int) + 20 = (b : Int) := by have := HB.out; omega
      have hbN : b ≤ N := by have := HB.out; omega
      obtain ⟨X, HX⟩ : ∃ X, Hid (X = (l.drop a).take 20) := ⟨_, rfl⟩
      have HXD : Hid (l.drop a = X ++ l.drop b ∧ X.length = 20 ∧ l.take b = l.take a ++ X) := by
        have h1 := HN.out
        have h2 := HB.out
        refine ⟨?_, by rw [HX.out, List.length_take, List.length_drop]; omega, ?_⟩
        · rw [HX.out, h2, ← List.drop_drop, List.take_append_drop]
        · rw [HX.out, h2, List.take_add]
      have hc := HIN.out Z X (l.drop b) wr a b (by have h := HXD.out; have h2 := HTL.out; have h3 := HB.out; have h4 := HN.out; simp only [List.length_append, List.length_drop]; omega)
        (by intro x hx; rw [HX.out] at hx; exact List.mem_of_mem_drop (List.mem_of_mem_take hx))
        (by have h := HA.out; rw [← List.take_append_drop a l, HXD.out.1, ← List.append_assoc] at h; exact pairwise_mid h)
        (by have h := HR.out.1; rw [HXD.out.1, ← List.append_assoc] at h; exact h) HR.out.2 HTL.out.2.symm (by have h := HXD.out; have h2 := HTL.out; have h3 := HB.out; omega)
      have HC := hid hc
      clear hc
      go_wp2_with fail
      refine HC.out.mono ?_
      rintro e w3 ⟨rfl, W, h1, h2, h3, h4⟩
      have HW := hid (And.intro h1 (And.intro h2 (And.intro h3 h4)))
      clear h1 h2 h3 h4
      go_wp2_with fail
      go_roundw
      case rel => exact ⟨b, k + 1, rfl, rfl, hbN, by have h3 := HB.out; have := HZ.out.1; omega, Z ++ W, by rw [HXD.out.2.2]; exact .snoc k _ _ X W HF.out HXD.out.2.1 HW.out.1 HW.out.2.1, HW.out.2.2⟩
      case measure => simp [intOf]; have h3 := HB.out; omega
    · have hc := HIN.out Z (l.drop a) [] wr a N (by have h2 := HTL.out; have h4 := HN.out; simp only [List.length_append, List.length_drop, List.length_nil]; omega)
        (by intro x hx; exact List.mem_of_mem_drop hx)
        (by have h := HA.out; rw [← List.take_append_drop a l] at h; exact (List.pairwise_append.1 h).2.1)
        (by simpa using HR.out.1) HR.out.2 HTL.out.2.symm (by have h2 := HTL.out; have h4 := HN.out; rw [List.length_drop]; omega)
      have HC := hid hc
      clear hc
      go_wp2_with fail
      refine HC.out.mono ?_
      rintro e w3 ⟨rfl, W, h1, h2, h3, h4⟩
      have HW : Hid (BSc R 20 l (Z ++ W) ∧ IRow w3 g (Z ++ W) ∧ w0.grownBy w3 (some g)) := by
        refine ⟨?_, by simpa using h3, h4⟩
        have := HF.out.bsc (.last (l.drop a) W (by rw [List.length_drop]; have := HN.out; omega) h1 h2)
        rwa [List.take_append_drop] at this
      obtain ⟨Z0, HZ0⟩ : ∃ Z0, Hid (BSc R 20 l Z0 ∧ IRow w3 g Z0 ∧ w0.grownBy w3 (some g)) := ⟨_, HW⟩
      clear h1 h2 h3 h4 HW HC HR HF
      go_wp2_with fail
      go_loopw [6, 7, 8, 9] (fun v6 v7 v8 v9 wr => ∃ n : Nat, v6 = .int .i64 (n : Int) ∧ 1 ≤ n ∧ n ≤ 1099511627776 ∧ Hid (∃ Z, BSc R n l Z ∧ IRow wr g Z ∧ w0.grownBy wr (some g))) (fun v6 _ _ _ _ => N - (intOf v6).toNat)
      case atStart => exact ⟨20, rfl, by omega, by omega, Z0, HZ0.out⟩
      case round =>
        obtain ⟨n, rfl, hn1, hn2, HZ1⟩ := hrel
        by_cases hlt2 : n < N
        · obtain ⟨n2, HN2⟩ : ∃ n2, Hid (n2 = 2 * n) := ⟨_, rfl⟩
          have hn22 : 2 * (n : Int) = (n2 : Int) := by have := HN2.out; omega
          have hn23 : (n : Int) * 2 = (n2 : Int) := by have := HN2.out; omega
          have hn2b : n2 ≤ 1099511627776 := by have := HN2.out; omega
          have hn2p : n < n2 := by have := HN2.out; omega
          obtain ⟨wo, rfl⟩ : ∃ wo : World, wo = wr := ⟨_, rfl⟩
          go_wp2_with fail
          go_loopw [7, 8] (fun v7 v8 wr => ∃ a b : Nat, v7 = .int .i64 (a : Int) ∧ v8 = .int .i64 (b : Int) ∧ a ≤ N ∧ b ≤ 1649267441664 ∧ a < b ∧ Hid (b = a + n2 ∧ ∃ (k : Nat) (Z T : List Int), FB R n2 k (l.take a) Z ∧ BSc R n (l.drop a) T ∧ IRow wr g (Z ++ T) ∧ w0.grownBy wr (some g))) (fun v7 _ _ => N - (intOf v7).toNat)
          case atStart =>
            obtain ⟨Z1, h1, h2, h3⟩ := HZ1.out
            exact ⟨0, n2, rfl, rfl, by omega, by omega, by omega, by omega, 0, [], Z1, .zero, by simpa using h1, by simpa using h2, h3⟩
          case round =>
            obtain ⟨a, b, rfl, rfl, ha, hb, hab, HAB⟩ := hrel
            obtain ⟨hbb, k, Z, T, hF, hBS, hrow, hgr⟩ := HAB.out
            have HF := hid hF
            have HBS := hid hBS
            have HR := hid (And.intro hrow hgr)
            have HBB := hid hbb
            have HTL : Hid ((l.take a).length = a ∧ Z.length = a ∧ (l.drop a).length = N - a) := by
              have h1 := hF.len
              have h2 : (l.take a).length = a := by rw [List.length_take]; have := HN.out; omega
              exact ⟨h2, by omega, by rw [List.length_drop, HN.out]⟩
            obtain ⟨m, HM⟩ : ∃ m, Hid (m = a + n) := ⟨_, rfl⟩
            have hm : (a : Int) + (n : Int) = (m : Int) := by have := HM.out; omega
            have HLA : Hid (l = l.take a ++ l.drop a) := (List.take_append_drop a l).symm
            clear hF hBS hrow hgr hbb HAB
            by_cases hlt : b ≤ N
            · obtain ⟨X1, X2, l3, W1, W2, t3, e1, e2, k1, k2, k3, k4, k5, k6, k7, k8, k9⟩ := HBS.out.two (by omega) (by rw [HTL.out.2.2]; have := HBB.out; have := HN2.out; omega)
              have hX2 : X2.length = n := by
                have h1 := HTL.out.2.2
                rw [e1] at h1
                simp only [List.length_append] at h1
                rcases k9 with rfl | h
                · simp at h1; have := HBB.out; have := HN2.out; omega
                · exact h
              have HE := hid (And.intro e1 (And.intro e2 (And.intro k1 hX2)))
              have HK := hid (And.intro k4 (And.intro k5 (And.intro k6 (And.intro k7 k8))))
              have HB3 : Hid (l.take b = l.take a ++ (X1 ++ X2) ∧ l.drop b = l3) := by
                have h1 : l = (l.take a ++ (X1 ++ X2)) ++ l3 := by rw [List.append_assoc, List.append_assoc, ← e1]; exact HLA.out
                have h2 : (l.take a ++ (X1 ++ X2)).length = b := by simp only [List.length_append]; have := HTL.out.1; have := HBB.out; have := HN2.out; omega
                constructor
                · conv => lhs; rw [h1, ← h2]
                  exact List.take_left
                · conv => lhs; rw [h1, ← h2]
                  exact List.drop_left
              have hAX : (X1 ++ X2).Pairwise (Agree cf R) := by
                have h := HA.out
                rw [HLA.out, e1, ← List.append_assoc X1, ← List.append_assoc] at h
                exact pairwise_mid h
              have hmem : ∀ x ∈ W1 ++ W2, x ∈ l := by
                intro x hx
                rw [HLA.out, e1]
                simp only [List.mem_append] at hx ⊢
                rcases hx with h | h
                · simp [k4.mem_iff.1 h]
                · simp [k6.mem_iff.1 h]
              have hc := HSY.out (W1.length + W2.length + 1) Z W1 W2 t3 wr a m b (by omega) (by have h1 := HTL.out; have h2 := k4.length_eq; have h3 := k6.length_eq; have h4 := k8.len; have h5 : (l.drop a).length = _ := congrArg List.length e1; simp only [List.length_append] at h5 ⊢; omega)
                (HCM.out.sub hmem) k5 k7 (fun x hx y hy => (List.pairwise_append.1 hAX).2.2 x (k4.mem_iff.1 hx) y (k6.mem_iff.1 hy)) (by have h := HR.out.1; rw [e2] at h; simpa only [List.append_assoc] using h) HR.out.2
                HTL.out.2.1.symm (by have := HM.out; have := k4.length_eq; omega) (by have := HM.out; have := k6.length_eq; have := HBB.out; have := HN2.out; omega) (by have := k4.length_eq; omega) (by have := k6.length_eq; omega)
              have HC := hid hc
              obtain ⟨b2, HB2⟩ : ∃ b2, Hid (b2 = b + n2) := ⟨_, rfl⟩
              have hb2 : (b : Int) + (n2 : Int) = (b2 : Int) := by have := HB2.out; omega
              clear hc e1 e2 k1 k2 k3 k4 k5 k6 k7 k8 k9 hX2 hAX hmem
              go_wp2_with fail
              refine HC.out.mono ?_
              rintro e w3 ⟨rfl, W, h1, h2, h3, h4⟩
              have HW := hid (And.intro h1 (And.intro h2 (And.intro h3 h4)))
              clear h1 h2 h3 h4
              go_wp2_with fail
              go_roundw
              case rel =>
                refine ⟨b, b2, rfl, rfl, hlt, by have := HB2.out; omega, by have := HB2.out; omega, HB2.out, k + 1, Z ++ W, t3, ?_, by rw [HB3.out.2]; exact HK.out.2.2.2.2, by simpa only [List.append_assoc] using HW.out.2.2.1, HW.out.2.2.2⟩
                rw [HB3.out.1]
                refine .snoc k _ _ _ W HF.out (by rw [List.length_append, HE.out.2.2.1, HE.out.2.2.2, HN2.out]; omega) (HW.out.1.trans (HK.out.1.append HK.out.2.2.1)) HW.out.2.1
              case measure => simp [intOf]; omega
            · by_cases hmN : m < N
              · obtain ⟨X1, X2, l3, W1, W2, t3, e1, e2, k1, k2, k3, k4, k5, k6, k7, k8, k9⟩ := HBS.out.two (by omega) (by rw [HTL.out.2.2]; have := HM.out; omega)
                have hl3 : l3 = [] := by
                  have h1 := HTL.out.2.2
                  rw [e1] at h1
                  simp only [List.length_append] at h1
                  rcases k9 with h | h
                  · exact h
                  · exact List.eq_nil_of_length_eq_zero (by have := HBB.out; have := HN2.out; omega)
                subst hl3
                have ht3 : t3 = [] := List.eq_nil_of_length_eq_zero (by rw [k8.len]; rfl)
                subst ht3
                rw [List.append_nil] at e1 e2
                have HE := hid (And.intro e1 e2)
                have HK := hid (And.intro k4 k6)
                have hlen : N = a + X1.length + X2.length := by have h1 := HTL.out.2.2; rw [e1, List.length_append] at h1; omega
                have hAX : (X1 ++ X2).Pairwise (Agree cf R) := by
                  have h := HA.out
                  rw [HLA.out, e1] at h
                  exact (List.pairwise_append.1 h).2.1
                have hmem : ∀ x ∈ W1 ++ W2, x ∈ l := by
                  intro x hx
                  rw [HLA.out, e1]
                  simp only [List.mem_append] at hx ⊢
                  rcases hx with h | h
                  · simp [k4.mem_iff.1 h]
                  · simp [k6.mem_iff.1 h]
                have hc := HSY.out (W1.length + W2.length + 1) Z W1 W2 [] wr a m N (by omega) (by have h1 := HTL.out; have h2 := k4.length_eq; have h3 := k6.length_eq; simp only [List.length_append, List.length_nil]; omega)
                  (HCM.out.sub hmem) k5 k7 (fun x hx y hy => (List.pairwise_append.1 hAX).2.2 x (k4.mem_iff.1 hx) y (k6.mem_iff.1 hy)) (by have h := HR.out.1; rw [e2] at h; simpa only [List.append_assoc, List.append_nil] using h) HR.out.2
                  HTL.out.2.1.symm (by have := HM.out; have := k4.length_eq; omega) (by have := HM.out; have := k6.length_eq; have := k4.length_eq; omega) (by have := k4.length_eq; omega) (by have := k6.length_eq; omega)
                have HC := hid hc
                have HLN : Hid (X1.length + X2.length ≤ n2) := by show _ ≤ _; have := HBB.out; omega
                clear hc e1 e2 k1 k2 k3 k4 k5 k6 k7 k8 k9 hAX hmem hlen
                go_wp2_with fail
                refine HC.out.mono ?_
                rintro e w3 ⟨rfl, W, h1, h2, h3, h4⟩
                have HW := hid (And.intro h1 (And.intro h2 (And.intro h3 h4)))
                clear h1 h2 h3 h4
                go_wp2_with fail
                go_roundw
                case rel =>
                  refine ⟨n2, rfl, by omega, by omega, Z ++ W, ?_, by simpa only [List.append_nil] using HW.out.2.2.1, HW.out.2.2.2⟩
                  have h := HF.out.bsc (.last (l.drop a) W (by rw [HE.out.1, List.length_append]; exact HLN.out) (by rw [HE.out.1]; exact HW.out.1.trans (HK.out.1.append HK.out.2)) HW.out.2.1)
                  rwa [← HLA.out] at h
                case measure => simp [intOf]; omega
              · have hsh := HBS.out.short (by rw [HTL.out.2.2]; have := HM.out; omega)
                have HSH := hid hsh
                clear hsh
                go_wp2_with fail
                go_roundw
                case rel =>
                  refine ⟨n2, rfl, by omega, by omega, Z ++ T, ?_, HR.out⟩
                  have h := HF.out.bsc (.last (l.drop a) T (by rw [HTL.out.2.2]; have := HM.out; omega) HSH.out.1 HSH.out.2)
                  rwa [← HLA.out] at h
                case measure => simp [intOf]; omega
        · obtain ⟨Z1, h1, h2, h3⟩ := HZ1.out
          have HE := hid (h1.short (by have := HN.out; omega))
          have HE2 := hid (And.intro h2 h3)
          clear h1 h2 h3
          go_wp2_with fail
          go_end0
          rw [HQ.out]
          exact ⟨rfl, Z1, HE.out.1, HE.out.2, by simpa using HE2.out.1, HE2.out.2⟩
set_option maxRecDepth 100000 in
set_option maxHeartbeats 4000000 in
theorem sortStable_int {w0 w : World} {g c N : Nat} {l : List Int} (hN : N = l.length) (hN39 : N ≤ 549755813888) (F : Nat) (cap : Array Value) (cf : Int → Int → Int) (hcf : ∀ (args : Array Value) (w : World), (callFunc F args).run Tryz.prog w = .ok (.enter F args) w)
    (hcmp : CmpI F cap cf w0 g l) {R : Int → Int → Prop} (ht : ∀ x y z, R x y → R y z → R x z) (hA : l.Pairwise (Agree cf R)) (hI : IRow w g l) (hG : w0.grownBy w (some g)) :
    Calls Tryz.prog 69 #[.slice (some ⟨g, 0, none⟩) N c, .func (.func F) #[] cap] w (SortPost w0 g R [] l []) := by
  have HS := hid (stable_int (c := c) hN hN39 F cap cf hcf hcmp ht hA hI hG)
  obtain ⟨QQ, HQ⟩ : ∃ QQ : Ending → World → Prop, Hid (QQ = SortPost w0 g R [] l []) := ⟨_, rfl⟩
  rw [← HQ.out] at HS ⊢
  have HE : Hid (∀ e w', QQ e w' → e = .returned (.tuple #[])) := by intro e w' h; rw [HQ.out] at h; exact h.1
  clear hcmp ht hA hI hG hN
  go_enter Tryz.func69, Tryz.ntmps69
  go_wp2_with fail
  refine HS.out.mono ?_
  intro e w3 h
  obtain rfl := HE.out _ _ h
  have H := hid h
  clear h
  go_wp2_with fail
  go_end0
  exact H.out
/-! Of a row of nothing -/
set_option maxRecDepth 100000 in
set_option maxHeartbeats 4000000 in
theorem insSort_nil (w : World) (a : Option Addr) (c : Nat) (fv : Value) :
    Calls Tryz.prog 123 #[.slice a 0 c, .int .i64 0, .int .i64 0, fv] w fun e w' => e = .returned (.tuple #[]) ∧ w = w' := by
  go_enter Tryz.func123, Tryz.ntmps123
  go_wp2_with fail
  refine wp_loop_rounds 1 ?_
  rw [rounds_succ]
  go_wp2_with fail
  go_end0
  exact ⟨rfl, rfl⟩
set_option maxRecDepth 100000 in
set_option maxHeartbeats 4000000 in
theorem stable_nil (w : World) (a : Option Addr) (c : Nat) (fv : Value) :
    Calls Tryz.prog 103 #[.slice a 0 c, .int .i64 0, fv] w fun e w' => e = .returned (.tuple #[]) ∧ w = w' := by
  go_enter Tryz.func103, Tryz.ntmps103
  go_wp2_with fail
  refine wp_loop_rounds 1 ?_
  rw [rounds_succ]
  go_wp2_with fail
  refine (insSort_nil _ _ _ _).mono ?_
  rintro e w1 ⟨rfl, rfl⟩
  go_wp2_with fail
  refine wp_loop_rounds 1 ?_
  rw [rounds_succ]
  go_wp2_with fail
  go_end0
  exact ⟨rfl, rfl⟩
set_option maxRecDepth 100000 in
set_option maxHeartbeats 4000000 in
theorem sortStable_nil (w : World) (a : Option Addr) (c : Nat) (fv : Value) :
    Calls Tryz.prog 69 #[.slice a 0 c, fv] w fun e w' => e = .returned (.tuple #[]) ∧ w = w' := by
  go_enter Tryz.func69, Tryz.ntmps69
  go_wp2_with fail
  refine (stable_nil _ _ _ _).mono ?_
  rintro e w1 ⟨rfl, rfl⟩
  go_wp2_with fail
  go_end0
  exact ⟨rfl, rfl⟩
end Go.Proofs.YtbdeclkccchnoaaGreat
namespace Go.Proofs.YtbdeclkccchnoaaGreat
open Go.RowKit
def cmpN (fs : List Fld) (x y : Int) : Int := if numAt fs x < numAt fs y then -1 else if numAt fs y < numAt fs x then 1 else 0
theorem agree_cmpN {fs : List Fld} {x y : Int} (h : x < y) : Agree (cmpN fs) (Ahead fs) x y := by
  unfold Agree cmpN Ahead
  constructor
  · constructor
    · intro h1
      split at h1
      · rename_i h2; exact .inl h2
      · split at h1 <;> omega
    · intro h1
      rw [if_pos (by omega)]; decide
  · omega
set_option maxRecDepth 100000 in
set_option maxHeartbeats 4000000 in
theorem schema_Sorted_1 {w : World} {q : Nat} {_nm : ByteArray} {v : Value} {fs : List Fld} (h0 : w.cell? ⟨q, 1, none⟩ = some v) (h : FieldsAt w v fs) (x y : Int) (hx : 0 ≤ x ∧ x < fs.length) (hy : 0 ≤ y ∧ y < fs.length) :
    Calls Tryz.prog 70 #[.int .i64 x, .int .i64 y, .pointer (some ⟨q, 0, none⟩)] w fun e w' => e = .returned (.int .i64 (cmpN fs x y)) ∧ Below w.heap.size w w' := by
  obtain ⟨i, rfl⟩ : ∃ i : Nat, x = i := ⟨x.toNat, by omega⟩
  obtain ⟨j, rfl⟩ : ∃ j : Nat, y = j := ⟨y.toNat, by omega⟩
  obtain ⟨hlen, a, cap, rfl, hat⟩ := h.open
  obtain ⟨n, HN⟩ : ∃ n, Hid (n = fs.length) := ⟨_, rfl⟩
  rw [← HN.out] at hat hlen h0 hx hy
  have hin : i < n := by omega
  have hjn : j < n := by omega
  obtain ⟨b, o, ha, -, -, g1, -, -, -, -⟩ := hat i hin
  obtain ⟨b2, o2, ha2, -, -, g2, -, -, -, -⟩ := hat j hjn
  have hix := index_run Tryz.underlying45 size_fld ha i hin (cap := cap)
  have hix2 := index_run Tryz.underlying45 size_fld ha2 j hjn (cap := cap)
  have HZ : Hid (cmpN fs (i : Int) (j : Int) = if (fs.getD i .zero).number < (fs.getD j .zero).number then -1 else if (fs.getD j .zero).number < (fs.getD i .zero).number then 1 else 0) := rfl
  obtain ⟨p, HP⟩ : ∃ p, Hid (p = (fs.getD i .zero).number) := ⟨_, rfl⟩
  obtain ⟨r, HR⟩ : ∃ r, Hid (r = (fs.getD j .zero).number) := ⟨_, rfl⟩
  rw [← HP.out] at g1 HZ
  rw [← HR.out] at g2 HZ
  obtain ⟨z, HZZ⟩ : ∃ z, Hid (z = cmpN fs (i : Int) (j : Int)) := ⟨_, rfl⟩
  have HC := hid (cmp_Compare_int p r w.drew)
  rw [← HZ.out, ← HZZ.out] at HC
  rw [← HZZ.out]
  clear hat ha ha2 hx hy h HZ
  go_enter Tryz.func70, Tryz.ntmps70
  go_wp2_with fail
  go_still_tail 12, (by kernel_rfl)
  change wpList _ _ _ _ _ w.drew
  go_wp2_with fail
  refine HC.out.mono ?_
  rintro e w1 ⟨rfl, rfl⟩
  go_wp2_with fail
  go_ret
  exact ⟨rfl, (Below.refl _ _).drew⟩
def SortedPost (w : World) (l : List Int) (e : Ending) (w' : World) : Prop :=
  ∃ a c, e = .returned (.slice a l.length c) ∧ (l = [] ∨ ∃ g, a = some ⟨g, 0, none⟩ ∧ w.heap.size ≤ g ∧ IRow w' g l) ∧ Below w.heap.size w w'
theorem irow_of_own {w : World} {base n c g : Nat} {l : List Int} (h : IntsOwn w base (.slice (some ⟨g, 0, none⟩) n c) l) (hn : n = l.length) : IRow w g l ∧ base ≤ g := by
  rcases h.2 with ⟨h1, -⟩ | ⟨g', cap, cur, hv, hb, hg, hnc, hcm, hcs, ht⟩
  · cases h1
  · cases hv
    refine ⟨⟨cur, hg, by omega, ?_⟩, hb⟩
    simpa using ht
set_option maxRecDepth 100000 in
set_option maxHeartbeats 8000000 in
theorem schema_Sorted {w : World} {v : Value} {fs : List Fld} (nm : ByteArray) (h : FieldsAt w v fs) (hl : fs.length ≤ 549755813888) :
    Calls Tryz.prog 41 #[.agg #[.string nm, v]] w (SortedPost w (sortedF fs)) := by
  have HF := hid h
  obtain ⟨-, a, cap, rfl, -⟩ := h.open
  obtain ⟨n, HN⟩ : ∃ n, Hid (n = fs.length) := ⟨_, rfl⟩
  rw [← HN.out] at hl HF ⊢
  obtain ⟨w1, HW1⟩ : ∃ w1, Hid (w1 = w.alloc (.cells #[.string nm, .slice a n cap] 47)) := ⟨_, rfl⟩
  have hb1 : Below w.heap.size w w1 := by rw [HW1.out]; (repeat (first | with_reducible exact Below.refl _ _ | with_reducible refine Below.setCell ?_ (by first | omega | (simp; omega) | (simp; done)) _ | with_reducible refine Below.alloc ?_ (by first | omega | (simp; omega) | (simp; done)) _ | with_reducible refine below_drewN ?_ _ | with_reducible refine Below.drew ?_))
  have hbx : Blk w1 w.heap.size [.string nm, .slice a n cap] 47 := by rw [HW1.out]; exact Blk.new w [.string nm, .slice a n cap] _
  have HB1 := hid hb1
  have HBX := hid hbx
  have hsz1 : Hid (w1.heap.size = w.heap.size + 1) := by rw [Hid, HW1.out]; simp
  have c1 := hbx.cell 1 _ rfl
  have HCMP : Hid (∀ (g : Nat) (wq : World), w1.heap.size ≤ g → Below w1.heap.size w1 wq → CmpI 70 #[.pointer (some ⟨w.heap.size, 0, none⟩)] (cmpN fs) wq g (upTo n)) := by
    intro g wq hg hbq x y wr hx hy hgr
    have hk : ∀ b, b < w1.heap.size → wr.heap[b]? = w1.heap[b]? := fun b hb => (hgr.block b (Nat.lt_of_lt_of_le hb hbq.size) (fun e => by cases e; omega)).trans (hbq.block b hb)
    have hc : ∀ p u, w1.cell? p = some u → wr.cell? p = some u := fun p u hu => (World.cell?_of_block (hk _ (World.block_lt_of_cell? w1 p hu))).trans hu
    refine schema_Sorted_1 (_nm := nm) (hc _ _ (HBX.out.cell 1 _ rfl)) ((HF.out.below HB1.out).keep hc) x y ?_ ?_
    · have := upTo_mem.1 hx; rw [HN.out] at this; exact this
    · have := upTo_mem.1 hy; rw [HN.out] at this; exact this
  obtain ⟨Q, HQ⟩ : ∃ Q : Ending → World → Prop, Hid (Q = SortedPost w (sortedF fs)) := ⟨_, rfl⟩
  rw [← HQ.out]
  clear h hb1 hbx
  go_enter Tryz.func41, Tryz.ntmps41
  go_wp2_with fail
  rw [← HW1.out]
  go_loopw [3, 8] (fun v3 v8 wr => ∃ i : Nat, v8 = .int .i64 (i : Int) ∧ i ≤ n ∧ Hid (IntsOwn wr w1.heap.size v3 (upTo i) ∧ Below w1.heap.size w1 wr)) (fun _ v8 _ => n - (intOf v8).toNat)
  case atStart => exact ⟨0, rfl, by omega, World.ownsRow_nil _ _ _ _, Below.refl _ _⟩
  case round =>
    obtain ⟨i, rfl, hi, HI⟩ := hrel
    obtain ⟨oa, oc, hoe⟩ := HI.out.1.form
    rw [upTo_len] at hoe
    subst hoe
    by_cases hlt : i < n
    · have hs0 := HI.out.2.size
      go_wp2_with (at_builtin; refine wpList_append_int rfl _ _ rfl rfl _ (i : Int) _ rfl rfl rfl ?c0 w1.heap.size (upTo i) ?c1 ?c2 ?c3 ?c4 ?_)
      case c0 => simp
      case c1 => exact HI.out.1
      case c2 => constructor <;> omega
      case c3 => rw [upTo_len]; omega
      case c4 => exact hs0
      intro a' c' w5 hO5 hB5 hK5
      have hB5' := hB5 w1 HI.out.2
      rw [upTo_len] at hO5 ⊢
      rw [← upTo_succ] at hO5
      have HO5 := hid hO5
      have HB5 := hid hB5'
      clear hO5 hB5 hK5 hB5' hs0
      go_wp2_with fail
      go_roundw
      case rel => exact ⟨i + 1, by go_num, hlt, HO5.out, HB5.out⟩
      case measure => simp [intOf]; omega
    · obtain rfl : i = n := by omega
      by_cases h0 : i = 0
      · have HE : Hid (sortedF fs = []) := List.eq_nil_of_length_eq_zero (by rw [sortedF_len, ← HN.out]; exact h0)
        have HBW : Hid (Below w.heap.size w wr) := HB1.out.trans (HI.out.2.mono HB1.out.size)
        subst h0
        go_wp2_with fail
        refine (sortStable_nil _ _ _ _).mono ?_
        rintro e w5 ⟨rfl, rfl⟩
        go_wp2_with fail
        rw [HQ.out]
        exact ⟨oa, oc, by rw [HE.out]; rfl, .inl HE.out, HBW.out⟩
      · obtain ⟨g, rfl⟩ : ∃ g, oa = some ⟨g, 0, none⟩ := by
          rcases HI.out.1.2 with ⟨h1, h2⟩ | ⟨g', cap, cur, hv, -⟩
          · exact absurd h2 (by rw [upTo_len]; exact h0)
          · exact ⟨g', (Value.slice.inj hv).1⟩
        obtain ⟨hir, hg⟩ := irow_of_own HI.out.1 (upTo_len i).symm
        have hA : (upTo i).Pairwise (Agree (cmpN fs) (Ahead fs)) := (upTo_sorted fs i).imp agree_cmpN
        have hst := sortStable_int (c := oc) (upTo_len i).symm (by omega) 70 #[.pointer (some ⟨w.heap.size, 0, none⟩)] (cmpN fs) (fun args w => by simp [go_sem]) (HCMP.out g wr hg HI.out.2) Ahead.trans hA hir (World.grownBy.refl wr _)
        have HST := hid hst
        have HGG := hid hg
        clear hst hA hir
        go_wp2_with fail
        refine HST.out.mono ?_
        rintro e w5 ⟨rfl, Z, h1, h2, h3, h4⟩
        have HZE : Hid (Z = sortedF fs) := sortedF_unique (by rw [← HN.out]; exact h1) h2
        have HB5 : Hid (Below w.heap.size w w5) := HB1.out.trans ((HI.out.2.grown h4 HI.out.2.size (by intro q e; cases e; exact hg)).mono HB1.out.size)
        have HR5 := hid h3
        clear h1 h2 h3 h4 hg
        go_wp2_with fail
        rw [HQ.out]
        have h5 := HR5.out
        rw [HZE.out, List.nil_append, List.append_nil] at h5
        refine ⟨some ⟨g, 0, none⟩, oc, by rw [sortedF_len, ← HN.out]; rfl, .inr ⟨g, rfl, ?_, h5⟩, HB5.out⟩
        exact Nat.le_trans HB1.out.size HGG.out
end Go.Proofs.YtbdeclkccchnoaaGreat
