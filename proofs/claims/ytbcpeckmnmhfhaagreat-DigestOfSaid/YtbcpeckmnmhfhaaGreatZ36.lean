/- slices.stableCmpFunc, SortStableFunc of ints: the row, sorted, what is alike in its order. At most 2^39 ints. schema.Sorted: the places of the fields by rising numbers (sortedF). At most 2^39 fields. -/
import Derived.Test.YtbcpeckmnmhfhaaGreatZ07
import Derived.Test.YtbcpeckmnmhfhaaGreatZ21
import Derived.Test.YtbcpeckmnmhfhaaGreatZ35
namespace Go.Proofs.YtbcpeckmnmhfhaaGreat
open Go.RowKit
theorem symMerge_all {w0 : World} {g c N : Nat} (hN40 : N ≤ 1099511627776) (F : Nat) (cap : Array Value) (cf : Int → Int → Int) (hcf : ∀ (args : Array Value) (w : World), (callFunc F args).run Tryz.prog w = .ok (.enter F args) w)
    {R : Int → Int → Prop} (ht : ∀ x y z, R x y → R y z → R x z) : ∀ len, SymIH F cap cf R w0 g c N len
  | 0 => fun P L Q S w a m b h => absurd h (by omega)
  | len + 1 => fun P L Q S w a m b h hN hcmp hL hQ hA hI hG ha hm hb h0 h1 => by
    by_cases hl1 : L.length = 1
    · obtain ⟨x, rfl⟩ := List.length_eq_one_iff.1 hl1
      exact symMerge_left hN hN40 F cap cf hcf (hcmp.sub (by simp)) ht hQ (fun y hy => hA x (by simp) y hy) hI hG a m b ha hm hb
    · by_cases hq1 : Q.length = 1
      · obtain ⟨y, rfl⟩ := List.length_eq_one_iff.1 hq1
        exact symMerge_right hN hN40 F cap cf hcf (hcmp.sub (by intro x hx; simp only [List.mem_cons] at hx; rcases hx with h | h <;> simp [h])) ht hL hl1 (fun x hx => hA x hx y (by simp)) hI hG a m b ha hm hb
      · refine symMerge_step hN hN40 F cap cf hcf hcmp ht hL hQ hA hI hG ?_ a m b ha hm hb (by omega) (by omega)
        intro P' L' Q' S' w' a' m' b' h'
        exact symMerge_all hN40 F cap cf hcf ht len P' L' Q' S' w' a' m' b' (by omega)
theorem pairwise_mid {T : Type} {A : T → T → Prop} {l1 X l2 : List T} (h : (l1 ++ X ++ l2).Pairwise A) : X.Pairwise A :=
  (List.pairwise_append.1 (List.pairwise_append.1 h).1).2.1
set_option maxRecDepth 100000 in
set_option maxHeartbeats 16000000 in
theorem stable_int {w0 w : World} {g c N : Nat} {l : List Int} (hN : N = l.length) (hN39 : N ≤ 549755813888) (F : Nat) (cap : Array Value) (cf : Int → Int → Int) (hcf : ∀ (args : Array Value) (w : World), (callFunc F args).run Tryz.prog w = .ok (.enter F args) w)
    (hcmp : CmpI F cap cf w0 g l) {R : Int → Int → Prop} (ht : ∀ x y z, R x y → R y z → R x z) (hA : l.Pairwise (Agree cf R)) (hI : IRow w g l) (hG : w0.grownBy w (some g)) :
    Calls Tryz.prog 96 #[.slice (some ⟨g, 0, none⟩) N c, .int .i64 (N : Int), .func (.func F) #[] cap] w (SortPost w0 g R [] l []) := by
  have HCM := hid hcmp
  have HT := hid ht
  have HA := hid hA
  have HI := hid (And.intro hI hG)
  have HN := hid hN
  have HIN : Hid (∀ (P X S : List Int) (W : World) (a b : Nat), N = (P ++ X ++ S).length → (∀ x ∈ X, x ∈ l) → X.Pairwise (Agree cf R) → IRow W g (P ++ X ++ S) → w0.grownBy W (some g) → a = P.length → b = P.length + X.length →
      Calls Tryz.prog 113 #[.slice (some ⟨g, 0, none⟩) N c, .int .i64 (a : Int), .int .i64 (b : Int), .func (.func F) #[] cap] W (SortPost w0 g R P X S)) :=
    fun P X S W a b h1 h2 h3 h4 h5 h6 h7 => insSort_int h1 (by omega) F cap cf hcf (hcmp.sub h2) ht h3 h4 h5 a b h6 h7
  have HSY := hid fun len => symMerge_all (w0 := w0) (g := g) (c := c) (N := N) (by omega) F cap cf hcf ht len
  obtain ⟨QQ, HQ⟩ : ∃ QQ : Ending → World → Prop, Hid (QQ = SortPost w0 g R [] l []) := ⟨_, rfl⟩
  rw [← HQ.out]
  clear hcmp ht hA hI hG hN
  go_enter Tryz.func96, Tryz.ntmps96
  go_wp2_with fail
  go_loopw [7, 8] (fun v7 v8 wr => ∃ a k : Nat, v7 = .int .i64 (a : Int) ∧ v8 = .int .i64 ((a : Int) + 20) ∧ a ≤ N ∧ Hid (a = 20 * k ∧ ∃ Z, FB R 20 k (l.take a) Z ∧ IRow wr g (Z ++ l.drop a) ∧ w0.grownBy wr (some g))) (fun v7 _ _ => N - (intOf v7).toNat)
  case atStart => exact ⟨0, 0, rfl, by simp, by omega, rfl, [], .zero, by simpa using HI.out.1, HI.out.2⟩
  case round =>
    obtain ⟨a, k, rfl, rfl, ha, HZ⟩ := hrel
    obtain ⟨Z, hF, hrow, hgr⟩ := HZ.out.2
    have HF := hid hF
    have HR := hid (And.intro hrow hgr)
    have HTL : Hid ((l.take a).length = a ∧ Z.length = a) := by
      have h1 := hF.len
      have h2 : (l.take a).length = a := by rw [List.length_take]; have := HN.out; omega
      exact ⟨h2, by omega⟩
    clear hF hrow hgr
    by_cases hlt : a + 20 ≤ N
    · obtain ⟨b, HB⟩ : ∃ b, Hid (b = a + 20) := ⟨_, rfl⟩
      have hb : (a : Int) + 20 = (b : Int) := by have := HB.out; omega
      have hbN : b ≤ N := by have := HB.out; omega
      obtain ⟨X, HX⟩ : ∃ X, Hid (X = (l.drop a).take 20) := ⟨_, rfl⟩
      have HXD : Hid (l.drop a = X ++ l.drop b ∧ X.length = 20 ∧ l.take b = l.take a ++ X) := by
        have h1 := HN.out
        have h2 := HB.out
        refine ⟨?_, by rw [HX.out, List.length_take, List.length_drop]; omega, ?_⟩
        · rw [HX.out, h2, ← List.drop_drop, List.take_append_drop]
        · rw [HX.out, h2, List.take_add]
      have hc := HIN.out Z X (l.drop b) wr a b (by have h := HXD.out; have h2 := HTL.out; have h3 := HB.out; have h4 := HN.out; simp only [List.length_append, List.length_drop]; omega)
        (by intro x hx; rw [HX.out] at hx; exact List.mem_of_mem_drop (List.mem_of_mem_take hx))
        (by have h := HA.out; rw [← List.take_append_drop a l, HXD.out.1, ← List.append_assoc] at h; exact pairwise_mid h)
        (by have h := HR.out.1; rw [HXD.out.1, ← List.append_assoc] at h; exact h) HR.out.2 HTL.out.2.symm (by have h := HXD.out; have h2 := HTL.out; have h3 := HB.out; omega)
      have HC := hid hc
      clear hc
      go_wp2_with fail
      refine HC.out.mono ?_
      rintro e w3 ⟨rfl, W, h1, h2, h3, h4⟩
      have HW := hid (And.intro h1 (And.intro h2 (And.intro h3 h4)))
      clear h1 h2 h3 h4
      go_wp2_with fail
      go_roundw
      case rel => exact ⟨b, k + 1, rfl, rfl, hbN, by have h3 := HB.out; have := HZ.out.1; omega, Z ++ W, by rw [HXD.out.2.2]; exact .snoc k _ _ X W HF.out HXD.out.2.1 HW.out.1 HW.out.2.1, HW.out.2.2⟩
      case measure => simp [intOf]; have h3 := HB.out; omega
    · have hc := HIN.out Z (l.drop a) [] wr a N (by have h2 := HTL.out; have h4 := HN.out; simp only [List.length_append, List.length_drop, List.length_nil]; omega)
        (by intro x hx; exact List.mem_of_mem_drop hx)
        (by have h := HA.out; rw [← List.take_append_drop a l] at h; exact (List.pairwise_append.1 h).2.1)
        (by simpa using HR.out.1) HR.out.2 HTL.out.2.symm (by have h2 := HTL.out; have h4 := HN.out; rw [List.length_drop]; omega)
      have HC := hid hc
      clear hc
      go_wp2_with fail
      refine HC.out.mono ?_
      rintro e w3 ⟨rfl, W, h1, h2, h3, h4⟩
      have HW : Hid (BSc R 20 l (Z ++ W) ∧ IRow w3 g (Z ++ W) ∧ w0.grownBy w3 (some g)) := by
        refine ⟨?_, by simpa using h3, h4⟩
        have := HF.out.bsc (.last (l.drop a) W (by rw [List.length_drop]; have := HN.out; omega) h1 h2)
        rwa [List.take_append_drop] at this
      obtain ⟨Z0, HZ0⟩ : ∃ Z0, Hid (BSc R 20 l Z0 ∧ IRow w3 g Z0 ∧ w0.grownBy w3 (some g)) := ⟨_, HW⟩
      clear h1 h2 h3 h4 HW HC HR HF
      go_wp2_with fail
      go_loopw [6, 7, 8, 9] (fun v6 v7 v8 v9 wr => ∃ n : Nat, v6 = .int .i64 (n : Int) ∧ 1 ≤ n ∧ n ≤ 1099511627776 ∧ Hid (∃ Z, BSc R n l Z ∧ IRow wr g Z ∧ w0.grownBy wr (some g))) (fun v6 _ _ _ _ => N - (intOf v6).toNat)
      case atStart => exact ⟨20, rfl, by omega, by omega, Z0, HZ0.out⟩
      case round =>
        obtain ⟨n, rfl, hn1, hn2, HZ1⟩ := hrel
        by_cases hlt2 : n < N
        · obtain ⟨n2, HN2⟩ : ∃ n2, Hid (n2 = 2 * n) := ⟨_, rfl⟩
          have hn22 : 2 * (n : Int) = (n2 : Int) := by have := HN2.out; omega
          have hn23 : (n : Int) * 2 = (n2 : Int) := by have := HN2.out; omega
          have hn2b : n2 ≤ 1099511627776 := by have := HN2.out; omega
          have hn2p : n < n2 := by have := HN2.out; omega
          obtain ⟨wo, rfl⟩ : ∃ wo : World, wo = wr := ⟨_, rfl⟩
          go_wp2_with fail
          go_loopw [7, 8] (fun v7 v8 wr => ∃ a b : Nat, v7 = .int .i64 (a : Int) ∧ v8 = .int .i64 (b : Int) ∧ a ≤ N ∧ b ≤ 1649267441664 ∧ a < b ∧ Hid (b = a + n2 ∧ ∃ (k : Nat) (Z T : List Int), FB R n2 k (l.take a) Z ∧ BSc R n (l.drop a) T ∧ IRow wr g (Z ++ T) ∧ w0.grownBy wr (some g))) (fun v7 _ _ => N - (intOf v7).toNat)
          case atStart =>
            obtain ⟨Z1, h1, h2, h3⟩ := HZ1.out
            exact ⟨0, n2, rfl, rfl, by omega, by omega, by omega, by omega, 0, [], Z1, .zero, by simpa using h1, by simpa using h2, h3⟩
          case round =>
            obtain ⟨a, b, rfl, rfl, ha, hb, hab, HAB⟩ := hrel
            obtain ⟨hbb, k, Z, T, hF, hBS, hrow, hgr⟩ := HAB.out
            have HF := hid hF
            have HBS := hid hBS
            have HR := hid (And.intro hrow hgr)
            have HBB := hid hbb
            have HTL : Hid ((l.take a).length = a ∧ Z.length = a ∧ (l.drop a).length = N - a) := by
              have h1 := hF.len
              have h2 : (l.take a).length = a := by rw [List.length_take]; have := HN.out; omega
              exact ⟨h2, by omega, by rw [List.length_drop, HN.out]⟩
            obtain ⟨m, HM⟩ : ∃ m, Hid (m = a + n) := ⟨_, rfl⟩
            have hm : (a : Int) + (n : Int) = (m : Int) := by have := HM.out; omega
            have HLA : Hid (l = l.take a ++ l.drop a) := (List.take_append_drop a l).symm
            clear hF hBS hrow hgr hbb HAB
            by_cases hlt : b ≤ N
            · obtain ⟨X1, X2, l3, W1, W2, t3, e1, e2, k1, k2, k3, k4, k5, k6, k7, k8, k9⟩ := HBS.out.two (by omega) (by rw [HTL.out.2.2]; have := HBB.out; have := HN2.out; omega)
              have hX2 : X2.length = n := by
                have h1 := HTL.out.2.2
                rw [e1] at h1
                simp only [List.length_append] at h1
                rcases k9 with rfl | h
                · simp at h1; have := HBB.out; have := HN2.out; omega
                · exact h
              have HE := hid (And.intro e1 (And.intro e2 (And.intro k1 hX2)))
              have HK := hid (And.intro k4 (And.intro k5 (And.intro k6 (And.intro k7 k8))))
              have HB3 : Hid (l.take b = l.take a ++ (X1 ++ X2) ∧ l.drop b = l3) := by
                have h1 : l = (l.take a ++ (X1 ++ X2)) ++ l3 := by rw [List.append_assoc, List.append_assoc, ← e1]; exact HLA.out
                have h2 : (l.take a ++ (X1 ++ X2)).length = b := by simp only [List.length_append]; have := HTL.out.1; have := HBB.out; have := HN2.out; omega
                constructor
                · conv => lhs; rw [h1, ← h2]
                  exact List.take_left
                · conv => lhs; rw [h1, ← h2]
                  exact List.drop_left
              have hAX : (X1 ++ X2).Pairwise (Agree cf R) := by
                have h := HA.out
                rw [HLA.out, e1, ← List.append_assoc X1, ← List.append_assoc] at h
                exact pairwise_mid h
              have hmem : ∀ x ∈ W1 ++ W2, x ∈ l := by
                intro x hx
                rw [HLA.out, e1]
                simp only [List.mem_append] at hx ⊢
                rcases hx with h | h
                · simp [k4.mem_iff.1 h]
                · simp [k6.mem_iff.1 h]
              have hc := HSY.out (W1.length + W2.length + 1) Z W1 W2 t3 wr a m b (by omega) (by have h1 := HTL.out; have h2 := k4.length_eq; have h3 := k6.length_eq; have h4 := k8.len; have h5 : (l.drop a).length = _ := congrArg List.length e1; simp only [List.length_append] at h5 ⊢; omega)
                (HCM.out.sub hmem) k5 k7 (fun x hx y hy => (List.pairwise_append.1 hAX).2.2 x (k4.mem_iff.1 hx) y (k6.mem_iff.1 hy)) (by have h := HR.out.1; rw [e2] at h; simpa only [List.append_assoc] using h) HR.out.2
                HTL.out.2.1.symm (by have := HM.out; have := k4.length_eq; omega) (by have := HM.out; have := k6.length_eq; have := HBB.out; have := HN2.out; omega) (by have := k4.length_eq; omega) (by have := k6.length_eq; omega)
              have HC := hid hc
              obtain ⟨b2, HB2⟩ : ∃ b2, Hid (b2 = b + n2) := ⟨_, rfl⟩
              have hb2 : (b : Int) + (n2 : Int) = (b2 : Int) := by have := HB2.out; omega
              clear hc e1 e2 k1 k2 k3 k4 k5 k6 k7 k8 k9 hX2 hAX hmem
              go_wp2_with fail
              refine HC.out.mono ?_
              rintro e w3 ⟨rfl, W, h1, h2, h3, h4⟩
              have HW := hid (And.intro h1 (And.intro h2 (And.intro h3 h4)))
              clear h1 h2 h3 h4
              go_wp2_with fail
              go_roundw
              case rel =>
                refine ⟨b, b2, rfl, rfl, hlt, by have := HB2.out; omega, by have := HB2.out; omega, HB2.out, k + 1, Z ++ W, t3, ?_, by rw [HB3.out.2]; exact HK.out.2.2.2.2, by simpa only [List.append_assoc] using HW.out.2.2.1, HW.out.2.2.2⟩
                rw [HB3.out.1]
                refine .snoc k _ _ _ W HF.out (by rw [List.length_append, HE.out.2.2.1, HE.out.2.2.2, HN2.out]; omega) (HW.out.1.trans (HK.out.1.append HK.out.2.2.1)) HW.out.2.1
              case measure => simp [intOf]; omega
            · by_cases hmN : m < N
              · obtain ⟨X1, X2, l3, W1, W2, t3, e1, e2, k1, k2, k3, k4, k5, k6, k7, k8, k9⟩ := HBS.out.two (by omega) (by rw [HTL.out.2.2]; have := HM.out; omega)
                have hl3 : l3 = [] := by
                  have h1 := HTL.out.2.2
                  rw [e1] at h1
                  simp only [List.length_append] at h1
                  rcases k9 with h | h
                  · exact h
                  · exact List.eq_nil_of_length_eq_zero (by have := HBB.out; have := HN2.out; omega)
                subst hl3
                have ht3 : t3 = [] := List.eq_nil_of_length_eq_zero (by rw [k8.len]; rfl)
                subst ht3
                rw [List.append_nil] at e1 e2
                have HE := hid (And.intro e1 e2)
                have HK := hid (And.intro k4 k6)
                have hlen : N = a + X1.length + X2.length := by have h1 := HTL.out.2.2; rw [e1, List.length_append] at h1; omega
                have hAX : (X1 ++ X2).Pairwise (Agree cf R) := by
                  have h := HA.out
                  rw [HLA.out, e1] at h
                  exact (List.pairwise_append.1 h).2.1
                have hmem : ∀ x ∈ W1 ++ W2, x ∈ l := by
                  intro x hx
                  rw [HLA.out, e1]
                  simp only [List.mem_append] at hx ⊢
                  rcases hx with h | h
                  · simp [k4.mem_iff.1 h]
                  · simp [k6.mem_iff.1 h]
                have hc := HSY.out (W1.length + W2.length + 1) Z W1 W2 [] wr a m N (by omega) (by have h1 := HTL.out; have h2 := k4.length_eq; have h3 := k6.length_eq; simp only [List.length_append, List.length_nil]; omega)
                  (HCM.out.sub hmem) k5 k7 (fun x hx y hy => (List.pairwise_append.1 hAX).2.2 x (k4.mem_iff.1 hx) y (k6.mem_iff.1 hy)) (by have h := HR.out.1; rw [e2] at h; simpa only [List.append_assoc, List.append_nil] using h) HR.out.2
                  HTL.out.2.1.symm (by have := HM.out; have := k4.length_eq; omega) (by have := HM.out; have := k6.length_eq; have := k4.length_eq; omega) (by have := k4.length_eq; omega) (by have := k6.length_eq; omega)
                have HC := hid hc
                have HLN : Hid (X1.length + X2.length ≤ n2) := by show _ ≤ _; have := HBB.out; omega
                clear hc e1 e2 k1 k2 k3 k4 k5 k6 k7 k8 k9 hAX hmem hlen
                go_wp2_with fail
                refine HC.out.mono ?_
                rintro e w3 ⟨rfl, W, h1, h2, h3, h4⟩
                have HW := hid (And.intro h1 (And.intro h2 (And.intro h3 h4)))
                clear h1 h2 h3 h4
                go_wp2_with fail
                go_roundw
                case rel =>
                  refine ⟨n2, rfl, by omega, by omega, Z ++ W, ?_, by simpa only [List.append_nil] using HW.out.2.2.1, HW.out.2.2.2⟩
                  have h := HF.out.bsc (.last (l.drop a) W (by rw [HE.out.1, List.length_append]; exact HLN.out) (by rw [HE.out.1]; exact HW.out.1.trans (HK.out.1.append HK.out.2)) HW.out.2.1)
                  rwa [← HLA.out] at h
                case measure => simp [intOf]; omega
              · have hsh := HBS.out.short (by rw [HTL.out.2.2]; have := HM.out; omega)
                have HSH := hid hsh
                clear hsh
                go_wp2_with fail
                go_roundw
                case rel =>
                  refine ⟨n2, rfl, by omega, by omega, Z ++ T, ?_, HR.out⟩
                  have h := HF.out.bsc (.last (l.drop a) T (by rw [HTL.out.2.2]; have := HM.out; omega) HSH.out.1 HSH.out.2)
                  rwa [← HLA.out] at h
                case measure => simp [intOf]; omega
        · obtain ⟨Z1, h1, h2, h3⟩ := HZ1.out
          have HE := hid (h1.short (by have := HN.out; omega))
          have HE2 := hid (And.intro h2 h3)
          clear h1 h2 h3
          go_wp2_with fail
          go_end0
          rw [HQ.out]
          exact ⟨rfl, Z1, HE.out.1, HE.out.2, by simpa using HE2.out.1, HE2.out.2⟩
set_option maxRecDepth 100000 in
set_option maxHeartbeats 4000000 in
theorem sortStable_int {w0 w : World} {g c N : Nat} {l : List Int} (hN : N = l.length) (hN39 : N ≤ 549755813888) (F : Nat) (cap : Array Value) (cf : Int → Int → Int) (hcf : ∀ (args : Array Value) (w : World), (callFunc F args).run Tryz.prog w = .ok (.enter F args) w)
    (hcmp : CmpI F cap cf w0 g l) {R : Int → Int → Prop} (ht : ∀ x y z, R x y → R y z → R x z) (hA : l.Pairwise (Agree cf R)) (hI : IRow w g l) (hG : w0.grownBy w (some g)) :
    Calls Tryz.prog 76 #[.slice (some ⟨g, 0, none⟩) N c, .func (.func F) #[] cap] w (SortPost w0 g R [] l []) := by
  have HS := hid (stable_int (c := c) hN hN39 F cap cf hcf hcmp ht hA hI hG)
  obtain ⟨QQ, HQ⟩ : ∃ QQ : Ending → World → Prop, Hid (QQ = SortPost w0 g R [] l []) := ⟨_, rfl⟩
  rw [← HQ.out] at HS ⊢
  have HE : Hid (∀ e w', QQ e w' → e = .returned (.tuple #[])) := by intro e w' h; rw [HQ.out] at h; exact h.1
  clear hcmp ht hA hI hG hN
  go_enter Tryz.func76, Tryz.ntmps76
  go_wp2_with fail
  refine HS.out.mono ?_
  intro e w3 h
  obtain rfl := HE.out _ _ h
  have H := hid h
  clear h
  go_wp2_with fail
  go_end0
  exact H.out
/-! Of a row of nothing -/
set_option maxRecDepth 100000 in
set_option maxHeartbeats 4000000 in
theorem insSort_nil (w : World) (a : Option Addr) (c : Nat) (fv : Value) :
    Calls Tryz.prog 113 #[.slice a 0 c, .int .i64 0, .int .i64 0, fv] w fun e w' => e = .returned (.tuple #[]) ∧ w = w' := by
  go_enter Tryz.func113, Tryz.ntmps113
  go_wp2_with fail
  refine wp_loop_rounds 1 ?_
  rw [rounds_succ]
  go_wp2_with fail
  go_end0
  exact ⟨rfl, rfl⟩
set_option maxRecDepth 100000 in
set_option maxHeartbeats 4000000 in
theorem stable_nil (w : World) (a : Option Addr) (c : Nat) (fv : Value) :
    Calls Tryz.prog 96 #[.slice a 0 c, .int .i64 0, fv] w fun e w' => e = .returned (.tuple #[]) ∧ w = w' := by
  go_enter Tryz.func96, Tryz.ntmps96
  go_wp2_with fail
  refine wp_loop_rounds 1 ?_
  rw [rounds_succ]
  go_wp2_with fail
  refine (insSort_nil _ _ _ _).mono ?_
  rintro e w1 ⟨rfl, rfl⟩
  go_wp2_with fail
  refine wp_loop_rounds 1 ?_
  rw [rounds_succ]
  go_wp2_with fail
  go_end0
  exact ⟨rfl, rfl⟩
set_option maxRecDepth 100000 in
set_option maxHeartbeats 4000000 in
theorem sortStable_nil (w : World) (a : Option Addr) (c : Nat) (fv : Value) :
    Calls Tryz.prog 76 #[.slice a 0 c, fv] w fun e w' => e = .returned (.tuple #[]) ∧ w = w' := by
  go_enter Tryz.func76, Tryz.ntmps76
  go_wp2_with fail
  refine (stable_nil _ _ _ _).mono ?_
  rintro e w1 ⟨rfl, rfl⟩
  go_wp2_with fail
  go_end0
  exact ⟨rfl, rfl⟩
end Go.Proofs.YtbcpeckmnmhfhaaGreat
namespace Go.Proofs.YtbcpeckmnmhfhaaGreat
open Go.RowKit
def cmpN (fs : List Fld) (x y : Int) : Int := if numAt fs x < numAt fs y then -1 else if numAt fs y < numAt fs x then 1 else 0
theorem agree_cmpN {fs : List Fld} {x y : Int} (h : x < y) : Agree (cmpN fs) (Ahead fs) x y := by
  unfold Agree cmpN Ahead
  constructor
  · constructor
    · intro h1
      split at h1
      · rename_i h2; exact .inl h2
      · split at h1 <;> omega
    · intro h1
      rw [if_pos (by omega)]; decide
  · omega
set_option maxRecDepth 100000 in
set_option maxHeartbeats 4000000 in
theorem schema_Sorted_1 {w : World} {q : Nat} {_nm : ByteArray} {v : Value} {fs : List Fld} (h0 : w.cell? ⟨q, 1, none⟩ = some v) (h : FieldsAt w v fs) (x y : Int) (hx : 0 ≤ x ∧ x < fs.length) (hy : 0 ≤ y ∧ y < fs.length) :
    Calls Tryz.prog 77 #[.int .i64 x, .int .i64 y, .pointer (some ⟨q, 0, none⟩)] w fun e w' => e = .returned (.int .i64 (cmpN fs x y)) ∧ Below w.heap.size w w' := by
  obtain ⟨i, rfl⟩ : ∃ i : Nat, x = i := ⟨x.toNat, by omega⟩
  obtain ⟨j, rfl⟩ : ∃ j : Nat, y = j := ⟨y.toNat, by omega⟩
  obtain ⟨hlen, a, cap, rfl, hat⟩ := h.open
  obtain ⟨n, HN⟩ : ∃ n, Hid (n = fs.length) := ⟨_, rfl⟩
  rw [← HN.out] at hat hlen h0 hx hy
  have hin : i < n := by omega
  have hjn : j < n := by omega
  obtain ⟨b, o, ha, -, -, g1, -, -, -, -⟩ := hat i hin
  obtain ⟨b2, o2, ha2, -, -, g2, -, -, -, -⟩ := hat j hjn
  have hix := index_run Tryz.underlying53 size_fld ha i hin (cap := cap)
  have hix2 := index_run Tryz.underlying53 size_fld ha2 j hjn (cap := cap)
  have HZ : Hid (cmpN fs (i : Int) (j : Int) = if (fs.getD i .zero).number < (fs.getD j .zero).number then -1 else if (fs.getD j .zero).number < (fs.getD i .zero).number then 1 else 0) := rfl
  obtain ⟨p, HP⟩ : ∃ p, Hid (p = (fs.getD i .zero).number) := ⟨_, rfl⟩
  obtain ⟨r, HR⟩ : ∃ r, Hid (r = (fs.getD j .zero).number) := ⟨_, rfl⟩
  rw [← HP.out] at g1 HZ
  rw [← HR.out] at g2 HZ
  obtain ⟨z, HZZ⟩ : ∃ z, Hid (z = cmpN fs (i : Int) (j : Int)) := ⟨_, rfl⟩
  have HC := hid (cmp_Compare_int p r w.drew)
  rw [← HZ.out, ← HZZ.out] at HC
  rw [← HZZ.out]
  clear hat ha ha2 hx hy h HZ
  go_enter Tryz.func77, Tryz.ntmps77
  go_wp2_with fail
  go_still_tail 12, (by kernel_rfl)
  change wpList _ _ _ _ _ w.drew
  go_wp2_with fail
  refine HC.out.mono ?_
  rintro e w1 ⟨rfl, rfl⟩
  go_wp2_with fail
  go_ret
  exact ⟨rfl, (Below.refl _ _).drew⟩
/-- a row of ints in new memory -/
def SortedPost (w : World) (l : List Int) (e : Ending) (w' : World) : Prop :=
  ∃ a c, e = .returned (.slice a l.length c) ∧ (l = [] ∨ ∃ g, a = some ⟨g, 0, none⟩ ∧ w.heap.size ≤ g ∧ IRow w' g l) ∧ Below w.heap.size w w'
theorem irow_of_own {w : World} {base n c g : Nat} {l : List Int} (h : IntsOwn w base (.slice (some ⟨g, 0, none⟩) n c) l) (hn : n = l.length) : IRow w g l ∧ base ≤ g := by
  rcases h.2 with ⟨h1, -⟩ | ⟨g', cap, cur, hv, hb, hg, hnc, hcm, hcs, ht⟩
  · cases h1
  · cases hv
    refine ⟨⟨cur, hg, by omega, ?_⟩, hb⟩
    simpa using ht
set_option maxRecDepth 100000 in
set_option maxHeartbeats 8000000 in
theorem schema_Sorted {w : World} {v : Value} {fs : List Fld} (nm : ByteArray) (h : FieldsAt w v fs) (hl : fs.length ≤ 549755813888) :
    Calls Tryz.prog 58 #[.agg #[.string nm, v]] w (SortedPost w (sortedF fs)) := by
  have HF := hid h
  obtain ⟨-, a, cap, rfl, -⟩ := h.open
  obtain ⟨n, HN⟩ : ∃ n, Hid (n = fs.length) := ⟨_, rfl⟩
  rw [← HN.out] at hl HF ⊢
  obtain ⟨w1, HW1⟩ : ∃ w1, Hid (w1 = w.alloc (.cells #[.string nm, .slice a n cap] 55)) := ⟨_, rfl⟩
  have hb1 : Below w.heap.size w w1 := by rw [HW1.out]; (repeat (first | with_reducible exact Below.refl _ _ | with_reducible refine Below.setCell ?_ (by first | omega | (simp; omega) | (simp; done)) _ | with_reducible refine Below.alloc ?_ (by first | omega | (simp; omega) | (simp; done)) _ | with_reducible refine below_drewN ?_ _ | with_reducible refine Below.drew ?_))
  have hbx : Blk w1 w.heap.size [.string nm, .slice a n cap] 55 := by rw [HW1.out]; exact Blk.new w [.string nm, .slice a n cap] _
  have HB1 := hid hb1
  have HBX := hid hbx
  have hsz1 : Hid (w1.heap.size = w.heap.size + 1) := by rw [Hid, HW1.out]; simp
  have c1 := hbx.cell 1 _ rfl
  have HCMP : Hid (∀ (g : Nat) (wq : World), w1.heap.size ≤ g → Below w1.heap.size w1 wq → CmpI 77 #[.pointer (some ⟨w.heap.size, 0, none⟩)] (cmpN fs) wq g (upTo n)) := by
    intro g wq hg hbq x y wr hx hy hgr
    have hk : ∀ b, b < w1.heap.size → wr.heap[b]? = w1.heap[b]? := fun b hb => (hgr.block b (Nat.lt_of_lt_of_le hb hbq.size) (fun e => by cases e; omega)).trans (hbq.block b hb)
    have hc : ∀ p u, w1.cell? p = some u → wr.cell? p = some u := fun p u hu => (World.cell?_of_block (hk _ (World.block_lt_of_cell? w1 p hu))).trans hu
    refine schema_Sorted_1 (_nm := nm) (hc _ _ (HBX.out.cell 1 _ rfl)) ((HF.out.below HB1.out).keep hc) x y ?_ ?_
    · have := upTo_mem.1 hx; rw [HN.out] at this; exact this
    · have := upTo_mem.1 hy; rw [HN.out] at this; exact this
  obtain ⟨Q, HQ⟩ : ∃ Q : Ending → World → Prop, Hid (Q = SortedPost w (sortedF fs)) := ⟨_, rfl⟩
  rw [← HQ.out]
  clear h hb1 hbx
  go_enter Tryz.func58, Tryz.ntmps58
  go_wp2_with fail
  rw [← HW1.out]
  go_loopw [3, 8] (fun v3 v8 wr => ∃ i : Nat, v8 = .int .i64 (i : Int) ∧ i ≤ n ∧ Hid (IntsOwn wr w1.heap.size v3 (upTo i) ∧ Below w1.heap.size w1 wr)) (fun _ v8 _ => n - (intOf v8).toNat)
  case atStart => exact ⟨0, rfl, by omega, World.ownsRow_nil _ _ _ _, Below.refl _ _⟩
  case round =>
    obtain ⟨i, rfl, hi, HI⟩ := hrel
    obtain ⟨oa, oc, hoe⟩ := HI.out.1.form
    rw [upTo_len] at hoe
    subst hoe
    by_cases hlt : i < n
    · have hs0 := HI.out.2.size
      go_wp2_with (at_builtin; refine wpList_append_int rfl _ _ rfl rfl _ (i : Int) _ rfl rfl rfl ?c0 w1.heap.size (upTo i) ?c1 ?c2 ?c3 ?c4 ?_)
      case c0 => simp
      case c1 => exact HI.out.1
      case c2 => constructor <;> omega
      case c3 => rw [upTo_len]; omega
      case c4 => exact hs0
      intro a' c' w5 hO5 hB5 hK5
      have hB5' := hB5 w1 HI.out.2
      rw [upTo_len] at hO5 ⊢
      rw [← upTo_succ] at hO5
      have HO5 := hid hO5
      have HB5 := hid hB5'
      clear hO5 hB5 hK5 hB5' hs0
      go_wp2_with fail
      go_roundw
      case rel => exact ⟨i + 1, by go_num, hlt, HO5.out, HB5.out⟩
      case measure => simp [intOf]; omega
    · obtain rfl : i = n := by omega
      by_cases h0 : i = 0
      · have HE : Hid (sortedF fs = []) := List.eq_nil_of_length_eq_zero (by rw [sortedF_len, ← HN.out]; exact h0)
        have HBW : Hid (Below w.heap.size w wr) := HB1.out.trans (HI.out.2.mono HB1.out.size)
        subst h0
        go_wp2_with fail
        refine (sortStable_nil _ _ _ _).mono ?_
        rintro e w5 ⟨rfl, rfl⟩
        go_wp2_with fail
        rw [HQ.out]
        exact ⟨oa, oc, by rw [HE.out]; rfl, .inl HE.out, HBW.out⟩
      · obtain ⟨g, rfl⟩ : ∃ g, oa = some ⟨g, 0, none⟩ := by
          rcases HI.out.1.2 with ⟨h1, h2⟩ | ⟨g', cap, cur, hv, -⟩
          · exact absurd h2 (by rw [upTo_len]; exact h0)
          · exact ⟨g', (Value.slice.inj hv).1⟩
        obtain ⟨hir, hg⟩ := irow_of_own HI.out.1 (upTo_len i).symm
        have hA : (upTo i).Pairwise (Agree (cmpN fs) (Ahead fs)) := (upTo_sorted fs i).imp agree_cmpN
        have hst := sortStable_int (c := oc) (upTo_len i).symm (by omega) 77 #[.pointer (some ⟨w.heap.size, 0, none⟩)] (cmpN fs) (fun args w => by simp [go_sem]) (HCMP.out g wr hg HI.out.2) Ahead.trans hA hir (World.grownBy.refl wr _)
        have HST := hid hst
        have HGG := hid hg
        clear hst hA hir
        go_wp2_with fail
        refine HST.out.mono ?_
        rintro e w5 ⟨rfl, Z, h1, h2, h3, h4⟩
        have HZE : Hid (Z = sortedF fs) := sortedF_unique (by rw [← HN.out]; exact h1) h2
        have HB5 : Hid (Below w.heap.size w w5) := HB1.out.trans ((HI.out.2.grown h4 HI.out.2.size (by intro q e; cases e; exact hg)).mono HB1.out.size)
        have HR5 := hid h3
        clear h1 h2 h3 h4 hg
        go_wp2_with fail
        rw [HQ.out]
        have h5 := HR5.out
        rw [HZE.out, List.nil_append, List.append_nil] at h5
        refine ⟨some ⟨g, 0, none⟩, oc, by rw [sortedF_len, ← HN.out]; rfl, .inr ⟨g, rfl, ?_, h5⟩, HB5.out⟩
        exact Nat.le_trans HB1.out.size HGG.out
end Go.Proofs.YtbcpeckmnmhfhaaGreat
