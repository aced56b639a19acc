/- Plain laws: rows whose blocks of a size are sorted. No condition. slices.stableCmpFunc, SortStableFunc of ints: the row, sorted, what is alike in its order. At most 2^39 ints. slices.Clone of rows; stats.Top: the rows by falling bytes, equals as they stood. At most 2^39 rows. Plain laws: what is taken one by one, the first of the greatest each time, is the rows by falling bytes. No condition. -/
import Derived.Test.YtphkmpnahnakaaaZ15
import Derived.Test.YtphkmpnahnakaaaZ28
import Derived.Sort.Walk0
namespace Go.Proofs.Ytphkmpnahnakaaa
variable {T : Type}
/-- Z is l, its blocks of n things sorted (the last may be shorter) -/
inductive BSc (R : T → T → Prop) (n : Nat) : List T → List T → Prop where
  | last (X Z : List T) : X.length ≤ n → Z.Perm X → Z.Pairwise R → BSc R n X Z
  | cons (X Z l t : List T) : X.length = n → Z.Perm X → Z.Pairwise R → BSc R n l t → BSc R n (X ++ l) (Z ++ t)
/-- likewise, k whole blocks -/
inductive FB (R : T → T → Prop) (n : Nat) : Nat → List T → List T → Prop where
  | zero : FB R n 0 [] []
  | snoc (k : Nat) (l t X Z : List T) : FB R n k l t → X.length = n → Z.Perm X → Z.Pairwise R → FB R n (k + 1) (l ++ X) (t ++ Z)
theorem FB.len {R : T → T → Prop} {n k : Nat} {l t : List T} (h : FB R n k l t) : l.length = n * k ∧ t.length = n * k := by
  induction h with
  | zero => simp
  | snoc k l t X Z _ h1 h2 _ ih => simp only [List.length_append, h2.length_eq, h1, ih.1, ih.2, Nat.mul_succ, and_self]
theorem FB.bsc {R : T → T → Prop} {n k : Nat} {l t : List T} (h : FB R n k l t) : ∀ {l2 t2 : List T}, BSc R n l2 t2 → BSc R n (l ++ l2) (t ++ t2) := by
  induction h with
  | zero => intro l2 t2 h2; simpa using h2
  | snoc k l t X Z _ h1 h2 h3 ih =>
    intro l2 t2 h4
    rw [List.append_assoc, List.append_assoc]
    exact ih (.cons X Z l2 t2 h1 h2 h3 h4)
theorem BSc.len {R : T → T → Prop} {n : Nat} {l t : List T} (h : BSc R n l t) : t.length = l.length := by
  induction h with
  | last X Z _ h _ => exact h.length_eq
  | cons X Z l t _ h _ _ ih => simp only [List.length_append, h.length_eq, ih]
theorem BSc.short {R : T → T → Prop} {n : Nat} {l t : List T} (h : BSc R n l t) (hl : l.length ≤ n) : t.Perm l ∧ t.Pairwise R := by
  cases h with
  | last _ _ _ h1 h2 => exact ⟨h1, h2⟩
  | cons X Z l t h1 h2 h3 h4 =>
    rw [List.length_append] at hl
    have e1 : l = [] := List.eq_nil_of_length_eq_zero (by omega)
    have e2 : t = [] := List.eq_nil_of_length_eq_zero (by rw [h4.len, e1]; rfl)
    subst e1
    subst e2
    rw [List.append_nil, List.append_nil]
    exact ⟨h2, h3⟩
/-- more than one block: the first two -/
theorem BSc.two {R : T → T → Prop} {n : Nat} (h0 : 0 < n) {l t : List T} (h : BSc R n l t) (hl : n < l.length) :
    ∃ X1 X2 l3 W1 W2 t3 : List T, l = X1 ++ (X2 ++ l3) ∧ t = W1 ++ (W2 ++ t3) ∧ X1.length = n ∧ 0 < X2.length ∧ X2.length ≤ n ∧ W1.Perm X1 ∧ W1.Pairwise R ∧ W2.Perm X2 ∧ W2.Pairwise R ∧ BSc R n l3 t3 ∧ (l3 = [] ∨ X2.length = n) := by
  cases h with
  | last _ _ h1 _ _ => omega
  | cons X Z l t h1 h2 h3 h4 =>
    rw [List.length_append] at hl
    cases h4 with
    | last _ _ k1 k2 k3 => exact ⟨X, l, [], Z, t, [], by simp, by simp, h1, by omega, k1, h2, h3, k2, k3, .last [] [] (by simp) (List.Perm.refl _) List.Pairwise.nil, .inl rfl⟩
    | cons X2 Z2 l3 t3 k1 k2 k3 k4 => exact ⟨X, X2, l3, Z, Z2, t3, rfl, rfl, h1, by omega, by omega, h2, h3, k2, k3, k4, .inr k1⟩
end Go.Proofs.Ytphkmpnahnakaaa
namespace Go.Proofs.Ytphkmpnahnakaaa
open Go.RowKit
theorem symMerge_allR {w0 : World} {g c N : Nat} (hN40 : N ≤ 1099511627776) (F : Nat) (cap : Array Value) (cf : TR → TR → Int) (hcf : ∀ (args : Array Value) (w : World), (callFunc F args).run Try.prog w = .ok (.enter F args) w)
    {R : TR → TR → Prop} (ht : ∀ x y z, R x y → R y z → R x z) : ∀ len, SymIHR F cap cf R w0 g c N len
  | 0 => fun P L Q S w a m b h => absurd h (by omega)
  | len + 1 => fun P L Q S w a m b h hN hcmp hL hQ hA hI hG ha hm hb h0 h1 => by
    by_cases hl1 : L.length = 1
    · obtain ⟨x, rfl⟩ := List.length_eq_one_iff.1 hl1
      exact symMerge_leftR hN hN40 F cap cf hcf (hcmp.sub (by simp)) ht hQ (fun y hy => hA x (by simp) y hy) hI hG a m b ha hm hb
    · by_cases hq1 : Q.length = 1
      · obtain ⟨y, rfl⟩ := List.length_eq_one_iff.1 hq1
        exact symMerge_rightR hN hN40 F cap cf hcf (hcmp.sub (by intro x hx; simp only [List.mem_cons] at hx; rcases hx with h | h <;> simp [h])) ht hL hl1 (fun x hx => hA x hx y (by simp)) hI hG a m b ha hm hb
      · refine symMerge_stepR hN hN40 F cap cf hcf hcmp ht hL hQ hA hI hG ?_ a m b ha hm hb (by omega) (by omega)
        intro P' L' Q' S' w' a' m' b' h'
        exact symMerge_allR hN40 F cap cf hcf ht len P' L' Q' S' w' a' m' b' (by omega)
theorem pairwise_midR {T : Type} {A : T → T → Prop} {l1 X l2 : List T} (h : (l1 ++ X ++ l2).Pairwise A) : X.Pairwise A :=
  (List.pairwise_append.1 (List.pairwise_append.1 h).1).2.1
set_option maxRecDepth 100000 in
set_option maxHeartbeats 16000000 in
theorem stable_row {w0 w : World} {g c N : Nat} {l : List TR} (hN : N = l.length) (hN39 : N ≤ 549755813888) (F : Nat) (cap : Array Value) (cf : TR → TR → Int) (hcf : ∀ (args : Array Value) (w : World), (callFunc F args).run Try.prog w = .ok (.enter F args) w)
    (hcmp : CmpIR F cap cf w0 g l) {R : TR → TR → Prop} (ht : ∀ x y z, R x y → R y z → R x z) (hA : l.Pairwise (AgreeR cf R)) (hI : RRow w g l) (hG : w0.grownBy w (some g)) :
    Calls Try.prog 27 #[.slice (some ⟨g, 0, none⟩) N c, .int .i64 (N : Int), .func (.func F) #[] cap] w (SortPostR w0 g R [] l []) := by
  have HCM := hid hcmp
  have HT := hid ht
  have HA := hid hA
  have HI := hid (And.intro hI hG)
  have HN := hid hN
  have HIN : Hid (∀ (P X S : List TR) (W : World) (a b : Nat), N = (P ++ X ++ S).length → (∀ x ∈ X, x ∈ l) → X.Pairwise (AgreeR cf R) → RRow W g (P ++ X ++ S) → w0.grownBy W (some g) → a = P.length → b = P.length + X.length →
      Calls Try.prog 37 #[.slice (some ⟨g, 0, none⟩) N c, .int .i64 (a : Int), .int .i64 (b : Int), .func (.func F) #[] cap] W (SortPostR w0 g R P X S)) :=
    fun P X S W a b h1 h2 h3 h4 h5 h6 h7 => insSort_row h1 (by omega) F cap cf hcf (hcmp.sub h2) ht h3 h4 h5 a b h6 h7
  have HSY := hid fun len => symMerge_allR (w0 := w0) (g := g) (c := c) (N := N) (by omega) F cap cf hcf ht len
  obtain ⟨QQ, HQ⟩ : ∃ QQ : Ending → World → Prop, Hid (QQ = SortPostR w0 g R [] l []) := ⟨_, rfl⟩
  rw [← HQ.out]
  clear hcmp ht hA hI hG hN
  go_enter Try.func27, Try.ntmps27
  go_wp2_with fail
  go_loopw [7, 8] (fun v7 v8 wr => ∃ a k : Nat, v7 = .int .i64 (a : Int) ∧ v8 = .int .i64 ((a : Int) + 20) ∧ a ≤ N ∧ Hid (a = 20 * k ∧ ∃ Z, FB R 20 k (l.take a) Z ∧ RRow wr g (Z ++ l.drop a) ∧ w0.grownBy wr (some g))) (fun v7 _ _ => N - (intOf v7).toNat)
  case atStart => exact ⟨0, 0, rfl, by simp, by omega, rfl, [], .zero, by simpa using HI.out.1, HI.out.2⟩
  case round =>
    obtain ⟨a, k, rfl, rfl, ha, HZ⟩ := hrel
    obtain ⟨Z, hF, hrow, hgr⟩ := HZ.out.2
    have HF := hid hF
    have HR := hid (And.intro hrow hgr)
    have HTL : Hid ((l.take a).length = a ∧ Z.length = a) := by
      have h1 := hF.len
      have h2 : (l.take a).length = a := by rw [List.length_take]; have := HN.out; omega
      exact ⟨h2, by omega⟩
    clear hF hrow hgr
    by_cases hlt : a + 20 ≤ N
    · obtain ⟨b, HB⟩ : ∃ b, Hid (b = a + 20) := ⟨_, rfl⟩
      have hb : (a : Int) + 20 = (b : Int) := by have := HB.out; omega
      have hbN : b ≤ N := by have := HB.out; omega
      obtain ⟨X, HX⟩ : ∃ X, Hid (X = (l.drop a).take 20) := ⟨_, rfl⟩
      have HXD : Hid (l.drop a = X ++ l.drop b ∧ X.length = 20 ∧ l.take b = l.take a ++ X) := by
        have h1 := HN.out
        have h2 := HB.out
        refine ⟨?_, by rw [HX.out, List.length_take, List.length_drop]; omega, ?_⟩
        · rw [HX.out, h2, ← List.drop_drop, List.take_append_drop]
        · rw [HX.out, h2, List.take_add]
      have hc := HIN.out Z X (l.drop b) wr a b (by have h := HXD.out; have h2 := HTL.out; have h3 := HB.out; have h4 := HN.out; simp only [List.length_append, List.length_drop]; omega)
        (by intro x hx; rw [HX.out] at hx; exact List.mem_of_mem_drop (List.mem_of_mem_take hx))
        (by have h := HA.out; rw [← List.take_append_drop a l, HXD.out.1, ← List.append_assoc] at h; exact pairwise_midR h)
        (by have h := HR.out.1; rw [HXD.out.1, ← List.append_assoc] at h; exact h) HR.out.2 HTL.out.2.symm (by have h := HXD.out; have h2 := HTL.out; have h3 := HB.out; omega)
      have HC := hid hc
      clear hc
      go_wp2_with fail
      refine HC.out.mono ?_
      rintro e w3 ⟨rfl, W, h1, h2, h3, h4⟩
      have HW := hid (And.intro h1 (And.intro h2 (And.intro h3 h4)))
      clear h1 h2 h3 h4
      go_wp2_with fail
      go_roundw
      case rel => exact ⟨b, k + 1, rfl, rfl, hbN, by have h3 := HB.out; have := HZ.out.1; omega, Z ++ W, by rw [HXD.out.2.2]; exact .snoc k _ _ X W HF.out HXD.out.2.1 HW.out.1 HW.out.2.1, HW.out.2.2⟩
      case measure => simp [intOf]; have h3 := HB.out; omega
    · have hc := HIN.out Z (l.drop a) [] wr a N (by have h2 := HTL.out; have h4 := HN.out; simp only [List.length_append, List.length_drop, List.length_nil]; omega)
        (by intro x hx; exact List.mem_of_mem_drop hx)
        (by have h := HA.out; rw [← List.take_append_drop a l] at h; exact (List.pairwise_append.1 h).2.1)
        (by simpa using HR.out.1) HR.out.2 HTL.out.2.symm (by have h2 := HTL.out; have h4 := HN.out; rw [List.length_drop]; omega)
      have HC := hid hc
      clear hc
      go_wp2_with fail
      refine HC.out.mono ?_
      rintro e w3 ⟨rfl, W, h1, h2, h3, h4⟩
      have HW : Hid (BSc R 20 l (Z ++ W) ∧ RRow w3 g (Z ++ W) ∧ w0.grownBy w3 (some g)) := by
        refine ⟨?_, by simpa using h3, h4⟩
        have := HF.out.bsc (.last (l.drop a) W (by rw [List.length_drop]; have := HN.out; omega) h1 h2)
        rwa [List.take_append_drop] at this
      obtain ⟨Z0, HZ0⟩ : ∃ Z0, Hid (BSc R 20 l Z0 ∧ RRow w3 g Z0 ∧ w0.grownBy w3 (some g)) := ⟨_, HW⟩
      clear h1 h2 h3 h4 HW HC HR HF
      go_wp2_with fail
      go_loopw [6, 7, 8, 9] (fun v6 v7 v8 v9 wr => ∃ n : Nat, v6 = .int .i64 (n : Int) ∧ 1 ≤ n ∧ n ≤ 1099511627776 ∧ Hid (∃ Z, BSc R n l Z ∧ RRow wr g Z ∧ w0.grownBy wr (some g))) (fun v6 _ _ _ _ => N - (intOf v6).toNat)
      case atStart => exact ⟨20, rfl, by omega, by omega, Z0, HZ0.out⟩
      case round =>
        obtain ⟨n, rfl, hn1, hn2, HZ1⟩ := hrel
        by_cases hlt2 : n < N
        · obtain ⟨n2, HN2⟩ : ∃ n2, Hid (n2 = 2 * n) := ⟨_, rfl⟩
          have hn22 : 2 * (n : Int) = (n2 : Int) := by have := HN2.out; omega
          have hn23 : (n : Int) * 2 = (n2 : Int) := by have := HN2.out; omega
          have hn2b : n2 ≤ 1099511627776 := by have := HN2.out; omega
          have hn2p : n < n2 := by have := HN2.out; omega
          obtain ⟨wo, rfl⟩ : ∃ wo : World, wo = wr := ⟨_, rfl⟩
          go_wp2_with fail
          go_loopw [7, 8] (fun v7 v8 wr => ∃ a b : Nat, v7 = .int .i64 (a : Int) ∧ v8 = .int .i64 (b : Int) ∧ a ≤ N ∧ b ≤ 1649267441664 ∧ a < b ∧ Hid (b = a + n2 ∧ ∃ (k : Nat) (Z T : List TR), FB R n2 k (l.take a) Z ∧ BSc R n (l.drop a) T ∧ RRow wr g (Z ++ T) ∧ w0.grownBy wr (some g))) (fun v7 _ _ => N - (intOf v7).toNat)
          case atStart =>
            obtain ⟨Z1, h1, h2, h3⟩ := HZ1.out
            exact ⟨0, n2, rfl, rfl, by omega, by omega, by omega, by omega, 0, [], Z1, .zero, by simpa using h1, by simpa using h2, h3⟩
          case round =>
            obtain ⟨a, b, rfl, rfl, ha, hb, hab, HAB⟩ := hrel
            obtain ⟨hbb, k, Z, T, hF, hBS, hrow, hgr⟩ := HAB.out
            have HF := hid hF
            have HBS := hid hBS
            have HR := hid (And.intro hrow hgr)
            have HBB := hid hbb
            have HTL : Hid ((l.take a).length = a ∧ Z.length = a ∧ (l.drop a).length = N - a) := by
              have h1 := hF.len
              have h2 : (l.take a).length = a := by rw [List.length_take]; have := HN.out; omega
              exact ⟨h2, by omega, by rw [List.length_drop, HN.out]⟩
            obtain ⟨m, HM⟩ : ∃ m, Hid (m = a + n) := ⟨_, rfl⟩
            have hm : (a : Int) + (n : Int) = (m : Int) := by have := HM.out; omega
            have HLA : Hid (l = l.take a ++ l.drop a) := (List.take_append_drop a l).symm
            clear hF hBS hrow hgr hbb HAB
            by_cases hlt : b ≤ N
            · obtain ⟨X1, X2, l3, W1, W2, t3, e1, e2, k1, k2, k3, k4, k5, k6, k7, k8, k9⟩ := HBS.out.two (by omega) (by rw [HTL.out.2.2]; have := HBB.out; have := HN2.out; omega)
              have hX2 : X2.length = n := by
                have h1 := HTL.out.2.2
                rw [e1] at h1
                simp only [List.length_append] at h1
                rcases k9 with rfl | h
                · simp at h1; have := HBB.out; have := HN2.out; omega
                · exact h
              have HE := hid (And.intro e1 (And.intro e2 (And.intro k1 hX2)))
              have HK := hid (And.intro k4 (And.intro k5 (And.intro k6 (And.intro k7 k8))))
              have HB3 : Hid (l.take b = l.take a ++ (X1 ++ X2) ∧ l.drop b = l3) := by
                have h1 : l = (l.take a ++ (X1 ++ X2)) ++ l3 := by rw [List.append_assoc, List.append_assoc, ← e1]; exact HLA.out
                have h2 : (l.take a ++ (X1 ++ X2)).length = b := by simp only [List.length_append]; have := HTL.out.1; have := HBB.out; have := HN2.out; omega
                constructor
                · conv => lhs; rw [h1, ← h2]
                  exact List.take_left
                · conv => lhs; rw [h1, ← h2]
                  exact List.drop_left
              have hAX : (X1 ++ X2).Pairwise (AgreeR cf R) := by
                have h := HA.out
                rw [HLA.out, e1, ← List.append_assoc X1, ← List.append_assoc] at h
                exact pairwise_midR h
              have hmem : ∀ x ∈ W1 ++ W2, x ∈ l := by
                intro x hx
                rw [HLA.out, e1]
                simp only [List.mem_append] at hx ⊢
                rcases hx with h | h
                · simp [k4.mem_iff.1 h]
                · simp [k6.mem_iff.1 h]
              have hc := HSY.out (W1.length + W2.length + 1) Z W1 W2 t3 wr a m b (by omega) (by have h1 := HTL.out; have h2 := k4.length_eq; have h3 := k6.length_eq; have h4 := k8.len; have h5 : (l.drop a).length = _ := congrArg List.length e1; simp only [List.length_append] at h5 ⊢; omega)
                (HCM.out.sub hmem) k5 k7 (fun x hx y hy => (List.pairwise_append.1 hAX).2.2 x (k4.mem_iff.1 hx) y (k6.mem_iff.1 hy)) (by have h := HR.out.1; rw [e2] at h; simpa only [List.append_assoc] using h) HR.out.2
                HTL.out.2.1.symm (by have := HM.out; have := k4.length_eq; omega) (by have := HM.out; have := k6.length_eq; have := HBB.out; have := HN2.out; omega) (by have := k4.length_eq; omega) (by have := k6.length_eq; omega)
              have HC := hid hc
              obtain ⟨b2, HB2⟩ : ∃ b2, Hid (b2 = b + n2) := ⟨_, rfl⟩
              have hb2 : (b : Int) + (n2 : Int) = (b2 : Int) := by have := HB2.out; omega
              clear hc e1 e2 k1 k2 k3 k4 k5 k6 k7 k8 k9 hX2 hAX hmem
              go_wp2_with fail
              refine HC.out.mono ?_
              rintro e w3 ⟨rfl, W, h1, h2, h3, h4⟩
              have HW := hid (And.intro h1 (And.intro h2 (And.intro h3 h4)))
              clear h1 h2 h3 h4
              go_wp2_with fail
              go_roundw
              case rel =>
                refine ⟨b, b2, rfl, rfl, hlt, by have := HB2.out; omega, by have := HB2.out; omega, HB2.out, k + 1, Z ++ W, t3, ?_, by rw [HB3.out.2]; exact HK.out.2.2.2.2, by simpa only [List.append_assoc] using HW.out.2.2.1, HW.out.2.2.2⟩
                rw [HB3.out.1]
                refine .snoc k _ _ _ W HF.out (by rw [List.length_append, HE.out.2.2.1, HE.out.2.2.2, HN2.out]; omega) (HW.out.1.trans (HK.out.1.append HK.out.2.2.1)) HW.out.2.1
              case measure => simp [intOf]; omega
            · by_cases hmN : m < N
              · obtain ⟨X1, X2, l3, W1, W2, t3, e1, e2, k1, k2, k3, k4, k5, k6, k7, k8, k9⟩ := HBS.out.two (by omega) (by rw [HTL.out.2.2]; have := HM.out; omega)
                have hl3 : l3 = [] := by
                  have h1 := HTL.out.2.2
                  rw [e1] at h1
                  simp only [List.length_append] at h1
                  rcases k9 with h | h
                  · exact h
                  · exact List.eq_nil_of_length_eq_zero (by have := HBB.out; have := HN2.out; omega)
                subst hl3
                have ht3 : t3 = [] := List.eq_nil_of_length_eq_zero (by rw [k8.len]; rfl)
                subst ht3
                rw [List.append_nil] at e1 e2
                have HE := hid (And.intro e1 e2)
                have HK := hid (And.intro k4 k6)
                have hlen : N = a + X1.length + X2.length := by have h1 := HTL.out.2.2; rw [e1, List.length_append] at h1; omega
                have hAX : (X1 ++ X2).Pairwise (AgreeR cf R) := by
                  have h := HA.out
                  rw [HLA.out, e1] at h
                  exact (List.pairwise_append.1 h).2.1
                have hmem : ∀ x ∈ W1 ++ W2, x ∈ l := by
                  intro x hx
                  rw [HLA.out, e1]
                  simp only [List.mem_append] at hx ⊢
                  rcases hx with h | h
                  · simp [k4.mem_iff.1 h]
                  · simp [k6.mem_iff.1 h]
                have hc := HSY.out (W1.length + W2.length + 1) Z W1 W2 [] wr a m N (by omega) (by have h1 := HTL.out; have h2 := k4.length_eq; have h3 := k6.length_eq; simp only [List.length_append, List.length_nil]; omega)
                  (HCM.out.sub hmem) k5 k7 (fun x hx y hy => (List.pairwise_append.1 hAX).2.2 x (k4.mem_iff.1 hx) y (k6.mem_iff.1 hy)) (by have h := HR.out.1; rw [e2] at h; simpa only [List.append_assoc, List.append_nil] using h) HR.out.2
                  HTL.out.2.1.symm (by have := HM.out; have := k4.length_eq; omega) (by have := HM.out; have := k6.length_eq; have := k4.length_eq; omega) (by have := k4.length_eq; omega) (by have := k6.length_eq; omega)
                have HC := hid hc
                have HLN : Hid (X1.length + X2.length ≤ n2) := by show _ ≤ _; have := HBB.out; omega
                clear hc e1 e2 k1 k2 k3 k4 k5 k6 k7 k8 k9 hAX hmem hlen
                go_wp2_with fail
                refine HC.out.mono ?_
                rintro e w3 ⟨rfl, W, h1, h2, h3, h4⟩
                have HW := hid (And.intro h1 (And.intro h2 (And.intro h3 h4)))
                clear h1 h2 h3 h4
                go_wp2_with fail
                go_roundw
                case rel =>
                  refine ⟨n2, rfl, by omega, by omega, Z ++ W, ?_, by simpa only [List.append_nil] using HW.out.2.2.1, HW.out.2.2.2⟩
                  have h := HF.out.bsc (.last (l.drop a) W (by rw [HE.out.1, List.length_append]; exact HLN.out) (by rw [HE.out.1]; exact HW.out.1.trans (HK.out.1.append HK.out.2)) HW.out.2.1)
                  rwa [← HLA.out] at h
                case measure => simp [intOf]; omega
              · have hsh := HBS.out.short (by rw [HTL.out.2.2]; have := HM.out; omega)
                have HSH := hid hsh
                clear hsh
                go_wp2_with fail
                go_roundw
                case rel =>
                  refine ⟨n2, rfl, by omega, by omega, Z ++ T, ?_, HR.out⟩
                  have h := HF.out.bsc (.last (l.drop a) T (by rw [HTL.out.2.2]; have := HM.out; omega) HSH.out.1 HSH.out.2)
                  rwa [← HLA.out] at h
                case measure => simp [intOf]; omega
        · obtain ⟨Z1, h1, h2, h3⟩ := HZ1.out
          have HE := hid (h1.short (by have := HN.out; omega))
          have HE2 := hid (And.intro h2 h3)
          clear h1 h2 h3
          go_wp2_with fail
          go_end0
          rw [HQ.out]
          exact ⟨rfl, Z1, HE.out.1, HE.out.2, by simpa using HE2.out.1, HE2.out.2⟩
set_option maxRecDepth 100000 in
set_option maxHeartbeats 4000000 in
theorem sortStable_row {w0 w : World} {g c N : Nat} {l : List TR} (hN : N = l.length) (hN39 : N ≤ 549755813888) (F : Nat) (cap : Array Value) (cf : TR → TR → Int) (hcf : ∀ (args : Array Value) (w : World), (callFunc F args).run Try.prog w = .ok (.enter F args) w)
    (hcmp : CmpIR F cap cf w0 g l) {R : TR → TR → Prop} (ht : ∀ x y z, R x y → R y z → R x z) (hA : l.Pairwise (AgreeR cf R)) (hI : RRow w g l) (hG : w0.grownBy w (some g)) :
    Calls Try.prog 18 #[.slice (some ⟨g, 0, none⟩) N c, .func (.func F) #[] cap] w (SortPostR w0 g R [] l []) := by
  have HS := hid (stable_row (c := c) hN hN39 F cap cf hcf hcmp ht hA hI hG)
  obtain ⟨QQ, HQ⟩ : ∃ QQ : Ending → World → Prop, Hid (QQ = SortPostR w0 g R [] l []) := ⟨_, rfl⟩
  rw [← HQ.out] at HS ⊢
  have HE : Hid (∀ e w', QQ e w' → e = .returned (.tuple #[])) := by intro e w' h; rw [HQ.out] at h; exact h.1
  clear hcmp ht hA hI hG hN
  go_enter Try.func18, Try.ntmps18
  go_wp2_with fail
  refine HS.out.mono ?_
  intro e w3 h
  obtain rfl := HE.out _ _ h
  have H := hid h
  clear h
  go_wp2_with fail
  go_end0
  exact H.out
/-! Of a row of nothing -/
set_option maxRecDepth 100000 in
set_option maxHeartbeats 4000000 in
theorem insSort_nilR (w : World) (a : Option Addr) (c : Nat) (fv : Value) :
    Calls Try.prog 37 #[.slice a 0 c, .int .i64 0, .int .i64 0, fv] w fun e w' => e = .returned (.tuple #[]) ∧ w = w' := by
  go_enter Try.func37, Try.ntmps37
  go_wp2_with fail
  refine wp_loop_rounds 1 ?_
  rw [rounds_succ]
  go_wp2_with fail
  go_end0
  exact ⟨rfl, rfl⟩
set_option maxRecDepth 100000 in
set_option maxHeartbeats 4000000 in
theorem stable_nilR (w : World) (a : Option Addr) (c : Nat) (fv : Value) :
    Calls Try.prog 27 #[.slice a 0 c, .int .i64 0, fv] w fun e w' => e = .returned (.tuple #[]) ∧ w = w' := by
  go_enter Try.func27, Try.ntmps27
  go_wp2_with fail
  refine wp_loop_rounds 1 ?_
  rw [rounds_succ]
  go_wp2_with fail
  refine (insSort_nilR _ _ _ _).mono ?_
  rintro e w1 ⟨rfl, rfl⟩
  go_wp2_with fail
  refine wp_loop_rounds 1 ?_
  rw [rounds_succ]
  go_wp2_with fail
  go_end0
  exact ⟨rfl, rfl⟩
set_option maxRecDepth 100000 in
set_option maxHeartbeats 4000000 in
theorem sortStable_nilR (w : World) (a : Option Addr) (c : Nat) (fv : Value) :
    Calls Try.prog 18 #[.slice a 0 c, fv] w fun e w' => e = .returned (.tuple #[]) ∧ w = w' := by
  go_enter Try.func18, Try.ntmps18
  go_wp2_with fail
  refine (stable_nilR _ _ _ _).mono ?_
  rintro e w1 ⟨rfl, rfl⟩
  go_wp2_with fail
  go_end0
  exact ⟨rfl, rfl⟩
end Go.Proofs.Ytphkmpnahnakaaa
namespace Go.Proofs.Ytphkmpnahnakaaa
open Go.RowKit
def ClonePost (w : World) (n : Nat) (L : List SR) (e : Ending) (w' : World) : Prop :=
  Below w.heap.size w w' ∧ ((n = 0 ∧ e = .returned (.slice none 0 0)) ∨ ∃ g c, e = .returned (.slice (some ⟨g, 0, none⟩) n c) ∧ (n ≤ c ∧ c ≤ 9223372036854775807) ∧ w.heap.size ≤ g ∧ BRow w' g (L.flatMap srC))
set_option maxRecDepth 100000 in
set_option maxHeartbeats 4000000 in
theorem clone_rows {w : World} {a : Option Addr} {n c : Nat} {L : List SR} (hL : SegR w (.slice a n c) L) (hn : n = L.length) (hl : n ≤ 549755813888) :
    Calls Try.prog 17 #[.slice a n c] w (ClonePost w n L) := by
  cases a with
  | none =>
    have h0 : n = 0 := by
      rcases Nat.eq_zero_or_pos n with h | h
      · exact h
      · obtain ⟨a', cap', he, hat⟩ := hL.open
        obtain ⟨x, hx⟩ : ∃ x, L[0]? = some x := ⟨_, List.getElem?_eq_getElem (by omega)⟩
        obtain ⟨b, o, ha, -⟩ := hat 0 x hx
        cases he
        cases ha
    obtain ⟨Q, HQ⟩ : ∃ Q, Hid (Q = ClonePost w n L) := ⟨_, rfl⟩
    rw [← HQ.out]
    have HE : Hid (Q (.returned (.slice none 0 0)) w) := by rw [HQ.out]; exact ⟨Below.refl _ _, .inl ⟨h0, rfl⟩⟩
    have heq : ∀ w, (binOp .eql 27 (.slice none n c) (.slice none 0 0)).run Try.prog w = .ok (.bool true) w := fun w => rfl
    clear hL hn hl h0
    go_enter Try.func17, Try.ntmps17
    go_wp2_with fail
    exact HE.out
  | some p =>
    have hb0 : Below w.heap.size w (w.alloc (.cells #[] 32)) := (Below.refl _ _).alloc (Nat.le_refl _) _
    have h0 : (w.alloc (.cells #[] 32)).ownsRow w.heap.size 32 4 (.slice (some ⟨w.heap.size, 0, none⟩) 0 0) 0 [] := World.ownsRow_made (base := w.heap.size) (e := 32) (size := 4) w #[] 0 (Nat.le_refl _) (by unfold maxLen; omega) rfl
    have hL1 := hL.below hb0
    unfold SegR at hL1
    rw [← hn] at hL1
    obtain ⟨v1, w1, e1, o1, g1, -⟩ := seg_append (P := Try.prog) _ w.heap.size 27 27 32 (.agg #[.string ⟨#[]⟩, .int .i64 0, .int .i64 0, .int .i64 0]) 4 40 Try.underlying27 info_srow rfl (by decide) _ _ 0 n [] _ h0 hL1 (srC_one L) (by omega) (by omega) hb0.size
    have hb1 : Below w.heap.size w w1 := hb0.grown g1 hb0.size (by intro q e; simp [Value.ownBlock] at e; omega)
    rw [List.nil_append, Nat.zero_add] at o1
    obtain ⟨Q, HQ⟩ : ∃ Q, Hid (Q = ClonePost w n L) := ⟨_, rfl⟩
    rw [← HQ.out]
    have HE : Hid ((∃ a n c, v1 = .slice a n c) ∧ Q (.returned v1) w1) := by
      rw [HQ.out]
      rcases o1.2 with ⟨h1, h2⟩ | ⟨g', cap, cur, hv, hb, hg, hnc, hcm, hcs, ht⟩
      · exact ⟨⟨_, _, _, h1⟩, hb1, .inl ⟨h2, by rw [h1]⟩⟩
      · refine ⟨⟨_, _, _, hv⟩, hb1, .inr ⟨g', cap, by rw [hv], ⟨hnc, hcm⟩, hb, cur, hg, ?_, ?_⟩⟩
        · rw [srC_len, ← hn]; omega
        · rw [srC_len, ← hn]; simpa using ht
    have HR := hid e1
    obtain ⟨⟨a1, n1, c1, rfl⟩, hE⟩ := HE.out
    have HEE := hid hE
    have heq : ∀ w, (binOp .eql 27 (.slice (some p) n c) (.slice none 0 0)).run Try.prog w = .ok (.bool false) w := fun w => rfl
    clear hL hn hl hb0 h0 hL1 e1 o1 g1 hb1 HE hE
    go_enter Try.func17, Try.ntmps17
    go_wp2_with (at_builtin; refine wpList_append_eq rfl _ _ _ rfl _ _ rfl rfl HR.out ?_)
    exact HEE.out
/-- rows, and where they stand -/
def tagL (L : List SR) : List TR := L.zipIdx.map fun p => ⟨p.1.path, p.1.recs, p.1.bytes, p.1.vals, p.2⟩
theorem tagL_row (L : List SR) : (tagL L).map TR.row = L := by
  unfold tagL
  rw [List.map_map]
  have : (TR.row ∘ fun p : SR × Nat => (⟨p.1.path, p.1.recs, p.1.bytes, p.1.vals, p.2⟩ : TR)) = Prod.fst := by funext p; rfl
  rw [this, List.zipIdx_map_fst]
theorem tagL_len (L : List SR) : (tagL L).length = L.length := by unfold tagL; simp
theorem tagL_get (L : List SR) (i : Nat) (x : TR) : (tagL L)[i]? = some x ↔ x.tag = i ∧ L[i]? = some x.row := by
  unfold tagL
  rw [List.getElem?_map, List.getElem?_zipIdx]
  cases h : L[i]? with
  | none => simp
  | some r =>
    simp
    constructor
    · rintro rfl; exact ⟨rfl, rfl⟩
    · rintro ⟨h1, h2⟩
      cases x
      simp only [TR.row] at h2
      simp only at h1
      subst h1
      subst h2
      rfl
/-- which comes first -/
def RT (x y : TR) : Prop := y.bytes < x.bytes ∨ (y.bytes = x.bytes ∧ x.tag < y.tag)
theorem RT.trans : ∀ x y z : TR, RT x y → RT y z → RT x z := by
  unfold RT
  intro x y z h1 h2
  omega
def cmpT (x y : TR) : Int := if (y.bytes : Int) < x.bytes then -1 else if (x.bytes : Int) < y.bytes then 1 else 0
theorem agree_tag (L : List SR) : (tagL L).Pairwise (AgreeR cmpT RT) := by
  rw [List.pairwise_iff_getElem]
  intro i j hi hj hij
  have h1 := ((tagL_get L i (tagL L)[i]).1 (List.getElem?_eq_getElem hi)).1
  have h2 := ((tagL_get L j (tagL L)[j]).1 (List.getElem?_eq_getElem hj)).1
  unfold AgreeR cmpT RT
  refine ⟨⟨fun h => ?_, fun h => ?_⟩, by omega⟩
  · split at h
    · omega
    · split at h <;> omega
  · rw [if_pos (by omega)]; decide
set_option maxRecDepth 100000 in
set_option maxHeartbeats 4000000 in
theorem top_1 (w : World) (x y : TR) : Calls Try.prog 19 #[.agg #[.string x.path, .int .i64 (x.recs : Int), .int .i64 (x.bytes : Int), .int .i64 (x.vals : Int)], .agg #[.string y.path, .int .i64 (y.recs : Int), .int .i64 (y.bytes : Int), .int .i64 (y.vals : Int)]] w fun e w' => e = .returned (.int .i64 (cmpT x y)) ∧ Below w.heap.size w w' := by
  obtain ⟨p, x1, x2, x3, x4⟩ := x
  obtain ⟨q, y1, y2, y3, y4⟩ := y
  obtain ⟨z, HZ⟩ : ∃ z, Hid (z = cmpT ⟨p, x1, x2, x3, x4⟩ ⟨q, y1, y2, y3, y4⟩) := ⟨_, rfl⟩
  have HC : Hid (∀ W, Calls Try.prog 20 #[.int .i64 (y2 : Int), .int .i64 (x2 : Int)] W fun e w' => e = .returned (.int .i64 z) ∧ W = w') := fun W => by
    have h := cmp_Compare_int (y2 : Int) (x2 : Int) W
    rw [HZ.out]
    exact h
  rw [← HZ.out]
  show Calls _ _ #[.agg #[.string p, .int .i64 (x1 : Int), .int .i64 (x2 : Int), .int .i64 (x3 : Int)], .agg #[.string q, .int .i64 (y1 : Int), .int .i64 (y2 : Int), .int .i64 (y3 : Int)]] w _
  go_enter Try.func19, Try.ntmps19
  go_wp2_with fail
  refine (HC.out _).mono ?_
  rintro e w1 ⟨rfl, rfl⟩
  go_wp2_with fail
  go_ret
  refine ⟨rfl, ?_⟩
  (repeat (first | with_reducible exact Below.refl _ _ | with_reducible refine Below.setCell ?_ (by first | omega | (simp; omega) | (simp; done)) _ | with_reducible refine Below.alloc ?_ (by first | omega | (simp; omega) | (simp; done)) _ | with_reducible refine below_drewN ?_ _ | with_reducible refine Below.drew ?_))
def TopPost (w : World) (ln : Nat) (L : List SR) (n : Int) (e : Ending) (w' : World) : Prop :=
  ∃ (a : Option Addr) (k c : Nat) (Z : List TR), e = .returned (.slice a k c) ∧ (k : Int) = max 0 (min n ln) ∧ Z.Perm (tagL L) ∧ Z.Pairwise RT ∧ SegR w' (.slice a k c) ((Z.map TR.row).take k) ∧ Below w.heap.size w w'
theorem seg_of_brow {w : World} {g n c k : Nat} {Z : List TR} (h : RRow w g Z) (hn : n = Z.length) (hk : k ≤ n) (hc : n ≤ c) (hc2 : c ≤ 9223372036854775807) (hb : n ≤ 140737488355328) : SegR w (.slice (some ⟨g, 0, none⟩) k c) ((Z.map TR.row).take k) := by
  unfold SegR Seg
  have hl : ((Z.map TR.row).take k).length = k := by rw [List.length_take, List.length_map]; omega
  rw [hl]
  refine ⟨by rw [srC_len, hl], by omega, _, _, rfl, by omega, hc2, (fun h => by cases h), fun j u hu => ⟨g, 0, rfl, ?_⟩⟩
  rw [Nat.zero_add]
  have hj : j < k * 4 := by have := (List.getElem?_eq_some_iff.1 hu).1; rw [srC_len, hl] at this; exact this
  refine BRow.cell h j ?_
  rw [flat_tr]
  have hsplit : (Z.map TR.row).flatMap srC = ((Z.map TR.row).take k).flatMap srC ++ ((Z.map TR.row).drop k).flatMap srC := by rw [← List.flatMap_append, List.take_append_drop]
  rw [hsplit, List.getElem?_append_left (by rw [srC_len, hl]; exact hj)]
  exact hu
set_option maxRecDepth 100000 in
set_option maxHeartbeats 4000000 in
theorem stats_Top {w : World} {la : Option Addr} {ln lc : Nat} {L : List SR} (hL : SegR w (.slice la ln lc) L) (hln : ln = L.length) (hl : ln ≤ 549755813888) (n : Int) :
    Calls Try.prog 12 #[.slice la ln lc, .int .i64 n] w (TopPost w ln L n) := by
  have HC := hid (clone_rows hL hln hl)
  have HLN := hid hln
  obtain ⟨Q, HQ⟩ : ∃ Q, Hid (Q = TopPost w ln L n) := ⟨_, rfl⟩
  rw [← HQ.out]
  clear hL hln
  go_enter Try.func12, Try.ntmps12
  go_wp2_with fail
  refine HC.out.mono ?_
  rintro e w1 ⟨hb1, ⟨h0, rfl⟩ | ⟨g, c, rfl, ⟨hnc, hc2⟩, hg, hrow⟩⟩
  · subst h0
    have HE : Hid (Q (.returned (.slice none (max 0 (min n 0)).toNat 0)) w1) := by
      have hk : (max 0 (min n 0)).toNat = 0 := by omega
      rw [HQ.out, hk]
      refine ⟨none, 0, 0, [], rfl, by omega, ?_, List.Pairwise.nil, ?_, hb1⟩
      · have := tagL_len L
        rw [← HLN.out] at this
        rw [List.length_eq_zero_iff.1 this]
      · exact ⟨rfl, by decide, none, 0, rfl, Nat.le_refl _, by decide, fun _ => rfl, fun j u hu => by simp at hu⟩
    clear hb1
    go_wp2_with fail
    refine (sortStable_nilR _ _ _ _).mono ?_
    rintro e w2 ⟨rfl, rfl⟩
    go_wp2_with fail
    exact HE.out
  · have HST := hid (sortStable_row (w0 := w1) (w := w1) (g := g) (c := c) (N := ln) (l := tagL L) (by rw [tagL_len]; exact HLN.out) hl 19 #[] cmpT (fun args w => by simp [go_sem]) (fun x y wr _ _ _ => top_1 wr x y) RT.trans (agree_tag L) (by unfold RRow; rw [flat_tr, tagL_row]; exact hrow) (World.grownBy.refl w1 _))
    have HB1 := hid (And.intro hb1 (And.intro hg (And.intro hnc hc2)))
    have hkc : (max 0 (min n (ln : Int))).toNat ≤ c := by omega
    have hsl := slice_h_run Try.underlying27 size_rowS (some ⟨g, 0, none⟩) ln c (max 0 (min n (ln : Int))).toNat hkc
    have hk0 : ((max 0 (min n (ln : Int))).toNat : Int) = max 0 (min n (ln : Int)) := by omega
    rw [hk0] at hsl
    have HKC := hid hkc
    clear hb1 hg hnc hrow hc2
    go_wp2_with fail
    refine HST.out.mono ?_
    rintro e w2 ⟨rfl, Z, hp, hpw, hr2, hgr⟩
    rw [List.nil_append, List.append_nil] at hr2
    have HE : Hid (Q (.returned (.slice (some ⟨g, 0, none⟩) (max 0 (min n (ln : Int))).toNat c)) w2) := by
      rw [HQ.out]
      have hZl : Z.length = ln := by rw [hp.length_eq, tagL_len, ← HLN.out]
      refine ⟨_, _, _, Z, rfl, by omega, hp, hpw, seg_of_brow hr2 hZl.symm (by omega) HB1.out.2.2.1 HB1.out.2.2.2 (by omega), ?_⟩
      exact HB1.out.1.grown hgr HB1.out.1.size (by intro q e; cases e; exact HB1.out.2.1)
    clear hp hpw hr2 hgr
    go_wp2_with fail
    exact HE.out
end Go.Proofs.Ytphkmpnahnakaaa
namespace Go.Proofs.Ytphkmpnahnakaaa
open Go.RowKit
/-- the best of the first k that are not taken -/
def bst (L : List SR) (tk : Nat → Bool) : Nat → Int
  | 0 => -1
  | k + 1 => if tk k = false ∧ (bst L tk k < 0 ∨ (L.getD (bst L tk k).toNat zTR.row).bytes < (L.getD k zTR.row).bytes) then (k : Int) else bst L tk k
theorem bst_inv (L : List SR) (tk : Nat → Bool) : ∀ k, (bst L tk k = -1 ∧ ∀ j, j < k → tk j = true) ∨ ∃ b : Nat, bst L tk k = b ∧ b < k ∧ tk b = false ∧
    ∀ j, j < k → tk j = false → (L.getD j zTR.row).bytes < (L.getD b zTR.row).bytes ∨ ((L.getD j zTR.row).bytes = (L.getD b zTR.row).bytes ∧ b ≤ j)
  | 0 => .inl ⟨rfl, fun j h => by omega⟩
  | k + 1 => by
    rw [bst]
    rcases bst_inv L tk k with ⟨h1, h2⟩ | ⟨b, h1, h2, h3, h4⟩
    · by_cases hk : tk k = false
      · rw [if_pos ⟨hk, .inl (by omega)⟩]
        refine .inr ⟨k, rfl, by omega, hk, fun j hj hjt => ?_⟩
        by_cases hjk : j = k
        · subst hjk; exact .inr ⟨rfl, Nat.le_refl _⟩
        · rw [h2 j (by omega)] at hjt; cases hjt
      · rw [if_neg (fun h => hk h.1)]
        refine .inl ⟨h1, fun j hj => ?_⟩
        by_cases hjk : j = k
        · subst hjk; simpa using hk
        · exact h2 j (by omega)
    · have hb : (bst L tk k).toNat = b := by omega
      rw [hb]
      by_cases hc : tk k = false ∧ (bst L tk k < 0 ∨ (L.getD b zTR.row).bytes < (L.getD k zTR.row).bytes)
      · rw [if_pos hc]
        have hlt : (L.getD b zTR.row).bytes < (L.getD k zTR.row).bytes := hc.2.resolve_left (by omega)
        refine .inr ⟨k, rfl, by omega, hc.1, fun j hj hjt => ?_⟩
        by_cases hjk : j = k
        · subst hjk; exact .inr ⟨rfl, Nat.le_refl _⟩
        · rcases h4 j (by omega) hjt with h | ⟨h, -⟩
          · exact .inl (by omega)
          · exact .inl (by omega)
      · rw [if_neg hc]
        refine .inr ⟨b, h1, by omega, h3, fun j hj hjt => ?_⟩
        by_cases hjk : j = k
        · subst hjk
          have : ¬ (L.getD b zTR.row).bytes < (L.getD j zTR.row).bytes := fun h => hc ⟨hjt, .inr h⟩
          rcases Nat.lt_or_ge (L.getD j zTR.row).bytes (L.getD b zTR.row).bytes with h | h
          · exact .inl h
          · exact .inr ⟨by omega, by omega⟩
        · exact h4 j (by omega) hjt
theorem bst_lt (L : List SR) (tk : Nat → Bool) (k : Nat) : -1 ≤ bst L tk k ∧ bst L tk k < k := by
  rcases bst_inv L tk k with ⟨h1, -⟩ | ⟨b, h1, h2, -⟩ <;> omega
/-- which are taken, when i are -/
def tkOf (Z : List TR) (i t : Nat) : Bool := (Z.take i).any fun x => decide (x.tag = t)
theorem tkOf_succ {Z : List TR} {i : Nat} {x : TR} (h : Z[i]? = some x) (t : Nat) : tkOf Z (i + 1) t = (tkOf Z i t || decide (x.tag = t)) := by
  unfold tkOf
  rw [List.take_add_one, h, List.any_append]
  simp
theorem sel_best {L : List SR} {Z : List TR} (hp : Z.Perm (tagL L)) (hs : Z.Pairwise RT) {i : Nat} {x : TR} (hx : Z[i]? = some x) : bst L (tkOf Z i) L.length = (x.tag : Int) ∧ x.tag < L.length ∧ L[x.tag]? = some x.row := by
  have hel : ∀ y ∈ Z, y.tag < L.length ∧ L[y.tag]? = some y.row ∧ (tagL L)[y.tag]? = some y := fun y hy => by
    obtain ⟨j, hj⟩ := List.mem_iff_getElem?.1 (hp.mem_iff.1 hy)
    obtain ⟨h1, h2⟩ := (tagL_get L j y).1 hj
    subst h1
    exact ⟨(List.getElem?_eq_some_iff.1 h2).1, h2, hj⟩
  have hsame : ∀ y z, y ∈ Z → z ∈ Z → y.tag = z.tag → y = z := fun y z hy hz h => by
    have h1 := (hel y hy).2.2
    have h2 := (hel z hz).2.2
    rw [h, h2] at h1
    exact (Option.some.inj h1).symm
  have hirr : ∀ y : TR, ¬ RT y y := fun y h => by unfold RT at h; omega
  have hord : ∀ a b y z, Z[a]? = some y → Z[b]? = some z → a < b → RT y z := fun a b y z ha hb hab => by
    obtain ⟨ha1, ha2⟩ := List.getElem?_eq_some_iff.1 ha
    obtain ⟨hb1, hb2⟩ := List.getElem?_eq_some_iff.1 hb
    subst ha2
    subst hb2
    exact List.pairwise_iff_getElem.1 hs a b ha1 hb1 hab
  have hxm : x ∈ Z := List.mem_of_getElem? hx
  have hxe := hel x hxm
  refine ⟨?_, hxe.1, hxe.2.1⟩
  have hun : ∀ (m : Nat) y, Z[m]? = some y → i ≤ m → tkOf Z i y.tag = false := fun m y hy hm => by
    cases h : tkOf Z i y.tag with
    | false => rfl
    | true =>
      obtain ⟨z, hz, hzt⟩ := List.any_eq_true.1 h
      have hzt := of_decide_eq_true hzt
      obtain ⟨a, ha⟩ := List.mem_iff_getElem?.1 hz
      have hai : a < i := by have := (List.getElem?_eq_some_iff.1 ha).1; rw [List.length_take] at this; omega
      rw [List.getElem?_take_of_lt hai] at ha
      have hzy := hsame z y (List.mem_of_getElem? ha) (List.mem_of_getElem? hy) hzt
      subst hzy
      exact absurd (hord a m z z ha hy (by omega)) (hirr z)
  have hg : ∀ y ∈ Z, (L.getD y.tag zTR.row).bytes = y.bytes := fun y hy => by
    rw [List.getD_eq_getElem?_getD, (hel y hy).2.1]; rfl
  rcases bst_inv L (tkOf Z i) L.length with ⟨h1, h2⟩ | ⟨b, h1, h2, h3, h4⟩
  · have := h2 x.tag hxe.1
    rw [hun i x hx (Nat.le_refl _)] at this
    cases this
  · rw [h1]
    obtain ⟨y, hy⟩ : ∃ y, (tagL L)[b]? = some y := ⟨_, List.getElem?_eq_getElem (by rw [tagL_len]; exact h2)⟩
    have hyt := ((tagL_get L b y).1 hy).1
    have hym : y ∈ Z := hp.mem_iff.2 (List.mem_of_getElem? hy)
    obtain ⟨m, hm⟩ := List.mem_iff_getElem?.1 hym
    have hmi : i ≤ m := by
      rcases Nat.lt_or_ge m i with h | h
      · exfalso
        have : tkOf Z i b = true := by
          unfold tkOf
          exact List.any_eq_true.2 ⟨y, List.mem_of_getElem? (by rw [List.getElem?_take_of_lt h]; exact hm), decide_eq_true hyt⟩
        rw [h3] at this
        cases this
      · exact h
    have h5 := h4 x.tag hxe.1 (hun i x hx (Nat.le_refl _))
    rw [hg x hxm, ← hyt, hg y hym] at h5
    by_cases hme : m = i
    · subst hme
      rw [hx] at hm
      have := Option.some.inj hm
      subst this
      rw [hyt]
    · have h6 := hord i m x y hx hm (by omega)
      unfold RT at h6
      omega
end Go.Proofs.Ytphkmpnahnakaaa
