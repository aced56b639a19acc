/- What the document's Read of a varint at a place returns: vread of the bytes from that place on. The place is no more than the bytes' number. -/
import Derived.Test.YtgephhmkaonahaaVarint
namespace Go.Proofs.Ytgephhmkaonahaa
open Go.RowKit

theorem index_at {P : Program} {t e : TypeId} (ht : P.underlying t = some (.slice e)) (hs : ∀ w : World, (sizeOf e).run P w = .ok 1 w) {a : Option Addr} {b o len cap : Nat} (ha : a = some ⟨b, o, none⟩) (i k : Nat) (hk : i + k < len) (w : World) :
    (Instr.indexAt t (.slice a len cap) (.int .i64 ((i : Int) + (k : Int)))).run P w = .ok (.pointer (some ⟨b, o + (i + k), none⟩)) w := by
  have := index_run1 ht hs ha (i + k) hk w (cap := cap)
  rwa [Int.natCast_add] at this

theorem getD_drop (l : List UInt8) (i k : Nat) : (l.drop i).getD k 0 = l.getD (i + k) 0 := by
  simp [List.getD, List.getElem?_drop]

theorem wrap_lt (x : Int) (h0 : 0 ≤ x) (h : x < 2 ^ 64) : IntKind.u64.wrap x = x := by rw [IntKind.wrap_u64]; omega

set_option maxRecDepth 100000 in
theorem ref02_Read {w : World} {v : Value} {l : List UInt8} (h : Bytes w v l) (i : Nat) (hi : i ≤ l.length) :
    Calls Try.prog 38 #[v, .int .i64 i] w fun e w' => e = .returned (.tuple #[.int .u64 (vread (l.drop i)).1, .int .i64 (vread (l.drop i)).2.1, .int .i64 (vread (l.drop i)).2.2]) ∧ w = w' := by
  obtain ⟨hlen, a, cap, rfl, -, -, -, hcell⟩ := h.open
  obtain ⟨n, HN⟩ : ∃ n, Hid (n = l.length) := ⟨_, rfl⟩
  rw [← HN.out] at hcell hlen hi ⊢
  go_enter Try.func38, Try.ntmps38
  go_wp2
  go_loop [7] (fun v7 => ∃ k : Nat, i + k ≤ n ∧ k ≤ 10 ∧ v7 = .int .i64 k ∧ Hid (∀ j, j < k → 128 ≤ ((l.drop i).getD j 0).toNat)) (fun v7 => n - (intOf v7).toNat)
  case atStart => exact ⟨0, by omega, by omega, rfl, fun j hj => absurd hj (by omega)⟩
  case round =>
    obtain ⟨k, hk, hk2, rfl, HA⟩ := hrel
    by_cases hlt : i + k < n
    · obtain ⟨b, o, ha, hc0⟩ := hcell (i + k) hlt
      have hix := index_at under_bytes size_u8 ha i k hlt (cap := cap)
      obtain ⟨c, HC⟩ : ∃ c, Hid (c = (l.getD (i + k) 0).toNat) := ⟨_, rfl⟩
      have hcb : c < 256 := by rw [HC.out]; exact (l.getD (i + k) 0).toNat_lt
      rw [← HC.out] at hc0
      have HC' : Hid (((l.drop i).getD k 0).toNat = c) := hid (by rw [getD_drop, HC.out])
      have HAA := hid ha
      have HL : Hid (k < (l.drop i).length) := hid (by rw [List.length_drop, ← HN.out]; omega)
      have HCL := hid hcell
      clear ha HC hcell
      have hne : ((i : Int) + (k : Int) == (n : Int)) = false := by simp; omega
      by_cases h10 : k = 10
      · subst h10
        go_wp2
        go_ret3
        have hv : vread (l.drop i) = (0, 0, 4) := vgo_over 9 (l.drop i) 0 0 (fun j hj => HA.out j (by omega)) (by omega) (by have := HL.out; omega) (by have := HA.out 9 (by omega); omega)
        rw [hv]
        exact ⟨rfl, rfl⟩
      · have hk10 : k < 10 := by omega
        have h10' : ((k : Int) == 10) = false := by simp; omega
        have H10 := hid h10
        clear h10
        by_cases hc128 : 128 ≤ c
        · go_wp2
          go_round
          case rel =>
            refine ⟨k + 1, by omega, by omega, by go_num, fun j hj => ?_⟩
            by_cases e : j = k
            · subst e; rw [HC'.out]; exact hc128
            · exact HA.out j (by omega)
          case measure => simp [intOf]; omega
        · by_cases h9 : k = 9 ∧ 1 < c
          · obtain ⟨h9, h9c⟩ := h9
            have h9' : ((k : Int) == 9) = true := by simp; omega
            have H9 := hid h9
            clear h9
            go_wp2
            go_ret3
            have hv : vread (l.drop i) = (0, 0, 4) := vgo_over k (l.drop i) 0 0 HA.out (by have := H9.out; omega) HL.out (by rw [HC'.out]; omega)
            rw [hv]
            exact ⟨rfl, rfl⟩
          · have hv : vread (l.drop i) = (0 + 128 ^ 0 * pieces (k + 1) (l.drop i), 0 + k + 1, 0) := vgo_run k 0 0 (l.drop i) HA.out (by omega) HL.out (by rw [HC'.out]; omega) (by rw [HC'.out]; omega)
            have hP : pieces (k + 1) (l.drop i) < 2 ^ 64 := by
              rcases vread_cases (l.drop i) with ⟨x, m, e, _, _, _, h5⟩ | ⟨x, e, h5⟩
              · rw [hv] at e; simp at e; omega
              · rw [hv] at e; simp at e
            obtain ⟨p, HPP⟩ : ∃ p, Hid (p = pieces (k + 1) (l.drop i)) := ⟨_, rfl⟩
            have HV : Hid (vread (l.drop i) = (p, k + 1, 0)) := by rw [hv, HPP.out]; simp [Hid]
            have HP := hid hP
            clear hP hv
            have hk9 : k ≤ 9 := by omega
            have hor : k < 9 ∨ k = 9 ∧ c ≤ 1 := by omega
            have HK9 := hid h9
            clear h9
            rcases hor with h9 | ⟨h9, hc1⟩
            · have h9' : ((k : Int) == 9) = false := by simp; omega
              go_wp2
              go_loop [8, 9] (fun v8 v9 => ∃ (m : Nat) (z : Int) (q : Nat), m ≤ k + 1 ∧ v9 = .int .i64 z ∧ v8 = .int .u64 q ∧ Hid (z = (m : Int) - 1 ∧ q = pieces (k + 1 - m) ((l.drop i).drop m))) (fun _ v9 => (intOf v9 + 1).toNat)
              case atStart => exact ⟨k + 1, k, 0, by omega, rfl, rfl, by omega, by simp [pieces]⟩
              case round =>
                obtain ⟨m, z, q, hm, rfl, rfl, HM⟩ := hrel
                cases m with
                | zero =>
                  obtain rfl : z = -1 := by have := HM.out.1; omega
                  go_wp2
                  go_ret3
                  rw [HV.out]
                  refine ⟨ret3 (int_eq ?_) (by go_num) rfl, rfl⟩
                  rw [HM.out.2, HPP.out]
                  simp
                | succ m =>
                  obtain rfl : z = (m : Int) := by have := HM.out.1; omega
                  have hcl := HCL.out
                  obtain ⟨b', o', ha', hc'⟩ := hcl (i + m) (by omega)
                  clear hcl
                  have hix' := index_at under_bytes size_u8 ha' i m (len := n) (by omega) (cap := cap)
                  obtain ⟨d, HD⟩ : ∃ d, Hid (d = (l.getD (i + m) 0).toNat) := ⟨_, rfl⟩
                  have hdb : d < 256 := by rw [HD.out]; exact (l.getD (i + m) 0).toNat_lt
                  rw [← HD.out] at hc'
                  have HAA' := hid ha'
                  clear ha'
                  have hstep : pieces (k + 1 - m) ((l.drop i).drop m) = 128 * q + d % 128 := by
                    have e : k + 1 - m = (k - m) + 1 := by omega
                    rw [e, pieces_step _ _ (by rw [List.length_drop]; have := HL.out; omega), HM.out.2, List.drop_drop, HD.out]
                    congr 2
                    · congr 1; omega
                    · rw [getD_drop, getD_drop]; simp
                  have hle : 128 * q + d % 128 < 2 ^ 64 := by
                    have := pieces_suffix m (k + 1) (l.drop i) (by omega)
                    rw [hstep] at this
                    have := HP.out
                    omega
                  have hw1 : IntKind.u64.wrap (128 * (q : Int)) = 128 * (q : Int) := wrap_lt _ (by omega) (by omega)
                  have hw2 : IntKind.u64.wrap (128 * (q : Int) + (d : Int) % 128) = ((128 * q + d % 128 : Nat) : Int) := by rw [wrap_lt _ (by omega) (by omega)]; omega
                  have HS := hid hstep
                  clear hstep hle
                  go_wp2
                  go_round
                  case rel => exact ⟨m, (m : Int) - 1, 128 * q + d % 128, by omega, rfl, by first | rfl | go_num, rfl, HS.out.symm⟩
                  case measure => simp [intOf]
            · have h9' : ((k : Int) == 9) = true := by simp; omega
              have H9 := hid h9
              clear h9
              go_wp2
              go_loop [8, 9] (fun v8 v9 => ∃ (m : Nat) (z : Int) (q : Nat), m ≤ k + 1 ∧ v9 = .int .i64 z ∧ v8 = .int .u64 q ∧ Hid (z = (m : Int) - 1 ∧ q = pieces (k + 1 - m) ((l.drop i).drop m))) (fun _ v9 => (intOf v9 + 1).toNat)
              case atStart => exact ⟨k + 1, k, 0, by omega, rfl, rfl, by omega, by simp [pieces]⟩
              case round =>
                obtain ⟨m, z, q, hm, rfl, rfl, HM⟩ := hrel
                cases m with
                | zero =>
                  obtain rfl : z = -1 := by have := HM.out.1; omega
                  go_wp2
                  go_ret3
                  rw [HV.out]
                  refine ⟨ret3 (int_eq ?_) (by go_num) rfl, rfl⟩
                  rw [HM.out.2, HPP.out]
                  simp
                | succ m =>
                  obtain rfl : z = (m : Int) := by have := HM.out.1; omega
                  have hcl := HCL.out
                  obtain ⟨b', o', ha', hc'⟩ := hcl (i + m) (by omega)
                  clear hcl
                  have hix' := index_at under_bytes size_u8 ha' i m (len := n) (by omega) (cap := cap)
                  obtain ⟨d, HD⟩ : ∃ d, Hid (d = (l.getD (i + m) 0).toNat) := ⟨_, rfl⟩
                  have hdb : d < 256 := by rw [HD.out]; exact (l.getD (i + m) 0).toNat_lt
                  rw [← HD.out] at hc'
                  have HAA' := hid ha'
                  clear ha'
                  have hstep : pieces (k + 1 - m) ((l.drop i).drop m) = 128 * q + d % 128 := by
                    have e : k + 1 - m = (k - m) + 1 := by omega
                    rw [e, pieces_step _ _ (by rw [List.length_drop]; have := HL.out; omega), HM.out.2, List.drop_drop, HD.out]
                    congr 2
                    · congr 1; omega
                    · rw [getD_drop, getD_drop]; simp
                  have hle : 128 * q + d % 128 < 2 ^ 64 := by
                    have := pieces_suffix m (k + 1) (l.drop i) (by omega)
                    rw [hstep] at this
                    have := HP.out
                    omega
                  have hw1 : IntKind.u64.wrap (128 * (q : Int)) = 128 * (q : Int) := wrap_lt _ (by omega) (by omega)
                  have hw2 : IntKind.u64.wrap (128 * (q : Int) + (d : Int) % 128) = ((128 * q + d % 128 : Nat) : Int) := by rw [wrap_lt _ (by omega) (by omega)]; omega
                  have HS := hid hstep
                  clear hstep hle
                  go_wp2
                  go_round
                  case rel => exact ⟨m, (m : Int) - 1, 128 * q + d % 128, by omega, rfl, by first | rfl | go_num, rfl, HS.out.symm⟩
                  case measure => simp [intOf]
    · have HL : Hid ((l.drop i).length = k) := hid (by rw [List.length_drop, ← HN.out]; omega)
      have hki : Hid (i + k = n) := hid (by omega)
      by_cases h10 : k = 10
      · subst h10
        go_wp2
        go_ret3
        have hv : vread (l.drop i) = (0, 0, 4) := vgo_over 9 (l.drop i) 0 0 (fun j hj => HA.out j (by omega)) (by omega) (by rw [HL.out]; omega) (by have := HA.out 9 (by omega); omega)
        rw [hv]
        exact ⟨rfl, rfl⟩
      · have h10' : ((k : Int) == 10) = false := by simp; omega
        have hne : ((i : Int) + (k : Int) == (n : Int)) = true := by have := hki.out; simp; omega
        have H10 := hid h10
        clear h10
        go_wp2
        go_ret3
        have hv : vread (l.drop i) = (0, 0, 3) := vgo_short (l.drop i) 0 0 (by rw [HL.out]; exact HA.out) (by rw [HL.out]; have := H10.out; omega)
        rw [hv]
        exact ⟨rfl, rfl⟩

end Go.Proofs.Ytgephhmkaonahaa
