/- What varint.Read, varint.Skip and the document's Read of a varint return on any bytes: vread. No condition beyond that the argument reads as bytes. -/
import Derived.Test.YtgephhmkaonahaaBase
import Derived.Test.YtgephhmkaonahaaSpecVarint
namespace Go.Proofs.Ytgephhmkaonahaa
open Go.RowKit

theorem or_step (acc k c : Nat) (ha : acc < 128 ^ k) (hk : k ≤ 9) (hc : c < 256) (h9 : k = 9 → c ≤ 1) :
    bits .or .u64 (acc : Int) (IntKind.u64.wrap (IntKind.u64.wrap (bits .and .u8 (c : Int) 127) * 2 ^ (7 * k))) = ((acc + c % 128 * 128 ^ k : Nat) : Int) := by
  have e1 : bits .and .u8 (c : Int) 127 = ((c % 128 : Nat) : Int) := by
    have := bits_mask .u8 8 (by decide) wraps_u8 7 (by decide) (c : Int) (by omega) (by omega)
    simpa using this
  have e2 : (2 : Int) ^ (7 * k) = ((128 ^ k : Nat) : Int) := by
    rw [Int.pow_mul]; simp
  have p9 : (128 : Nat) ^ k ≤ 128 ^ 9 := Nat.pow_le_pow_right (by omega) hk
  have e9 : (128 : Nat) ^ 9 = 2 ^ 63 := by decide
  have hlt : acc + c % 128 * 128 ^ k < 2 ^ 64 := by
    by_cases e : k = 9
    · subst e
      have := h9 rfl
      have : c % 128 * 128 ^ 9 ≤ 1 * 128 ^ 9 := Nat.mul_le_mul_right _ (by omega)
      omega
    · have h1 : c % 128 * 128 ^ k ≤ 127 * 128 ^ k := Nat.mul_le_mul_right _ (by omega)
      have h2 : (128 : Nat) ^ (k + 1) ≤ 128 ^ 9 := Nat.pow_le_pow_right (by omega) (by omega)
      rw [Nat.pow_succ] at h2
      omega
  have e3 : IntKind.u64.wrap ((c % 128 : Nat) : Int) = ((c % 128 : Nat) : Int) := by
    rw [IntKind.wrap_u64]; omega
  have e4 : IntKind.u64.wrap (((c % 128 : Nat) : Int) * ((128 ^ k : Nat) : Int)) = ((c % 128 * 128 ^ k : Nat) : Int) := by
    rw [IntKind.wrap_u64, ← Int.natCast_mul]; omega
  rw [e1, e3, e2, e4, bits_or_u64_nat _ _ (by omega) (by omega)]
  congr 1
  have := Nat.two_pow_add_eq_or_of_lt (i := 7 * k) (b := acc) (by rw [Nat.pow_mul]; exact ha) (c % 128)
  rw [Nat.or_comm, Nat.add_comm, Nat.mul_comm (c % 128)]
  rw [Nat.pow_mul] at this
  exact this.symm

theorem vgo_at (l : List UInt8) (k acc : Nat) (hk : k < l.length) : vgo k acc (l.drop k) =
    (if k = 9 ∧ 1 < (l.getD k 0).toNat then (0, 0, 4) else if (l.getD k 0).toNat < 128 then (acc + (l.getD k 0).toNat * 128 ^ k, k + 1, 0) else vgo (k + 1) (acc + ((l.getD k 0).toNat - 128) * 128 ^ k) (l.drop (k + 1))) := by
  rw [List.drop_eq_getElem_cons hk, vgo]
  simp [List.getD, hk]

theorem acc_step (acc k c : Nat) (ha : acc < 128 ^ k) : acc + c % 128 * 128 ^ k < 128 ^ (k + 1) := by
  have h1 : c % 128 * 128 ^ k ≤ 127 * 128 ^ k := Nat.mul_le_mul_right _ (by omega)
  rw [Nat.pow_succ]
  omega

set_option maxRecDepth 100000 in
theorem varint_Read {w : World} {v : Value} {l : List UInt8} (h : Bytes w v l) :
    Calls Try.prog 74 #[v] w fun e w' => e = .returned (.tuple #[.int .u64 (vread l).1, .int .i64 (vread l).2.1, .int .u8 (vread l).2.2]) ∧ w = w' := by
  obtain ⟨hlen, a, cap, rfl, -, -, -, hcell⟩ := h.open
  obtain ⟨n, HN⟩ : ∃ n, Hid (n = l.length) := ⟨_, rfl⟩
  rw [← HN.out] at hcell hlen ⊢
  go_enter Try.func74, Try.ntmps74
  go_wp2
  go_loop [5, 10] (fun v5 v10 => ∃ k acc : Nat, k ≤ n ∧ k ≤ 9 ∧ v5 = .int .u64 acc ∧ v10 = .int .i64 k ∧ Hid (acc < 128 ^ k ∧ vgo k acc (l.drop k) = vread l)) (fun _ i => n - (intOf i).toNat)
  case atStart => exact ⟨0, 0, by omega, by omega, rfl, rfl, by simp, rfl⟩
  case round =>
    obtain ⟨k, acc, hk, hk2, rfl, rfl, HA⟩ := hrel
    by_cases hlt : k < n
    · obtain ⟨b, o, ha, hc0⟩ := hcell k hlt
      have hi := index_run1 under_bytes size_u8 ha k hlt (cap := cap)
      have hvg := hid (vgo_at l k acc (by rw [← HN.out]; exact hlt))
      obtain ⟨c, HC⟩ : ∃ c, Hid (c = (l.getD k 0).toNat) := ⟨_, rfl⟩
      have hcb : c < 256 := by rw [HC.out]; exact (l.getD k 0).toNat_lt
      rw [← HC.out] at hc0 hvg
      have HAA := hid ha
      have HS := hid (or_step acc k c HA.out.1 hk2 hcb)
      clear ha hcell HC
      by_cases h9 : k = 9
      · have h9' : ((k : Int) == 9) = true := by simp; omega
        have H9 := hid h9
        clear h9
        go_wp2
        · have h1 : 1 < (c : Int) := by assumption
          go_ret3
          have hv : vread l = (0, 0, 4) := by rw [← HA.out.2, hvg.out, if_pos ⟨H9.out, by omega⟩]
          rw [hv]
          exact ⟨rfl, rfl⟩
        · have h1 : (c : Int) ≤ 1 := by assumption
          go_ret3
          have hv : vread l = (acc + c * 128 ^ k, k + 1, 0) := by rw [← HA.out.2, hvg.out, if_neg (by omega), if_pos (by omega)]
          rw [hv]
          have hs := HS.out (fun _ => by omega)
          rw [Nat.mod_eq_of_lt (by omega)] at hs
          exact ⟨ret3 (int_eq hs) (by go_num) rfl, rfl⟩
      · have h9' : ((k : Int) == 9) = false := by simp; omega
        have hk3 : k < 9 := by omega
        have H9 := hid h9
        clear h9
        go_wp2
        · have h1 : (c : Int) < 128 := by assumption
          go_ret3
          have hv : vread l = (acc + c * 128 ^ k, k + 1, 0) := by rw [← HA.out.2, hvg.out, if_neg (by have := H9.out; omega), if_pos (by omega)]
          rw [hv]
          have hs := HS.out (fun e => absurd e H9.out)
          rw [Nat.mod_eq_of_lt (by omega)] at hs
          exact ⟨ret3 (int_eq hs) (by go_num) rfl, rfl⟩
        · have h1 : 128 ≤ (c : Int) := by assumption
          have hs := HS.out (fun e => absurd e H9.out)
          go_round
          case rel =>
            refine ⟨k + 1, acc + c % 128 * 128 ^ k, by omega, by omega, int_eq hs, by go_num, acc_step acc k c HA.out.1, ?_⟩
            have : c % 128 = c - 128 := by omega
            rw [← HA.out.2, hvg.out, if_neg (by have := H9.out; omega), if_neg (by omega), this]
          case measure => simp [intOf]; omega
    · go_wp2
      go_ret3
      have hv : vread l = (0, 0, 3) := by
        rw [← HA.out.2, List.drop_of_length_le (by rw [← HN.out]; omega)]; rfl
      rw [hv]
      exact ⟨rfl, rfl⟩

theorem varint_Skip {w : World} {v : Value} {l : List UInt8} (h : Bytes w v l) :
    Calls Try.prog 178 #[v] w fun e w' => e = .returned (.tuple #[.int .i64 (vread l).2.1, .int .u8 (vread l).2.2]) ∧ w = w' := by
  go_enter Try.func178, Try.ntmps178
  go_wp2_with (go_at_call 74; refine (varint_Read h).mono ?_; rintro e w' ⟨rfl, rfl⟩)
  go_ret2
  exact ⟨rfl, rfl⟩

end Go.Proofs.Ytgephhmkaonahaa
