/- bits.Word, darningref01.Word: the word of at most eight bytes (wordOf). No condition. scalar.Read, darningref08.Read, darningref05.Fits: a number's bytes (kread). The kind is a number's. append onto a row of the call's own, whatever is appended (a string's bytes too), as an equation of the run. No condition. -/
import Derived.Test.YtbhiddafbpingaaGreatZ01
import Derived.Test.YtbhiddafbpingaaGreatZ03
import Derived.Test.YtbhiddafbpingaaGreatZ14
import Derived.Test.YtbhiddafbpingaaGreatZ21
import Derived.Deep.AppendSrc
import Derived.Maps.AppendAt
import Derived.OwnWalk
import Derived.OwnWalkIn
namespace Go.Proofs.YtbhiddafbpingaaGreat
open Go.RowKit
def wordL : List UInt8 → Nat
  | [] => 0
  | c :: r => c.toNat + 256 * wordL r
def wordOf (l : List UInt8) : Nat := wordL (l.take 8)
theorem wordL_snoc (l : List UInt8) (c : UInt8) : wordL (l ++ [c]) = wordL l + c.toNat * 256 ^ l.length := by
  induction l with
  | nil => simp [wordL]
  | cons x r ih =>
    rw [List.cons_append, wordL, ih, wordL, List.length_cons, Nat.pow_succ, Nat.mul_add]
    have : c.toNat * (256 ^ r.length * 256) = 256 * (c.toNat * 256 ^ r.length) := by
      rw [← Nat.mul_assoc, Nat.mul_comm]
    omega
theorem wordL_lt (l : List UInt8) : wordL l < 256 ^ l.length := by
  induction l with
  | nil => simp [wordL]
  | cons x r ih =>
    have := UInt8.toNat_lt x
    rw [wordL, List.length_cons, Nat.pow_succ]
    omega
theorem wordOf_lt (l : List UInt8) : wordOf l < 18446744073709551616 := by
  have h1 := wordL_lt (l.take 8)
  have h2 : (256 : Nat) ^ (l.take 8).length ≤ 256 ^ 8 := Nat.pow_le_pow_right (by decide) (List.length_take_le _ _)
  have h3 : (256 : Nat) ^ 8 = 18446744073709551616 := by decide
  unfold wordOf
  omega
theorem or_byte (acc k c : Nat) (ha : acc < 256 ^ k) (hk : k ≤ 7) (hc : c < 256) :
    bits .or .u64 (acc : Int) (IntKind.u64.wrap (IntKind.u64.wrap (c : Int) * 2 ^ (8 * k))) = ((acc + c * 256 ^ k : Nat) : Int) := by
  have e2 : (2 : Int) ^ (8 * k) = ((256 ^ k : Nat) : Int) := by
    rw [Int.pow_mul]; simp
  have h2 : (256 : Nat) ^ (k + 1) ≤ 256 ^ 8 := Nat.pow_le_pow_right (by omega) (by omega)
  have e8 : (256 : Nat) ^ 8 = 2 ^ 64 := by decide
  have h1 : c * 256 ^ k ≤ 255 * 256 ^ k := Nat.mul_le_mul_right _ (by omega)
  rw [Nat.pow_succ] at h2
  have e3 : IntKind.u64.wrap (c : Int) = (c : Int) := by
    rw [IntKind.wrap_u64]; omega
  have e4 : IntKind.u64.wrap ((c : Int) * ((256 ^ k : Nat) : Int)) = ((c * 256 ^ k : Nat) : Int) := by
    rw [IntKind.wrap_u64, ← Int.natCast_mul]; omega
  rw [e3, e2, e4, bits_or_u64_nat _ _ (by omega) (by omega)]
  congr 1
  have := Nat.two_pow_add_eq_or_of_lt (i := 8 * k) (b := acc) (by rw [Nat.pow_mul]; exact ha) c
  rw [Nat.or_comm, Nat.add_comm, Nat.mul_comm c]
  rw [Nat.pow_mul] at this
  exact this.symm
theorem wordL_take (l : List UInt8) (i : Nat) (h : i < l.length) : wordL (l.take (i + 1)) = wordL (l.take i) + (l.getD i 0).toNat * 256 ^ i := by
  rw [List.take_succ_eq_append_getElem h, wordL_snoc, List.length_take, Nat.min_eq_left (by omega), List.getD_eq_getElem?_getD, List.getElem?_eq_getElem h]
  rfl
set_option maxRecDepth 100000 in
set_option maxHeartbeats 4000000 in
theorem bits_Word {w : World} {v : Value} {l : List UInt8} (h : Bytes w v l) :
    Calls Tryz.prog 146 #[v] w fun e w' => e = .returned (.int .u64 (wordOf l : Nat)) ∧ w = w' := by
  obtain ⟨hlen, a, cap, rfl, -, -, hnil, -⟩ := h.open
  obtain ⟨n, HN⟩ : ∃ n, Hid (n = l.length) := ⟨_, rfl⟩
  rw [← HN.out] at hlen h ⊢
  obtain ⟨k, HK⟩ : ∃ k, Hid (k = min n 8) := ⟨_, rfl⟩
  have hk8 : k ≤ 8 := by rw [HK.out]; omega
  have hkn : k ≤ n := by rw [HK.out]; omega
  obtain ⟨v2, hr, hb⟩ := h.h HN.out k hkn
  have HB := hid hb
  obtain ⟨-, a2, cap2, rfl, -, -, -, hat⟩ := hb.open
  have hl2 : (l.take k).length = k := by rw [List.length_take]; have := HN.out; omega
  rw [hl2] at hr hat
  have HAT := hid hat
  have HW : Hid (wordOf l = wordL (l.take k)) := by
    show wordL (l.take 8) = _
    rw [HK.out]
    by_cases h8 : n ≤ 8
    · rw [Nat.min_eq_left h8, List.take_of_length_le (by rw [← HN.out]; exact h8), List.take_of_length_le (by rw [← HN.out]; omega)]
    · rw [Nat.min_eq_right (by omega)]
  clear h hb hat hnil
  by_cases h8 : n ≤ 8
  · obtain rfl : k = n := by rw [HK.out]; omega
    go_enter Tryz.func146, Tryz.ntmps146
    go_wp2_with fail
    go_loopw [3, 12] (fun v3 v12 wr => ∃ i x : Nat, v12 = .int .i64 (i : Int) ∧ v3 = .int .u64 (x : Int) ∧ i ≤ k ∧ w = wr ∧ Hid (x = wordL ((l.take k).take i))) (fun _ v12 _ => k - (intOf v12).toNat)
    case atStart => exact ⟨0, 0, rfl, rfl, by omega, rfl, rfl⟩
    case round =>
      obtain ⟨i, x, rfl, rfl, hi, rfl, HV⟩ := hrel
      by_cases hlt : i < k
      · obtain ⟨b, o, ha, g0⟩ := HAT.out i hlt
        have hix := index_run1 under_bytes size_u8 ha i hlt (cap := cap2)
        obtain ⟨c, HC⟩ : ∃ c, Hid (c = (l.take k).getD i 0) := ⟨_, rfl⟩
        rw [← HC.out] at g0
        have HE : Hid (bits .or .u64 (x : Int) (IntKind.u64.wrap (IntKind.u64.wrap (c.toNat : Int) * 2 ^ (8 * i))) = ((wordL ((l.take k).take (i + 1)) : Nat) : Int)) := by
          have h1 := wordL_lt ((l.take k).take i)
          rw [List.length_take, hl2, Nat.min_eq_left (by omega)] at h1
          rw [Hid, or_byte x i c.toNat (by rw [HV.out]; exact h1) (by omega) (UInt8.toNat_lt c), wordL_take _ _ (by rw [hl2]; exact hlt), ← HV.out, ← HC.out]
        clear ha
        go_wp2_with fail
        go_roundw
        case rel => exact ⟨i + 1, wordL ((l.take k).take (i + 1)), by go_num, by rw [HE.out], hlt, by first | rfl | trivial, rfl⟩
        case measure => simp [intOf]; omega
      · obtain rfl : i = k := by omega
        have HE : Hid (x = wordOf l) := by rw [Hid, HV.out, HW.out, List.take_of_length_le (by rw [hl2]; omega)]
        go_wp2_with fail
        go_ret
        exact ⟨by rw [HE.out]; first | done | rfl, rfl⟩
  · obtain rfl : k = 8 := by rw [HK.out]; omega
    have hr8 : ∀ W, (Instr.slice 24 (.slice a n cap) none (some (.int .i64 8)) none).run Tryz.prog W = .ok (.slice a2 8 cap2) W := hr
    clear hr
    go_enter Tryz.func146, Tryz.ntmps146
    go_wp2_with fail
    go_loopw [3, 12] (fun v3 v12 wr => ∃ i x : Nat, v12 = .int .i64 (i : Int) ∧ v3 = .int .u64 (x : Int) ∧ i ≤ 8 ∧ w = wr ∧ Hid (x = wordL ((l.take 8).take i))) (fun _ v12 _ => 8 - (intOf v12).toNat)
    case atStart => exact ⟨0, 0, rfl, rfl, by omega, rfl, rfl⟩
    case round =>
      obtain ⟨i, x, rfl, rfl, hi, rfl, HV⟩ := hrel
      by_cases hlt : i < 8
      · obtain ⟨b, o, ha, g0⟩ := HAT.out i hlt
        have hix := index_run1 under_bytes size_u8 ha i hlt (cap := cap2)
        obtain ⟨c, HC⟩ : ∃ c, Hid (c = (l.take 8).getD i 0) := ⟨_, rfl⟩
        rw [← HC.out] at g0
        have HE : Hid (bits .or .u64 (x : Int) (IntKind.u64.wrap (IntKind.u64.wrap (c.toNat : Int) * 2 ^ (8 * i))) = ((wordL ((l.take 8).take (i + 1)) : Nat) : Int)) := by
          have h1 := wordL_lt ((l.take 8).take i)
          rw [List.length_take, hl2, Nat.min_eq_left (by omega)] at h1
          rw [Hid, or_byte x i c.toNat (by rw [HV.out]; exact h1) (by omega) (UInt8.toNat_lt c), wordL_take _ _ (by rw [hl2]; exact hlt), ← HV.out, ← HC.out]
        clear ha
        go_wp2_with fail
        go_roundw
        case rel => exact ⟨i + 1, wordL ((l.take 8).take (i + 1)), by go_num, by rw [HE.out], hlt, by first | rfl | trivial, rfl⟩
        case measure => simp [intOf]; omega
      · obtain rfl : i = 8 := by omega
        have HE : Hid (x = wordOf l) := by rw [Hid, HV.out, HW.out, List.take_of_length_le (by rw [hl2]; omega)]
        go_wp2_with fail
        go_ret
        exact ⟨by rw [HE.out]; first | done | rfl, rfl⟩
end Go.Proofs.YtbhiddafbpingaaGreat
namespace Go.Proofs.YtbhiddafbpingaaGreat
open Go.RowKit
/-- a value's word, the code -/
def kread (k : Int) (l : List UInt8) : Nat × Nat := if rfits (kwire k) l = true then (kcanon k (if kwire k = 0 then (vread l).1 else wordOf l), 0) else (0, 12)
theorem kwire_015 {k : Int} (h : knumber k = true) : kwire k = 0 ∨ kwire k = 1 ∨ kwire k = 5 := by
  have h' : 1 ≤ k ∧ k ≤ 14 := of_decide_eq_true h
  unfold kwire
  rw [if_neg (by omega), if_neg (by omega)]
  by_cases h1 : 12 ≤ k
  · rw [if_pos h1]; omega
  · rw [if_neg h1]
    by_cases h2 : 9 ≤ k
    · rw [if_pos h2]; omega
    · rw [if_neg h2]; omega
theorem kright_num {k : Int} (h : knumber k = true) : kright k = true := by unfold knumber at h; unfold kright; simp at h ⊢; omega
set_option maxRecDepth 100000 in
set_option maxHeartbeats 4000000 in
theorem scalar_Read {k : Int} (hk : knumber k = true) {w : World} {v : Value} {l : List UInt8} (h : Bytes w v l) :
    Calls Tryz.prog 115 #[.int .i64 k, v] w fun e w' => e = .returned (.tuple #[.int .u64 ((kread k l).1 : Nat), .int .u8 ((kread k l).2 : Nat)]) ∧ Below w.heap.size w w' := by
  have HK := hid hk
  have HV := hid h
  have HKW := hid (kwire_015 hk)
  obtain ⟨hlen, a, cap, rfl, -, -, -, -⟩ := h.open
  obtain ⟨n, HN⟩ : ∃ n, Hid (n = l.length) := ⟨_, rfl⟩
  rw [← HN.out] at hlen HV ⊢
  obtain ⟨x, c, HX⟩ : ∃ x c, Hid (kread k l = (x, c)) := ⟨_, _, rfl⟩
  rw [HX.out]
  have HX2 : Hid ((x, c) = if rfits (kwire k) l = true then (kcanon k (if kwire k = 0 then (vread l).1 else wordOf l), 0) else (0, 12)) := HX.out.symm
  obtain ⟨y, s, cv, HY⟩ : ∃ y s cv, Hid (vread l = (y, s, cv)) := ⟨_, _, _, rfl⟩
  rw [HY.out] at HX2
  have HVR := hid fun (W : World) (hb : Below w.heap.size w W) => varint_Read (HV.out.below hb)
  rw [HY.out] at HVR
  have HWB := hid fun (W : World) (hb : Below w.heap.size w W) => bits_Word (HV.out.below hb)
  obtain ⟨z, HZ⟩ : ∃ z, Hid (wordOf l = z) := ⟨_, rfl⟩
  rw [HZ.out] at HX2 HWB
  have HKN := hid fun W => kind_Number k W
  rw [hk] at HKN
  have HKWI := hid fun W => kind_Wire_num k hk W
  have HFI : Hid (rfits (kwire k) l = if (kwire k : Int) = 0 then decide (cv = 0 ∧ s = n) else if (kwire k : Int) = 1 then decide (n = 8) else if (kwire k : Int) = 5 then decide (n = 4) else decide ((kwire k : Int) = 2)) := by
    rw [Hid, rfits, HY.out, HN.out]
  clear h hk
  rcases HKW.out with h0 | h0 | h0
  · rw [h0] at HX2 HFI HKWI
    have HWIDE : Hid ((if (0 : Int) = 1 then (8 : Int) else if (0 : Int) = 5 then 4 else 0) = 0) := rfl
    have HFI2 : Hid (rfits ((0 : Nat) : Int) l = decide (cv = 0 ∧ s = n)) := by rw [HFI.out]; rfl
    go_enter Tryz.func115, Tryz.ntmps115
    go_wp2_with fail
    refine (HKN.out _).mono ?_
    rintro e w1 ⟨rfl, hb1⟩
    have HB1 := hid hb1
    clear hb1
    go_wp2_with fail
    refine (HKWI.out _).mono ?_
    rintro e w2 ⟨rfl, hb2⟩
    have HB2 : Hid (Below w.heap.size w w2) := below_step HB1.out hb2 HB1.out.size
    clear hb2
    go_wp2_with fail
    refine (scalar_wide 0 (by decide) _).mono ?_
    rintro e w2' ⟨rfl, rfl⟩
    simp only [HWIDE.out]
    go_wp2_with fail
    refine (HVR.out _ HB2.out).mono ?_
    rintro e w3 ⟨rfl, rfl⟩
    by_cases hc : cv = 0
    · by_cases hs : s = n
      · have HRES : Hid (x = kcanon k y ∧ c = 0) := by
          have h1 := HX2.out
          rw [HFI2.out, decide_eq_true (And.intro hc hs)] at h1
          simp only [if_true] at h1
          exact ⟨congrArg Prod.fst h1, congrArg Prod.snd h1⟩
        subst hc
        have e1 : ((s : Int) != (n : Int)) = false := by simp; omega
        have e2 : ((s : Int) == (n : Int)) = true := by simp; omega
        have e3 : (s != n) = false := by simp; omega
        clear hs
        go_wp2_with fail
        refine (kind_Canon HK.out _ _).mono ?_
        rintro e w4 ⟨rfl, hb4⟩
        have HB4 : Hid (Below w.heap.size w w4) := below_step HB2.out hb4 HB2.out.size
        clear hb4
        go_wp2_with fail
        go_ret2
        exact ⟨by rw [HRES.out.1, HRES.out.2]; first | done | rfl, HB4.out⟩
      · have HRES : Hid (x = 0 ∧ c = 12) := by
          have h1 := HX2.out
          rw [HFI2.out, decide_eq_false (fun h => hs h.2), if_neg (by decide)] at h1
          exact ⟨congrArg Prod.fst h1, congrArg Prod.snd h1⟩
        subst hc
        have e1 : ((s : Int) != (n : Int)) = true := by simp; omega
        have e2 : ((s : Int) == (n : Int)) = false := by simp; omega
        have e3 : (s != n) = true := by simp; omega
        clear hs
        go_wp2_with fail
        go_ret2
        exact ⟨by rw [HRES.out.1, HRES.out.2]; first | done | rfl, HB2.out⟩
    · have HRES : Hid (x = 0 ∧ c = 12) := by
        have h1 := HX2.out
        rw [HFI2.out, decide_eq_false (fun h => hc h.1), if_neg (by decide)] at h1
        exact ⟨congrArg Prod.fst h1, congrArg Prod.snd h1⟩
      have hcv : cv < 256 := by
        rcases vread_cases l with ⟨a, b, h, -⟩ | ⟨d, h, h3⟩
        · rw [HY.out] at h; cases h; omega
        · rw [HY.out] at h; cases h; omega
      have e1 : ((cv : Int) != 0) = true := by simp; exact hc
      have e2 : ((cv : Int) == 0) = false := by simp; exact hc
      have e3 : (cv != 0) = true := by simp; exact hc
      clear hc
      go_wp2_with fail
      go_ret2
      exact ⟨by rw [HRES.out.1, HRES.out.2]; first | done | rfl, HB2.out⟩
  · rw [h0] at HX2 HFI HKWI
    have HWIDE : Hid ((if (1 : Int) = 1 then (8 : Int) else if (1 : Int) = 5 then 4 else 0) = 8) := rfl
    have HFI2 : Hid (rfits ((1 : Nat) : Int) l = decide (n = 8)) := by rw [HFI.out]; rfl
    go_enter Tryz.func115, Tryz.ntmps115
    go_wp2_with fail
    refine (HKN.out _).mono ?_
    rintro e w1 ⟨rfl, hb1⟩
    have HB1 := hid hb1
    clear hb1
    go_wp2_with fail
    refine (HKWI.out _).mono ?_
    rintro e w2 ⟨rfl, hb2⟩
    have HB2 : Hid (Below w.heap.size w w2) := below_step HB1.out hb2 HB1.out.size
    clear hb2
    go_wp2_with fail
    refine (scalar_wide 1 (by decide) _).mono ?_
    rintro e w2' ⟨rfl, rfl⟩
    simp only [HWIDE.out]
    by_cases hs : n = 8
    · have HRES : Hid (x = kcanon k z ∧ c = 0) := by
        have h1 := HX2.out
        rw [HFI2.out, decide_eq_true hs, if_pos rfl, if_neg (by decide)] at h1
        exact ⟨congrArg Prod.fst h1, congrArg Prod.snd h1⟩
      have e1 : ((n : Int) != 8) = false := by simp; omega
      have e2 : ((n : Int) == 8) = true := by simp; omega
      have e3 : (n != 8) = false := by simp; omega
      clear hs
      go_wp2_with fail
      refine (HWB.out _ HB2.out).mono ?_
      rintro e w3 ⟨rfl, rfl⟩
      go_wp2_with fail
      refine (kind_Canon HK.out _ _).mono ?_
      rintro e w4 ⟨rfl, hb4⟩
      have HB4 : Hid (Below w.heap.size w w4) := below_step HB2.out hb4 HB2.out.size
      clear hb4
      go_wp2_with fail
      go_ret2
      exact ⟨by rw [HRES.out.1, HRES.out.2]; first | done | rfl, HB4.out⟩
    · have HRES : Hid (x = 0 ∧ c = 12) := by
        have h1 := HX2.out
        rw [HFI2.out, decide_eq_false hs, if_neg (by decide)] at h1
        exact ⟨congrArg Prod.fst h1, congrArg Prod.snd h1⟩
      have e1 : ((n : Int) != 8) = true := by simp; omega
      have e2 : ((n : Int) == 8) = false := by simp; omega
      have e3 : (n != 8) = true := by simp; omega
      clear hs
      go_wp2_with fail
      go_ret2
      exact ⟨by rw [HRES.out.1, HRES.out.2]; first | done | rfl, HB2.out⟩
  · rw [h0] at HX2 HFI HKWI
    have HWIDE : Hid ((if (5 : Int) = 1 then (8 : Int) else if (5 : Int) = 5 then 4 else 0) = 4) := rfl
    have HFI2 : Hid (rfits ((5 : Nat) : Int) l = decide (n = 4)) := by rw [HFI.out]; rfl
    go_enter Tryz.func115, Tryz.ntmps115
    go_wp2_with fail
    refine (HKN.out _).mono ?_
    rintro e w1 ⟨rfl, hb1⟩
    have HB1 := hid hb1
    clear hb1
    go_wp2_with fail
    refine (HKWI.out _).mono ?_
    rintro e w2 ⟨rfl, hb2⟩
    have HB2 : Hid (Below w.heap.size w w2) := below_step HB1.out hb2 HB1.out.size
    clear hb2
    go_wp2_with fail
    refine (scalar_wide 5 (by decide) _).mono ?_
    rintro e w2' ⟨rfl, rfl⟩
    simp only [HWIDE.out]
    by_cases hs : n = 4
    · have HRES : Hid (x = kcanon k z ∧ c = 0) := by
        have h1 := HX2.out
        rw [HFI2.out, decide_eq_true hs, if_pos rfl, if_neg (by decide)] at h1
        exact ⟨congrArg Prod.fst h1, congrArg Prod.snd h1⟩
      have e1 : ((n : Int) != 4) = false := by simp; omega
      have e2 : ((n : Int) == 4) = true := by simp; omega
      have e3 : (n != 4) = false := by simp; omega
      clear hs
      go_wp2_with fail
      refine (HWB.out _ HB2.out).mono ?_
      rintro e w3 ⟨rfl, rfl⟩
      go_wp2_with fail
      refine (kind_Canon HK.out _ _).mono ?_
      rintro e w4 ⟨rfl, hb4⟩
      have HB4 : Hid (Below w.heap.size w w4) := below_step HB2.out hb4 HB2.out.size
      clear hb4
      go_wp2_with fail
      go_ret2
      exact ⟨by rw [HRES.out.1, HRES.out.2]; first | done | rfl, HB4.out⟩
    · have HRES : Hid (x = 0 ∧ c = 12) := by
        have h1 := HX2.out
        rw [HFI2.out, decide_eq_false hs, if_neg (by decide)] at h1
        exact ⟨congrArg Prod.fst h1, congrArg Prod.snd h1⟩
      have e1 : ((n : Int) != 4) = true := by simp; omega
      have e2 : ((n : Int) == 4) = false := by simp; omega
      have e3 : (n != 4) = true := by simp; omega
      clear hs
      go_wp2_with fail
      go_ret2
      exact ⟨by rw [HRES.out.1, HRES.out.2]; first | done | rfl, HB2.out⟩
end Go.Proofs.YtbhiddafbpingaaGreat
namespace Go.Proofs.YtbhiddafbpingaaGreat
open Go.RowKit
theorem src_append {P : Program} (w : World) (base : Nat) (t tx ty e : TypeId) (z : Value) (size bytes : Nat) (ht : P.underlying t = some (.slice e)) (hinfo : (P.info? e).map (fun i => (i.zero, i.size, i.bytes)) = some (some z, size, bytes))
    (hzs : z.cells.size = size) (v x : Value) (n m : Nat) (xs news : List Value) (hown : w.ownsRow base e size v n xs) (hx : Src P size tx x m news w)
    (h63 : n + m ≤ 140737488355328) (hbytes : (n + m) * bytes ≤ 140737488355328) (hbase : base ≤ w.heap.size) :
    ∃ v' w', (Builtin.append_ #[t, tx] ty #[v, x]).run P w = .ok v' w' ∧ w'.ownsRow base e size v' (n + m) (xs ++ news) ∧ w.grownBy w' v.ownBlock ∧ (v'.ownBlock = v.ownBlock ∨ v'.ownBlock = some w.heap.size) := by
  obtain ⟨i, hi, hz, hsize, hby⟩ := info_parts hinfo
  subst hsize
  subst hby
  have hl := hx.newsLen
  have h63' : n + m ≤ maxLen := by unfold maxLen; omega
  have hlen : (xs ++ news).length = (n + m) * i.size := by rw [List.length_append, hown.1, hl, Nat.add_mul]
  have grown : ∀ (old : Nat), old < n + m → ∀ (row : Option Nat),
      (w.drew.alloc (.cells ((xs ++ news).toArray ++ Builtin.zeroCells z.cells (grownCap w (n + m) old e - (n + m))) e)).ownsRow base e i.size
        (.slice (some ⟨w.heap.size, 0, none⟩) (n + m) (grownCap w (n + m) old e)) (n + m) (xs ++ news) ∧
      w.grownBy (w.drew.alloc (.cells ((xs ++ news).toArray ++ Builtin.zeroCells z.cells (grownCap w (n + m) old e - (n + m))) e)) row := by
    intro old ho row
    have hge := grownCap_ge w (n + m) old e
    have hcm : grownCap w (n + m) old e ≤ maxLen := grownCap_le_maxLen w (n + m) old e h63'
    refine ⟨⟨hlen, .inr ⟨w.heap.size, _, _, rfl, hbase, heap_alloc_new w.drew _, hge, hcm, ?_, ?_⟩⟩, ⟨rfl, rfl, rfl, by simp, fun k hk _ => heap_alloc_old w.drew _ hk⟩⟩
    · rw [Array.size_append, size_zeroCells, List.size_toArray, hlen, hzs, ← Nat.add_mul]
      congr 1
      omega
    · rw [Array.toList_append, List.take_append_of_le_length (by simpa using Nat.le_of_eq hlen.symm), ← hlen]
      exact List.take_of_length_le (by simp)
  rcases hown.2 with ⟨rfl, rfl⟩ | ⟨g, cap, cur, rfl, hbg, hg, hnc, hcm, hcs, htake⟩
  · have hxs : xs = [] := List.eq_nil_of_length_eq_zero (by simpa using hown.1)
    subst hxs
    by_cases hm : m = 0
    · subst hm
      have hn : news = [] := List.eq_nil_of_length_eq_zero (by simpa using hl)
      subst hn
      refine ⟨.slice none 0 0, w, ?_, World.ownsRow_nil w base e i.size, ⟨rfl, rfl, rfl, Nat.le_refl _, fun _ _ _ => rfl⟩, Or.inl rfl⟩
      rcases hx.kind with ⟨e', hk⟩ | hk <;> simp [Builtin.append_, run_underlying ht, run_underlying hk, sizeOf, typeInfo, hi, hx.len, hx.cells]
    · have hr := run_append_grow_src (P := P) w t tx ty e i z ht hi hz none 0 0 [] (by simp [Builtin.firstCells]) x m news hx (by omega) (by omega) (growslice_fits (by omega) hbytes)
      have hgr := grown 0 (by omega) (Value.ownBlock (.slice none 0 0))
      simp only [Nat.zero_add, List.nil_append] at hgr hr ⊢
      exact ⟨_, _, hr, hgr.1, hgr.2, Or.inr rfl⟩
  · by_cases hroom : n + m ≤ cap
    · have hfit : n * i.size + news.length ≤ cur.size := by rw [hl, hcs, ← Nat.add_mul]; exact Nat.mul_le_mul_right _ hroom
      have hst := run_storeCells_at P g (n * i.size) e news 0 cur w hg (by simpa using hfit) hx.one
      simp only [Nat.add_zero] at hst
      have hr : (Builtin.append_ #[t, tx] ty #[.slice (some ⟨g, 0, none⟩) n cap, x]).run P w = .ok (.slice (some ⟨g, 0, none⟩) (n + m) cap) (w.setRow g (cur.toList.take (n * i.size) ++ news ++ cur.toList.drop (n * i.size + news.length)).toArray) := by
        rcases hx.kind with ⟨e', hk⟩ | hk <;> simp [Builtin.append_, run_underlying ht, run_underlying hk, sizeOf, typeInfo, hi, hx.len, hroom, hx.cells, Addr.add_lit, hst]
      refine ⟨_, _, hr, ⟨hlen, .inr ⟨g, cap, _, rfl, hbg, setRow_heap w g cur _ e _ hg, hroom, hcm, ?_, ?_⟩⟩, ⟨rfl, rfl, rfl, by simp, fun k _ hk => setRow_other w g k _ (fun e => hk (by simp [Value.ownBlock, e]))⟩, Or.inl rfl⟩
      · simp only [List.size_toArray, List.length_append, List.length_take, List.length_drop, Array.length_toList]
        omega
      · rw [htake, ← hlen]
        exact List.take_left
    · have holds : ∀ j u, xs[j]? = some u → w.cell? ((⟨g, 0, none⟩ : Addr).add j) = some u := hown.cells (g := g) rfl
      have hr := run_append_grow_src (P := P) w t tx ty e i z ht hi hz (some ⟨g, 0, none⟩) n cap xs (run_firstCells_some w.drew i.size n ⟨g, 0, none⟩ n cap xs hown.1 (by simpa using holds)) x m news hx (by omega) (by omega) (growslice_fits (by omega) hbytes)
      have hgr := grown cap (by omega) (Value.ownBlock (.slice (some ⟨g, 0, none⟩) n cap))
      exact ⟨_, _, hr, hgr.1, hgr.2, Or.inr rfl⟩
/-- the operation, of two types, by its run -/
theorem wp_append2_eq {P : Program} {w : World} {o : Oper} {a : Act} {K : Act → World → Prop} {Q : Exit → Act → World → Prop} (s x : Operand) (t u : TypeId)
    (ho : o.op = .call { callee := .builtin .append, args := #[s, x], argTypes := #[t, u] }) (v xv : Value) (hs : a.eval s = v) (hx : a.eval x = xv) {v' : Value} {w' : World}
    (hr : (Builtin.append_ #[t, u] o.type #[v, xv]).run P w = .ok v' w') (h : K (a.put o.dst v') w') : o.wp P a w K Q := by
  unfold Oper.wp execOp
  simp only [ho, resolve, invoke, builtin, Sem.run_bind, Sem.run_pure, Result.andThen_ok, List.map_toArray, List.map_cons, List.map_nil, hs, hx, hr]
  exact h
theorem wpList_append2_eq {P : Program} {w : World} {ops : Array Oper} {rest : List Oper} {o : Oper} {a : Act} {Q : Exit → Act → World → Prop} (hgd : o.guard = none) (s x : Operand) (t u : TypeId)
    (ho : o.op = .call { callee := .builtin .append, args := #[s, x], argTypes := #[t, u] }) (v xv : Value) (hs : a.eval s = v) (hx : a.eval x = xv) {v' : Value} {w' : World}
    (hr : (Builtin.append_ #[t, u] o.type #[v, xv]).run P w = .ok v' w') (h : wpList P ops Q rest (a.put o.dst v') w') : wpList P ops Q (o :: rest) a w :=
  wpList_plain hgd fun _ hK => wp_append2_eq s x t u ho v xv hs hx hr (hK _ _ h)
theorem wpListIn_append2_eq {F : Fence} {n : Nat} {P : Program} {w : World} {ops : Array Oper} {rest : List Oper} {o : Oper} {a : Act} {Q : Exit → Act → World → Prop} (hgd : o.guard = none) (s x : Operand) (t u : TypeId)
    (ho : o.op = .call { callee := .builtin .append, args := #[s, x], argTypes := #[t, u] }) (v xv : Value) (hs : a.eval s = v) (hx : a.eval x = xv) {v' : Value} {w' : World}
    (hr : (Builtin.append_ #[t, u] o.type #[v, xv]).run P w = .ok v' w') (h : wpListIn F n P ops Q rest (a.put o.dst v') w') : wpListIn F n P ops Q (o :: rest) a w := by
  refine wpListIn_plain hgd fun K hK => ?_
  unfold Oper.wpIn
  refine ⟨?_, ?_⟩
  · simp [Oper.about, ho, resolve, Target.leads, Sem.run_pure]
  · rw [Oper.semAt_plain F _ _ (by rw [ho]; intro c hc'; cases hc')]
    simp [execOp, ho, resolve, invoke, builtin, hs, hx, hr, Result.andThen]
    exact hK _ _ h
end Go.Proofs.YtbhiddafbpingaaGreat
