/- scalar.Read, darningref08.Read, darningref05.Fits: a number's bytes (kread). The kind is a number's. append onto a row of the call's own, whatever is appended (a string's bytes too), as an equation of the run. No condition. -/
import Derived.Test.YtbcpeckmnmhfhaaGreatZ01
import Derived.Test.YtbcpeckmnmhfhaaGreatZ03
import Derived.Test.YtbcpeckmnmhfhaaGreatZ14
import Derived.Test.YtbcpeckmnmhfhaaGreatZ20
import Derived.Test.YtbcpeckmnmhfhaaGreatZ21
import Derived.Deep.AppendSrc
import Derived.Maps.AppendAt
import Derived.OwnWalk
import Derived.OwnWalkIn
namespace Go.Proofs.YtbcpeckmnmhfhaaGreat
open Go.RowKit
/-- a value's word, the code -/
def kread (k : Int) (l : List UInt8) : Nat × Nat := if rfits (kwire k) l = true then (kcanon k (if kwire k = 0 then (vread l).1 else wordOf l), 0) else (0, 12)
theorem kwire_015 {k : Int} (h : knumber k = true) : kwire k = 0 ∨ kwire k = 1 ∨ kwire k = 5 := by
  have h' : 1 ≤ k ∧ k ≤ 14 := of_decide_eq_true h
  unfold kwire
  rw [if_neg (by omega), if_neg (by omega)]
  by_cases h1 : 12 ≤ k
  · rw [if_pos h1]; omega
  · rw [if_neg h1]
    by_cases h2 : 9 ≤ k
    · rw [if_pos h2]; omega
    · rw [if_neg h2]; omega
theorem kright_num {k : Int} (h : knumber k = true) : kright k = true := by unfold knumber at h; unfold kright; simp at h ⊢; omega
set_option maxRecDepth 100000 in
set_option maxHeartbeats 4000000 in
theorem scalar_Read {k : Int} (hk : knumber k = true) {w : World} {v : Value} {l : List UInt8} (h : Bytes w v l) :
    Calls Tryz.prog 75 #[.int .i64 k, v] w fun e w' => e = .returned (.tuple #[.int .u64 ((kread k l).1 : Nat), .int .u8 ((kread k l).2 : Nat)]) ∧ Below w.heap.size w w' := by
  have HK := hid hk
  have HV := hid h
  have HKW := hid (kwire_015 hk)
  obtain ⟨hlen, a, cap, rfl, -, -, -, -⟩ := h.open
  obtain ⟨n, HN⟩ : ∃ n, Hid (n = l.length) := ⟨_, rfl⟩
  rw [← HN.out] at hlen HV ⊢
  obtain ⟨x, c, HX⟩ : ∃ x c, Hid (kread k l = (x, c)) := ⟨_, _, rfl⟩
  rw [HX.out]
  have HX2 : Hid ((x, c) = if rfits (kwire k) l = true then (kcanon k (if kwire k = 0 then (vread l).1 else wordOf l), 0) else (0, 12)) := HX.out.symm
  obtain ⟨y, s, cv, HY⟩ : ∃ y s cv, Hid (vread l = (y, s, cv)) := ⟨_, _, _, rfl⟩
  rw [HY.out] at HX2
  have HVR := hid fun (W : World) (hb : Below w.heap.size w W) => varint_Read (HV.out.below hb)
  rw [HY.out] at HVR
  have HWB := hid fun (W : World) (hb : Below w.heap.size w W) => bits_Word (HV.out.below hb)
  obtain ⟨z, HZ⟩ : ∃ z, Hid (wordOf l = z) := ⟨_, rfl⟩
  rw [HZ.out] at HX2 HWB
  have HKN := hid fun W => kind_Number k W
  rw [hk] at HKN
  have HKWI := hid fun W => kind_Wire_num k hk W
  have HFI : Hid (rfits (kwire k) l = if (kwire k : Int) = 0 then decide (cv = 0 ∧ s = n) else if (kwire k : Int) = 1 then decide (n = 8) else if (kwire k : Int) = 5 then decide (n = 4) else decide ((kwire k : Int) = 2)) := by
    rw [Hid, rfits, HY.out, HN.out]
  clear h hk
  rcases HKW.out with h0 | h0 | h0
  · rw [h0] at HX2 HFI HKWI
    have HWIDE : Hid ((if (0 : Int) = 1 then (8 : Int) else if (0 : Int) = 5 then 4 else 0) = 0) := rfl
    have HFI2 : Hid (rfits ((0 : Nat) : Int) l = decide (cv = 0 ∧ s = n)) := by rw [HFI.out]; rfl
    go_enter Tryz.func75, Tryz.ntmps75
    go_wp2_with fail
    refine (HKN.out _).mono ?_
    rintro e w1 ⟨rfl, hb1⟩
    have HB1 := hid hb1
    clear hb1
    go_wp2_with fail
    refine (HKWI.out _).mono ?_
    rintro e w2 ⟨rfl, hb2⟩
    have HB2 : Hid (Below w.heap.size w w2) := below_step HB1.out hb2 HB1.out.size
    clear hb2
    go_wp2_with fail
    refine (scalar_wide 0 (by decide) _).mono ?_
    rintro e w2' ⟨rfl, rfl⟩
    simp only [HWIDE.out]
    go_wp2_with fail
    refine (HVR.out _ HB2.out).mono ?_
    rintro e w3 ⟨rfl, rfl⟩
    by_cases hc : cv = 0
    · by_cases hs : s = n
      · have HRES : Hid (x = kcanon k y ∧ c = 0) := by
          have h1 := HX2.out
          rw [HFI2.out, decide_eq_true (And.intro hc hs)] at h1
          simp only [if_true] at h1
          exact ⟨congrArg Prod.fst h1, congrArg Prod.snd h1⟩
        subst hc
        have e1 : ((s : Int) != (n : Int)) = false := by simp; omega
        have e2 : ((s : Int) == (n : Int)) = true := by simp; omega
        have e3 : (s != n) = false := by simp; omega
        clear hs
        go_wp2_with fail
        refine (kind_Canon HK.out _ _).mono ?_
        rintro e w4 ⟨rfl, hb4⟩
        have HB4 : Hid (Below w.heap.size w w4) := below_step HB2.out hb4 HB2.out.size
        clear hb4
        go_wp2_with fail
        go_ret2
        exact ⟨by rw [HRES.out.1, HRES.out.2]; first | done | rfl, HB4.out⟩
      · have HRES : Hid (x = 0 ∧ c = 12) := by
          have h1 := HX2.out
          rw [HFI2.out, decide_eq_false (fun h => hs h.2), if_neg (by decide)] at h1
          exact ⟨congrArg Prod.fst h1, congrArg Prod.snd h1⟩
        subst hc
        have e1 : ((s : Int) != (n : Int)) = true := by simp; omega
        have e2 : ((s : Int) == (n : Int)) = false := by simp; omega
        have e3 : (s != n) = true := by simp; omega
        clear hs
        go_wp2_with fail
        go_ret2
        exact ⟨by rw [HRES.out.1, HRES.out.2]; first | done | rfl, HB2.out⟩
    · have HRES : Hid (x = 0 ∧ c = 12) := by
        have h1 := HX2.out
        rw [HFI2.out, decide_eq_false (fun h => hc h.1), if_neg (by decide)] at h1
        exact ⟨congrArg Prod.fst h1, congrArg Prod.snd h1⟩
      have hcv : cv < 256 := by
        rcases vread_cases l with ⟨a, b, h, -⟩ | ⟨d, h, h3⟩
        · rw [HY.out] at h; cases h; omega
        · rw [HY.out] at h; cases h; omega
      have e1 : ((cv : Int) != 0) = true := by simp; exact hc
      have e2 : ((cv : Int) == 0) = false := by simp; exact hc
      have e3 : (cv != 0) = true := by simp; exact hc
      clear hc
      go_wp2_with fail
      go_ret2
      exact ⟨by rw [HRES.out.1, HRES.out.2]; first | done | rfl, HB2.out⟩
  · rw [h0] at HX2 HFI HKWI
    have HWIDE : Hid ((if (1 : Int) = 1 then (8 : Int) else if (1 : Int) = 5 then 4 else 0) = 8) := rfl
    have HFI2 : Hid (rfits ((1 : Nat) : Int) l = decide (n = 8)) := by rw [HFI.out]; rfl
    go_enter Tryz.func75, Tryz.ntmps75
    go_wp2_with fail
    refine (HKN.out _).mono ?_
    rintro e w1 ⟨rfl, hb1⟩
    have HB1 := hid hb1
    clear hb1
    go_wp2_with fail
    refine (HKWI.out _).mono ?_
    rintro e w2 ⟨rfl, hb2⟩
    have HB2 : Hid (Below w.heap.size w w2) := below_step HB1.out hb2 HB1.out.size
    clear hb2
    go_wp2_with fail
    refine (scalar_wide 1 (by decide) _).mono ?_
    rintro e w2' ⟨rfl, rfl⟩
    simp only [HWIDE.out]
    by_cases hs : n = 8
    · have HRES : Hid (x = kcanon k z ∧ c = 0) := by
        have h1 := HX2.out
        rw [HFI2.out, decide_eq_true hs, if_pos rfl, if_neg (by decide)] at h1
        exact ⟨congrArg Prod.fst h1, congrArg Prod.snd h1⟩
      have e1 : ((n : Int) != 8) = false := by simp; omega
      have e2 : ((n : Int) == 8) = true := by simp; omega
      have e3 : (n != 8) = false := by simp; omega
      clear hs
      go_wp2_with fail
      refine (HWB.out _ HB2.out).mono ?_
      rintro e w3 ⟨rfl, rfl⟩
      go_wp2_with fail
      refine (kind_Canon HK.out _ _).mono ?_
      rintro e w4 ⟨rfl, hb4⟩
      have HB4 : Hid (Below w.heap.size w w4) := below_step HB2.out hb4 HB2.out.size
      clear hb4
      go_wp2_with fail
      go_ret2
      exact ⟨by rw [HRES.out.1, HRES.out.2]; first | done | rfl, HB4.out⟩
    · have HRES : Hid (x = 0 ∧ c = 12) := by
        have h1 := HX2.out
        rw [HFI2.out, decide_eq_false hs, if_neg (by decide)] at h1
        exact ⟨congrArg Prod.fst h1, congrArg Prod.snd h1⟩
      have e1 : ((n : Int) != 8) = true := by simp; omega
      have e2 : ((n : Int) == 8) = false := by simp; omega
      have e3 : (n != 8) = true := by simp; omega
      clear hs
      go_wp2_with fail
      go_ret2
      exact ⟨by rw [HRES.out.1, HRES.out.2]; first | done | rfl, HB2.out⟩
  · rw [h0] at HX2 HFI HKWI
    have HWIDE : Hid ((if (5 : Int) = 1 then (8 : Int) else if (5 : Int) = 5 then 4 else 0) = 4) := rfl
    have HFI2 : Hid (rfits ((5 : Nat) : Int) l = decide (n = 4)) := by rw [HFI.out]; rfl
    go_enter Tryz.func75, Tryz.ntmps75
    go_wp2_with fail
    refine (HKN.out _).mono ?_
    rintro e w1 ⟨rfl, hb1⟩
    have HB1 := hid hb1
    clear hb1
    go_wp2_with fail
    refine (HKWI.out _).mono ?_
    rintro e w2 ⟨rfl, hb2⟩
    have HB2 : Hid (Below w.heap.size w w2) := below_step HB1.out hb2 HB1.out.size
    clear hb2
    go_wp2_with fail
    refine (scalar_wide 5 (by decide) _).mono ?_
    rintro e w2' ⟨rfl, rfl⟩
    simp only [HWIDE.out]
    by_cases hs : n = 4
    · have HRES : Hid (x = kcanon k z ∧ c = 0) := by
        have h1 := HX2.out
        rw [HFI2.out, decide_eq_true hs, if_pos rfl, if_neg (by decide)] at h1
        exact ⟨congrArg Prod.fst h1, congrArg Prod.snd h1⟩
      have e1 : ((n : Int) != 4) = false := by simp; omega
      have e2 : ((n : Int) == 4) = true := by simp; omega
      have e3 : (n != 4) = false := by simp; omega
      clear hs
      go_wp2_with fail
      refine (HWB.out _ HB2.out).mono ?_
      rintro e w3 ⟨rfl, rfl⟩
      go_wp2_with fail
      refine (kind_Canon HK.out _ _).mono ?_
      rintro e w4 ⟨rfl, hb4⟩
      have HB4 : Hid (Below w.heap.size w w4) := below_step HB2.out hb4 HB2.out.size
      clear hb4
      go_wp2_with fail
      go_ret2
      exact ⟨by rw [HRES.out.1, HRES.out.2]; first | done | rfl, HB4.out⟩
    · have HRES : Hid (x = 0 ∧ c = 12) := by
        have h1 := HX2.out
        rw [HFI2.out, decide_eq_false hs, if_neg (by decide)] at h1
        exact ⟨congrArg Prod.fst h1, congrArg Prod.snd h1⟩
      have e1 : ((n : Int) != 4) = true := by simp; omega
      have e2 : ((n : Int) == 4) = false := by simp; omega
      have e3 : (n != 4) = true := by simp; omega
      clear hs
      go_wp2_with fail
      go_ret2
      exact ⟨by rw [HRES.out.1, HRES.out.2]; first | done | rfl, HB2.out⟩
set_option maxRecDepth 100000 in
set_option maxHeartbeats 4000000 in
theorem ref05_Fits {x : Nat} (hx : x = 0 ∨ x = 1 ∨ x = 5) {w : World} {v : Value} {l : List UInt8} (h : Bytes w v l) :
    Calls Tryz.prog 48 #[.int .i64 (x : Int), v] w fun e w' => e = .returned (.bool (rfits x l)) ∧ w = w' := by
  have HR := hid fun (z : Int) (hz : z = (0 : Nat)) => ref02_Read_at h z 0 hz (Nat.zero_le _)
  obtain ⟨hlen, a, cap, rfl, -, -, -, -⟩ := h.open
  obtain ⟨n, HN⟩ : ∃ n, Hid (n = l.length) := ⟨_, rfl⟩
  rw [← HN.out] at hlen HR ⊢
  rw [List.drop_zero] at HR
  obtain ⟨y, s, cv, HY⟩ : ∃ y s cv, Hid (vread l = (y, s, cv)) := ⟨_, _, _, rfl⟩
  rw [HY.out] at HR
  obtain ⟨b, HB⟩ : ∃ b, Hid (b = rfits x l) := ⟨_, rfl⟩
  rw [← HB.out]
  have HB2 := HB.out
  rw [rfits, HY.out, ← HN.out] at HB2
  have HBB := hid HB2
  clear h HB2
  rcases hx with rfl | rfl | rfl
  · have HE : Hid (b = decide (cv = 0 ∧ s = n)) := by rw [Hid, HBB.out]; rfl
    by_cases hc : cv = 0
    · subst hc
      by_cases hs : s = n
      · have HT : Hid (b = true) := by rw [Hid, HE.out]; exact decide_eq_true ⟨rfl, hs⟩
        have e2 : ((s : Int) == (n : Int)) = true := by simp; omega
        have e3 : (s == n) = true := by simp; omega
        have e4 : decide (s = n) = true := decide_eq_true hs
        clear hs
        go_enter Tryz.func48, Tryz.ntmps48
        go_wp2_with (go_at_call 51; refine (HR.out 0 rfl).mono ?_; rintro e w1 ⟨rfl, rfl⟩)
        go_ret
        exact ⟨by rw [HT.out]; first | done | rfl, rfl⟩
      · have HT : Hid (b = false) := by rw [Hid, HE.out]; exact decide_eq_false fun h => hs h.2
        have e2 : ((s : Int) == (n : Int)) = false := by simp; omega
        have e3 : (s == n) = false := by simp; omega
        have e4 : decide (s = n) = false := decide_eq_false hs
        clear hs
        go_enter Tryz.func48, Tryz.ntmps48
        go_wp2_with (go_at_call 51; refine (HR.out 0 rfl).mono ?_; rintro e w1 ⟨rfl, rfl⟩)
        go_ret
        exact ⟨by rw [HT.out]; first | done | rfl, rfl⟩
    · have HT : Hid (b = false) := by rw [Hid, HE.out]; exact decide_eq_false fun h => hc h.1
      have e2 : ((cv : Int) == 0) = false := by simp; exact hc
      have e3 : (cv == 0) = false := by simp; exact hc
      clear hc
      go_enter Tryz.func48, Tryz.ntmps48
      go_wp2_with (go_at_call 51; refine (HR.out 0 rfl).mono ?_; rintro e w1 ⟨rfl, rfl⟩)
      go_ret
      exact ⟨by rw [HT.out]; first | done | rfl, rfl⟩
  · have HE : Hid (b = decide (n = 8)) := by rw [Hid, HBB.out]; rfl
    by_cases hs : n = 8
    · subst hs
      have HT : Hid (b = true) := by rw [Hid, HE.out]; rfl
      go_enter Tryz.func48, Tryz.ntmps48
      go_wp2_with fail
      go_ret
      exact ⟨by rw [HT.out]; first | done | rfl, rfl⟩
    · have HT : Hid (b = false) := by rw [Hid, HE.out]; exact decide_eq_false hs
      have e2 : ((n : Int) == 8) = false := by simp; omega
      have e3 : (n == 8) = false := by simp; omega
      clear hs
      go_enter Tryz.func48, Tryz.ntmps48
      go_wp2_with fail
      go_ret
      exact ⟨by rw [HT.out]; first | done | rfl, rfl⟩
  · have HE : Hid (b = decide (n = 4)) := by rw [Hid, HBB.out]; rfl
    by_cases hs : n = 4
    · subst hs
      have HT : Hid (b = true) := by rw [Hid, HE.out]; rfl
      go_enter Tryz.func48, Tryz.ntmps48
      go_wp2_with fail
      go_ret
      exact ⟨by rw [HT.out]; first | done | rfl, rfl⟩
    · have HT : Hid (b = false) := by rw [Hid, HE.out]; exact decide_eq_false hs
      have e2 : ((n : Int) == 4) = false := by simp; omega
      have e3 : (n == 4) = false := by simp; omega
      clear hs
      go_enter Tryz.func48, Tryz.ntmps48
      go_wp2_with fail
      go_ret
      exact ⟨by rw [HT.out]; first | done | rfl, rfl⟩
set_option maxRecDepth 100000 in
set_option maxHeartbeats 4000000 in
theorem ref08_Read {k : Int} (hk : knumber k = true) {w : World} {v : Value} {l : List UInt8} (h : Bytes w v l) :
    Calls Tryz.prog 28 #[.int .i64 k, v] w fun e w' => e = .returned (.tuple #[.int .u64 ((kread k l).1 : Nat), .int .i64 ((kread k l).2 : Nat)]) ∧ w = w' := by
  have HK := hid hk
  have HKW := hid (kwire_015 hk)
  have HWI := hid fun W => ref06_Wire k (kright_num hk) W
  have HNU := hid fun W => ref06_Number k W
  rw [hk] at HNU
  have HR := hid fun (z : Int) (hz : z = (0 : Nat)) => ref02_Read_at h z 0 hz (Nat.zero_le _)
  have HWB := hid (ref01_Word h)
  have HFT := hid fun (x : Nat) (hx : x = 0 ∨ x = 1 ∨ x = 5) => ref05_Fits hx h
  obtain ⟨hlen, a, cap, rfl, -, -, -, -⟩ := h.open
  obtain ⟨n, HN⟩ : ∃ n, Hid (n = l.length) := ⟨_, rfl⟩
  rw [← HN.out] at hlen HR HWB HFT ⊢
  rw [List.drop_zero] at HR
  obtain ⟨y, s, cv, HY⟩ : ∃ y s cv, Hid (vread l = (y, s, cv)) := ⟨_, _, _, rfl⟩
  rw [HY.out] at HR
  obtain ⟨x, c, HX⟩ : ∃ x c, Hid (kread k l = (x, c)) := ⟨_, _, rfl⟩
  rw [HX.out]
  have HX2 : Hid ((x, c) = if rfits (kwire k) l = true then (kcanon k (if kwire k = 0 then (vread l).1 else wordOf l), 0) else (0, 12)) := HX.out.symm
  rw [HY.out] at HX2
  obtain ⟨q, HQ⟩ : ∃ q, Hid (q = kwire k) := ⟨_, rfl⟩
  obtain ⟨b, HB⟩ : ∃ b, Hid (b = rfits q l) := ⟨_, rfl⟩
  rw [← HQ.out] at HX2 HKW HWI
  rw [← HB.out] at HX2
  have HFT2 := hid (HFT.out q HKW.out)
  rw [← HB.out] at HFT2
  obtain ⟨z, HZ⟩ : ∃ z, Hid (wordOf l = z) := ⟨_, rfl⟩
  rw [HZ.out] at HX2 HWB
  clear h hk
  cases b with
  | false =>
    have HRES : Hid (x = 0 ∧ c = 12) := by
      have h1 := HX2.out
      simp at h1
      exact h1
    go_enter Tryz.func28, Tryz.ntmps28
    go_wp2_with (first | (go_at_call 27; refine (HNU.out _).mono ?_; rintro e w1 ⟨rfl, rfl⟩) | (go_at_call 49; refine (HWI.out _).mono ?_; rintro e w1 ⟨rfl, rfl⟩) | (go_at_call 48; refine HFT2.out.mono ?_; rintro e w1 ⟨rfl, rfl⟩))
    go_ret2
    exact ⟨by rw [HRES.out.1, HRES.out.2]; first | done | rfl, rfl⟩
  | true =>
    by_cases h0 : q = 0
    · have HRES : Hid (x = kcanon k y ∧ c = 0) := by
        have h1 := HX2.out
        rw [h0] at h1
        simp at h1
        exact h1
      subst h0
      go_enter Tryz.func28, Tryz.ntmps28
      go_wp2_with (first | (go_at_call 27; refine (HNU.out _).mono ?_; rintro e w1 ⟨rfl, rfl⟩) | (go_at_call 49; refine (HWI.out _).mono ?_; rintro e w1 ⟨rfl, rfl⟩) | (go_at_call 48; refine HFT2.out.mono ?_; rintro e w1 ⟨rfl, rfl⟩) | (go_at_call 50; refine HWB.out.mono ?_; rintro e w1 ⟨rfl, rfl⟩) | (go_at_call 51; refine (HR.out 0 rfl).mono ?_; rintro e w1 ⟨rfl, rfl⟩) | (go_at_call 52; refine (ref06_Canon HK.out y _).mono ?_; rintro e w1 ⟨rfl, rfl⟩))
      go_ret2
      exact ⟨by rw [HRES.out.1, HRES.out.2]; first | done | rfl, rfl⟩
    · have HRES : Hid (x = kcanon k z ∧ c = 0) := by
        have h1 := HX2.out
        simp [h0] at h1
        exact h1
      have e1 : ((q : Int) == 0) = false := by simp; exact h0
      have e2 : (q == 0) = false := by simp; exact h0
      clear h0
      go_enter Tryz.func28, Tryz.ntmps28
      go_wp2_with (first | (go_at_call 27; refine (HNU.out _).mono ?_; rintro e w1 ⟨rfl, rfl⟩) | (go_at_call 49; refine (HWI.out _).mono ?_; rintro e w1 ⟨rfl, rfl⟩) | (go_at_call 48; refine HFT2.out.mono ?_; rintro e w1 ⟨rfl, rfl⟩) | (go_at_call 50; refine HWB.out.mono ?_; rintro e w1 ⟨rfl, rfl⟩) | (go_at_call 52; refine (ref06_Canon HK.out z _).mono ?_; rintro e w1 ⟨rfl, rfl⟩))
      go_ret2
      exact ⟨by rw [HRES.out.1, HRES.out.2]; first | done | rfl, rfl⟩
end Go.Proofs.YtbcpeckmnmhfhaaGreat
namespace Go.Proofs.YtbcpeckmnmhfhaaGreat
open Go.RowKit
theorem src_append {P : Program} (w : World) (base : Nat) (t tx ty e : TypeId) (z : Value) (size bytes : Nat) (ht : P.underlying t = some (.slice e)) (hinfo : (P.info? e).map (fun i => (i.zero, i.size, i.bytes)) = some (some z, size, bytes))
    (hzs : z.cells.size = size) (v x : Value) (n m : Nat) (xs news : List Value) (hown : w.ownsRow base e size v n xs) (hx : Src P size tx x m news w)
    (h63 : n + m ≤ 140737488355328) (hbytes : (n + m) * bytes ≤ 140737488355328) (hbase : base ≤ w.heap.size) :
    ∃ v' w', (Builtin.append_ #[t, tx] ty #[v, x]).run P w = .ok v' w' ∧ w'.ownsRow base e size v' (n + m) (xs ++ news) ∧ w.grownBy w' v.ownBlock ∧ (v'.ownBlock = v.ownBlock ∨ v'.ownBlock = some w.heap.size) := by
  obtain ⟨i, hi, hz, hsize, hby⟩ := info_parts hinfo
  subst hsize
  subst hby
  have hl := hx.newsLen
  have h63' : n + m ≤ maxLen := by unfold maxLen; omega
  have hlen : (xs ++ news).length = (n + m) * i.size := by rw [List.length_append, hown.1, hl, Nat.add_mul]
  have grown : ∀ (old : Nat), old < n + m → ∀ (row : Option Nat),
      (w.drew.alloc (.cells ((xs ++ news).toArray ++ Builtin.zeroCells z.cells (grownCap w (n + m) old e - (n + m))) e)).ownsRow base e i.size
        (.slice (some ⟨w.heap.size, 0, none⟩) (n + m) (grownCap w (n + m) old e)) (n + m) (xs ++ news) ∧
      w.grownBy (w.drew.alloc (.cells ((xs ++ news).toArray ++ Builtin.zeroCells z.cells (grownCap w (n + m) old e - (n + m))) e)) row := by
    intro old ho row
    have hge := grownCap_ge w (n + m) old e
    have hcm : grownCap w (n + m) old e ≤ maxLen := grownCap_le_maxLen w (n + m) old e h63'
    refine ⟨⟨hlen, .inr ⟨w.heap.size, _, _, rfl, hbase, heap_alloc_new w.drew _, hge, hcm, ?_, ?_⟩⟩, ⟨rfl, rfl, rfl, by simp, fun k hk _ => heap_alloc_old w.drew _ hk⟩⟩
    · rw [Array.size_append, size_zeroCells, List.size_toArray, hlen, hzs, ← Nat.add_mul]
      congr 1
      omega
    · rw [Array.toList_append, List.take_append_of_le_length (by simpa using Nat.le_of_eq hlen.symm), ← hlen]
      exact List.take_of_length_le (by simp)
  rcases hown.2 with ⟨rfl, rfl⟩ | ⟨g, cap, cur, rfl, hbg, hg, hnc, hcm, hcs, htake⟩
  · have hxs : xs = [] := List.eq_nil_of_length_eq_zero (by simpa using hown.1)
    subst hxs
    by_cases hm : m = 0
    · subst hm
      have hn : news = [] := List.eq_nil_of_length_eq_zero (by simpa using hl)
      subst hn
      refine ⟨.slice none 0 0, w, ?_, World.ownsRow_nil w base e i.size, ⟨rfl, rfl, rfl, Nat.le_refl _, fun _ _ _ => rfl⟩, Or.inl rfl⟩
      rcases hx.kind with ⟨e', hk⟩ | hk <;> simp [Builtin.append_, run_underlying ht, run_underlying hk, sizeOf, typeInfo, hi, hx.len, hx.cells]
    · have hr := run_append_grow_src (P := P) w t tx ty e i z ht hi hz none 0 0 [] (by simp [Builtin.firstCells]) x m news hx (by omega) (by omega) (growslice_fits (by omega) hbytes)
      have hgr := grown 0 (by omega) (Value.ownBlock (.slice none 0 0))
      simp only [Nat.zero_add, List.nil_append] at hgr hr ⊢
      exact ⟨_, _, hr, hgr.1, hgr.2, Or.inr rfl⟩
  · by_cases hroom : n + m ≤ cap
    · have hfit : n * i.size + news.length ≤ cur.size := by rw [hl, hcs, ← Nat.add_mul]; exact Nat.mul_le_mul_right _ hroom
      have hst := run_storeCells_at P g (n * i.size) e news 0 cur w hg (by simpa using hfit) hx.one
      simp only [Nat.add_zero] at hst
      have hr : (Builtin.append_ #[t, tx] ty #[.slice (some ⟨g, 0, none⟩) n cap, x]).run P w = .ok (.slice (some ⟨g, 0, none⟩) (n + m) cap) (w.setRow g (cur.toList.take (n * i.size) ++ news ++ cur.toList.drop (n * i.size + news.length)).toArray) := by
        rcases hx.kind with ⟨e', hk⟩ | hk <;> simp [Builtin.append_, run_underlying ht, run_underlying hk, sizeOf, typeInfo, hi, hx.len, hroom, hx.cells, Addr.add_lit, hst]
      refine ⟨_, _, hr, ⟨hlen, .inr ⟨g, cap, _, rfl, hbg, setRow_heap w g cur _ e _ hg, hroom, hcm, ?_, ?_⟩⟩, ⟨rfl, rfl, rfl, by simp, fun k _ hk => setRow_other w g k _ (fun e => hk (by simp [Value.ownBlock, e]))⟩, Or.inl rfl⟩
      · simp only [List.size_toArray, List.length_append, List.length_take, List.length_drop, Array.length_toList]
        omega
      · rw [htake, ← hlen]
        exact List.take_left
    · have holds : ∀ j u, xs[j]? = some u → w.cell? ((⟨g, 0, none⟩ : Addr).add j) = some u := hown.cells (g := g) rfl
      have hr := run_append_grow_src (P := P) w t tx ty e i z ht hi hz (some ⟨g, 0, none⟩) n cap xs (run_firstCells_some w.drew i.size n ⟨g, 0, none⟩ n cap xs hown.1 (by simpa using holds)) x m news hx (by omega) (by omega) (growslice_fits (by omega) hbytes)
      have hgr := grown cap (by omega) (Value.ownBlock (.slice (some ⟨g, 0, none⟩) n cap))
      exact ⟨_, _, hr, hgr.1, hgr.2, Or.inr rfl⟩
/-- the operation, of two types, by its run -/
theorem wp_append2_eq {P : Program} {w : World} {o : Oper} {a : Act} {K : Act → World → Prop} {Q : Exit → Act → World → Prop} (s x : Operand) (t u : TypeId)
    (ho : o.op = .call { callee := .builtin .append, args := #[s, x], argTypes := #[t, u] }) (v xv : Value) (hs : a.eval s = v) (hx : a.eval x = xv) {v' : Value} {w' : World}
    (hr : (Builtin.append_ #[t, u] o.type #[v, xv]).run P w = .ok v' w') (h : K (a.put o.dst v') w') : o.wp P a w K Q := by
  unfold Oper.wp execOp
  simp only [ho, resolve, invoke, builtin, Sem.run_bind, Sem.run_pure, Result.andThen_ok, List.map_toArray, List.map_cons, List.map_nil, hs, hx, hr]
  exact h
theorem wpList_append2_eq {P : Program} {w : World} {ops : Array Oper} {rest : List Oper} {o : Oper} {a : Act} {Q : Exit → Act → World → Prop} (hgd : o.guard = none) (s x : Operand) (t u : TypeId)
    (ho : o.op = .call { callee := .builtin .append, args := #[s, x], argTypes := #[t, u] }) (v xv : Value) (hs : a.eval s = v) (hx : a.eval x = xv) {v' : Value} {w' : World}
    (hr : (Builtin.append_ #[t, u] o.type #[v, xv]).run P w = .ok v' w') (h : wpList P ops Q rest (a.put o.dst v') w') : wpList P ops Q (o :: rest) a w :=
  wpList_plain hgd fun _ hK => wp_append2_eq s x t u ho v xv hs hx hr (hK _ _ h)
theorem wpListIn_append2_eq {F : Fence} {n : Nat} {P : Program} {w : World} {ops : Array Oper} {rest : List Oper} {o : Oper} {a : Act} {Q : Exit → Act → World → Prop} (hgd : o.guard = none) (s x : Operand) (t u : TypeId)
    (ho : o.op = .call { callee := .builtin .append, args := #[s, x], argTypes := #[t, u] }) (v xv : Value) (hs : a.eval s = v) (hx : a.eval x = xv) {v' : Value} {w' : World}
    (hr : (Builtin.append_ #[t, u] o.type #[v, xv]).run P w = .ok v' w') (h : wpListIn F n P ops Q rest (a.put o.dst v') w') : wpListIn F n P ops Q (o :: rest) a w := by
  refine wpListIn_plain hgd fun K hK => ?_
  unfold Oper.wpIn
  refine ⟨?_, ?_⟩
  · simp [Oper.about, ho, resolve, Target.leads, Sem.run_pure]
  · rw [Oper.semAt_plain F _ _ (by rw [ho]; intro c hc'; cases hc')]
    simp [execOp, ho, resolve, invoke, builtin, hs, hx, hr, Result.andThen]
    exact hK _ _ h
end Go.Proofs.YtbcpeckmnmhfhaaGreat
