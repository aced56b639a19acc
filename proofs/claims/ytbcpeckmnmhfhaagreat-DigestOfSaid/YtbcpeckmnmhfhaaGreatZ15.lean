/- What the functions of package utf return on any bytes: uhead, unext, ufirst. No condition beyond that the argument reads as bytes. -/
import Derived.Test.YtbcpeckmnmhfhaaGreatZ01
import Derived.Test.YtbcpeckmnmhfhaaGreatZ12
namespace Go.Proofs.YtbcpeckmnmhfhaaGreat
open Go.RowKit
theorem u8_and192 : ∀ c : Fin 256, bits .and .u8 (c.val : Int) 192 = ((c.val / 64 * 64 : Nat) : Int) := by decide +kernel
theorem u8_andNot192 : ∀ c : Fin 256, bits .andNot .u8 (c.val : Int) 192 = ((c.val % 64 : Nat) : Int) := by decide +kernel
set_option maxRecDepth 100000 in
theorem utf_head (c : Nat) (hc : c < 256) (w : World) :
    Calls Tryz.prog 127 #[.int .u8 c] w fun e w' => e = .returned (.tuple #[.int .i64 (uhead c).1, .int .i32 (uhead c).2]) ∧ w = w' := by
  rcases uhead_cases c with ⟨h, e⟩ | ⟨h, h', e⟩ | ⟨h, h', e⟩ | ⟨h, h', e⟩ | ⟨h, e⟩
  · rw [e]; clear e
    go_enter Tryz.func127, Tryz.ntmps127
    go_wp2
    go_ret2
    exact ⟨rfl, rfl⟩
  · rw [e]; clear e
    have a1 := u8_and31 (x := (c : Int)) (by omega) (by omega)
    go_enter Tryz.func127, Tryz.ntmps127
    go_wp2
    go_ret2
    exact ⟨ret2 rfl (int_eq (by omega)), rfl⟩
  · rw [e]; clear e
    have a1 := u8_and15 (x := (c : Int)) (by omega) (by omega)
    go_enter Tryz.func127, Tryz.ntmps127
    go_wp2
    go_ret2
    exact ⟨ret2 rfl (int_eq (by omega)), rfl⟩
  · rw [e]; clear e
    have a1 := u8_and7 (x := (c : Int)) (by omega) (by omega)
    go_enter Tryz.func127, Tryz.ntmps127
    go_wp2
    go_ret2
    exact ⟨ret2 rfl (int_eq (by omega)), rfl⟩
  · rw [e]; clear e
    rcases h with h | h
    all_goals
      go_enter Tryz.func127, Tryz.ntmps127
      go_wp2
      go_ret2
      exact ⟨rfl, rfl⟩
set_option maxRecDepth 100000 in
theorem utf_least (n : Nat) (hn : n ≤ 4) (w : World) :
    Calls Tryz.prog 128 #[.int .i64 n] w fun e w' => e = .returned (.int .i32 (uleast n)) ∧ w = w' := by
  have i0 : ∀ w, (Instr.index 220 (.agg #[.int .i32 0, .int .i32 0, .int .i32 128, .int .i32 2048, .int .i32 65536]) (.int .i64 0)).run Tryz.prog w = .ok (.int .i32 0) w := fun _ => by kernel_rfl
  have i1 : ∀ w, (Instr.index 220 (.agg #[.int .i32 0, .int .i32 0, .int .i32 128, .int .i32 2048, .int .i32 65536]) (.int .i64 1)).run Tryz.prog w = .ok (.int .i32 0) w := fun _ => by kernel_rfl
  have i2 : ∀ w, (Instr.index 220 (.agg #[.int .i32 0, .int .i32 0, .int .i32 128, .int .i32 2048, .int .i32 65536]) (.int .i64 2)).run Tryz.prog w = .ok (.int .i32 128) w := fun _ => by kernel_rfl
  have i3 : ∀ w, (Instr.index 220 (.agg #[.int .i32 0, .int .i32 0, .int .i32 128, .int .i32 2048, .int .i32 65536]) (.int .i64 3)).run Tryz.prog w = .ok (.int .i32 2048) w := fun _ => by kernel_rfl
  have i4 : ∀ w, (Instr.index 220 (.agg #[.int .i32 0, .int .i32 0, .int .i32 128, .int .i32 2048, .int .i32 65536]) (.int .i64 4)).run Tryz.prog w = .ok (.int .i32 65536) w := fun _ => by kernel_rfl
  rcases (show n = 0 ∨ n = 1 ∨ n = 2 ∨ n = 3 ∨ n = 4 by omega) with rfl | rfl | rfl | rfl | rfl
  all_goals
    go_enter Tryz.func128, Tryz.ntmps128
    go_wp2
    go_ret
    exact ⟨rfl, rfl⟩
theorem uhead_bd (c : Nat) : (uhead c).2 < 128 := by
  rcases uhead_cases c with ⟨h, e⟩ | ⟨h, h', e⟩ | ⟨h, h', e⟩ | ⟨h, h', e⟩ | ⟨h, e⟩ <;> rw [e] <;> simp <;> omega
set_option maxRecDepth 100000 in
theorem utf_next {w : World} {v : Value} {l : List UInt8} (h : Bytes w v l) :
    Calls Tryz.prog 126 #[v] w fun e w' => e = .returned (.int .i64 (unext l)) ∧ w = w' := by
  obtain ⟨hlen, a, cap, rfl, -, -, -, hcell⟩ := h.open
  obtain ⟨n, HN⟩ : ∃ n, Hid (n = l.length) := ⟨_, rfl⟩
  rw [← HN.out] at hcell hlen h ⊢
  by_cases h0 : n = 0
  · subst h0
    have hu : Hid (unext l = 0) := by
      obtain rfl : l = [] := List.eq_nil_of_length_eq_zero HN.out.symm
      rfl
    go_enter Tryz.func126, Tryz.ntmps126
    go_wp2
    go_ret
    rw [hu.out]
    exact ⟨rfl, rfl⟩
  · have hz : ((n : Int) == 0) = false := by simp; omega
    have hpos : 0 < n := by omega
    obtain ⟨b, o, ha, hc0⟩ := hcell 0 hpos
    have hix := index_0 under_bytes size_u8 ha hpos (cap := cap)
    have HAA := hid ha
    obtain ⟨c, HC⟩ : ∃ c, Hid (c = (l.getD 0 0).toNat) := ⟨_, rfl⟩
    have hcb : c < 256 := by rw [HC.out]; exact (l.getD 0 0).toNat_lt
    rw [← HC.out] at hc0
    obtain ⟨m, r, HM, hm, hr⟩ : ∃ m r, Hid (uhead c = (m, r)) ∧ m ≤ 4 ∧ r < 128 := ⟨_, _, rfl, uhead_le c, uhead_bd c⟩
    have H0 := hid h0
    clear ha hcell h0
    simp only [Nat.add_zero] at hc0
    by_cases hm0 : m = 0 ∨ n < m
    · have hu : Hid (unext l = 0) := by
        cases l with
        | nil => rfl
        | cons c' t =>
          simp at HC
          have e := HC.out
          simp only [Hid, unext, ← e, HM.out]
          rw [if_pos (by rw [← HN.out]; exact hm0)]
      have hm0' : ((m : Int) == 0) = decide (m = 0) := by
        by_cases e : m = 0
        · subst e; rfl
        · simp [e]
      rcases hm0 with e | e
      · subst e
        clear hm0'
        go_enter Tryz.func126, Tryz.ntmps126
        go_wp2_with (go_at_call 127; refine (utf_head _ (by omega) _).mono ?_; rintro e w' ⟨rfl, rfl⟩; rw [HM.out])
        go_ret
        rw [hu.out]
        exact ⟨rfl, rfl⟩
      · clear hm0'
        have hm1 : ((m : Int) == 0) = false := by simp; omega
        go_enter Tryz.func126, Tryz.ntmps126
        go_wp2_with (go_at_call 127; refine (utf_head _ (by omega) _).mono ?_; rintro e w' ⟨rfl, rfl⟩; rw [HM.out])
        go_ret
        rw [hu.out]
        exact ⟨rfl, rfl⟩
    · have hm1 : ((m : Int) == 0) = false := by simp; omega
      have hmpos : 1 ≤ m := by omega
      have hmn : m ≤ n := by omega
      have hu : Hid (unext l = match ucont (m - 1) r (l.drop 1) with | none => 0 | some r => if ubad m r then 0 else m) := by
        cases l with
        | nil => simp at HN; have := HN.out; omega
        | cons c' t =>
          simp at HC
          have e := HC.out
          simp only [Hid, unext, ← e, HM.out]
          rw [if_neg (by rw [← HN.out]; exact hm0)]
          rfl
      have HM0 := hid hm0
      clear hm0
      obtain ⟨a', cap', hsl, hcs, -⟩ := h.cut HN.out 1 m hmpos hmn
      simp only [Int.natCast_one] at hsl
      have HCS := hid hcs
      clear hcs
      obtain ⟨q, HQ⟩ : ∃ q, Hid (q = m - 1) := ⟨_, rfl⟩
      rw [← HQ.out] at hsl
      have hq3 : q ≤ 3 := by rw [HQ.out]; omega
      go_enter Tryz.func126, Tryz.ntmps126
      go_wp2_with (go_at_call 127; refine (utf_head _ (by omega) _).mono ?_; rintro e w' ⟨rfl, rfl⟩; rw [HM.out])
      go_loop [4, 29] (fun v4 v29 => ∃ k x : Nat, k ≤ q ∧ x < 128 * 64 ^ k ∧ v4 = .int .i32 x ∧ v29 = .int .i64 k ∧ Hid (ucont (q - k) x (l.drop (1 + k)) = ucont q r (l.drop 1))) (fun _ v29 => q - (intOf v29).toNat)
      case atStart => exact ⟨0, r, by omega, by omega, rfl, rfl, rfl⟩
      case round =>
        obtain ⟨k, x, hk, hx, rfl, rfl, HX⟩ := hrel
        have hx2 : x < 128 * 64 ^ 3 := Nat.lt_of_lt_of_le hx (Nat.mul_le_mul_left _ (Nat.pow_le_pow_right (by omega) (by omega)))
        simp only [Nat.reducePow, Nat.reduceMul] at hx2
        by_cases hlt : k < q
        · have hcs := HCS.out
          obtain ⟨b2, o2, ha2, hc2⟩ := hcs k (by have := HQ.out; omega)
          clear hcs
          have hix2 := index_run1 under_bytes size_u8 ha2 k hlt (cap := cap')
          obtain ⟨d, HD⟩ : ∃ d, Hid (d = (l.getD (1 + k) 0).toNat) := ⟨_, rfl⟩
          have hdb : d < 256 := by rw [HD.out]; exact (l.getD (1 + k) 0).toNat_lt
          rw [← HD.out] at hc2
          have HA2 := hid ha2
          have hstep : Hid (ucont (q - k) x (l.drop (1 + k)) = if 128 ≤ d ∧ d < 192 then ucont (q - (k + 1)) (x * 64 + d % 64) (l.drop (1 + (k + 1))) else none) := by
            have e : q - k = (q - (k + 1)) + 1 := by omega
            have hkl : 1 + k < l.length := by rw [← HN.out]; have := HQ.out; omega
            rw [e, List.drop_eq_getElem_cons hkl, HD.out]
            simp only [Hid, ucont, List.getD, List.getElem?_eq_getElem hkl, Option.getD_some]
            rfl
          clear ha2
          have hx3 : x < 128 * 64 ^ 2 := Nat.lt_of_lt_of_le hx (Nat.mul_le_mul_left _ (Nat.pow_le_pow_right (by omega) (by omega)))
          simp only [Nat.reducePow, Nat.reduceMul] at hx3
          have HX0 := hid hx
          clear hx
          by_cases hct : 128 ≤ d ∧ d < 192
          · have hb1 : bits .and .u8 (d : Int) 192 = 128 := by rw [u8_and192 ⟨d, hdb⟩]; simp; omega
            have hb2 : bits .andNot .u8 (d : Int) 192 = ((d % 64 : Nat) : Int) := u8_andNot192 ⟨d, hdb⟩
            have hb3 := i32_or6 (x := (x : Int) * 64) (y := ((d % 64 : Nat) : Int)) (by omega) (by omega) (by omega) (by omega) (by omega)
            have hb4 : IntKind.i32.wrap ((d % 64 : Nat) : Int) = ((d % 64 : Nat) : Int) := by rw [IntKind.wrap_i32]; omega
            have HCT := hid hct
            clear hct
            go_wp2
            go_round
            case rel =>
              refine ⟨k + 1, x * 64 + d % 64, by omega, ?_, by first | go_num | exact int_eq (by omega), by go_num, ?_⟩
              · rw [Nat.pow_succ, ← Nat.mul_assoc]
                have := HX0.out
                omega
              · rw [← HX.out, hstep.out, if_pos HCT.out]; exact hid rfl
            case measure => simp [intOf]; omega
          · obtain ⟨y, hb1, hy⟩ : ∃ y : Nat, bits .and .u8 (d : Int) 192 = (y : Int) ∧ ((y : Int) == 128) = false := ⟨d / 64 * 64, u8_and192 ⟨d, hdb⟩, by simp; omega⟩
            have HCT := hid hct
            clear hct
            go_wp2
            go_ret
            refine ⟨ret1 (int_eq ?_), rfl⟩
            have e : unext l = 0 := by
              rw [hu.out, ← HQ.out, ← HX.out, hstep.out, if_neg HCT.out]
            rw [e]; rfl
        · obtain rfl : k = q := by omega
          have hu2 : Hid (unext l = if ubad m x then 0 else m) := by
            have := HX.out
            rw [Nat.sub_self] at this
            simp only [ucont] at this
            rw [Hid, hu.out, ← HQ.out, ← this]
          obtain ⟨lv, HLV⟩ : ∃ lv, Hid (lv = uleast m) := ⟨_, rfl⟩
          have hlv : lv ≤ 65536 := by
            rw [HLV.out]; unfold uleast; repeat' split
            all_goals omega
          have HUB : Hid (ubad m x = decide (x < lv ∨ 1114111 < x ∨ 55296 ≤ x ∧ x ≤ 57343)) := by rw [HLV.out]; rfl
          clear hx
          by_cases c1 : x < lv
          · have hv : Hid (unext l = 0) := by rw [Hid, hu2.out, HUB.out, if_pos (by simp [c1])]
            go_wp2_with (go_at_call 128; refine (utf_least _ (by omega) _).mono ?_; rintro e w' ⟨rfl, rfl⟩; rw [← HLV.out])
            go_ret
            rw [hv.out]
            exact ⟨rfl, rfl⟩
          · by_cases c2 : 1114111 < x
            · have hv : Hid (unext l = 0) := by rw [Hid, hu2.out, HUB.out, if_pos (by simp [c2])]
              go_wp2_with (go_at_call 128; refine (utf_least _ (by omega) _).mono ?_; rintro e w' ⟨rfl, rfl⟩; rw [← HLV.out])
              go_ret
              rw [hv.out]
              exact ⟨rfl, rfl⟩
            · by_cases c3 : 55296 ≤ x
              · by_cases c4 : x ≤ 57343
                · have hv : Hid (unext l = 0) := by rw [Hid, hu2.out, HUB.out, if_pos (by simp [c3, c4])]
                  go_wp2_with (go_at_call 128; refine (utf_least _ (by omega) _).mono ?_; rintro e w' ⟨rfl, rfl⟩; rw [← HLV.out])
                  go_ret
                  rw [hv.out]
                  exact ⟨rfl, rfl⟩
                · have hv : Hid (unext l = m) := by rw [Hid, hu2.out, HUB.out, if_neg (by simp; omega)]
                  go_wp2_with (go_at_call 128; refine (utf_least _ (by omega) _).mono ?_; rintro e w' ⟨rfl, rfl⟩; rw [← HLV.out])
                  go_ret
                  rw [hv.out]
                  exact ⟨rfl, rfl⟩
              · have hv : Hid (unext l = m) := by rw [Hid, hu2.out, HUB.out, if_neg (by simp; omega)]
                go_wp2_with (go_at_call 128; refine (utf_least _ (by omega) _).mono ?_; rintro e w' ⟨rfl, rfl⟩; rw [← HLV.out])
                go_ret
                rw [hv.out]
                exact ⟨rfl, rfl⟩
set_option maxRecDepth 100000 in
theorem utf_walk {w : World} {v : Value} {l : List UInt8} (h : Bytes w v l) :
    Calls Tryz.prog 124 #[v, .int .i64 l.length] w fun e w' => (∃ k : Nat, e = .returned (.tuple #[.int .i64 (ufirst l), .int .i64 k])) ∧ w = w' := by
  obtain ⟨hlen, a, cap, rfl, -, -, -, -⟩ := h.open
  obtain ⟨n, HN⟩ : ∃ n, Hid (n = l.length) := ⟨_, rfl⟩
  rw [← HN.out] at hlen h ⊢
  go_enter Tryz.func124, Tryz.ntmps124
  go_wp2
  go_loop [6, 7] (fun v6 v7 => ∃ k x : Nat, k ≤ n ∧ x ≤ k ∧ v6 = .int .i64 k ∧ v7 = .int .i64 x ∧ Hid (k + ufirst (l.drop k) = ufirst l)) (fun v6 _ => n - (intOf v6).toNat)
  case atStart => exact ⟨0, 0, by omega, by omega, rfl, rfl, by simp [Hid]⟩
  case round =>
    obtain ⟨k, x, hk, hx, rfl, rfl, HK⟩ := hrel
    obtain ⟨v', hsl, hv'⟩ := h.l HN.out k hk
    obtain ⟨m, HM⟩ : ∃ m, Hid (m = unext (l.drop k)) := ⟨_, rfl⟩
    have hm : k + m ≤ n := by
      have := (unext_le (l.drop k)).1
      rw [List.length_drop, ← HN.out, ← HM.out] at this
      omega
    have hs := ufirst_step (l.drop k)
    rw [← HM.out] at hs
    have HS := hid hs
    clear hs
    by_cases hm0 : m = 0
    · subst hm0
      go_wp2_with (go_at_call 126; refine (utf_next hv').mono ?_; rintro e w' ⟨rfl, rfl⟩; rw [← HM.out])
      refine bodyPost_ret (v := .tuple #[.int .i64 k, .int .i64 x]) (by simp [results, Tryz.results124, go_sem]) rfl ⟨⟨x, ?_⟩, rfl⟩
      have e : ufirst l = k := by rw [← HK.out, HS.out]; simp
      rw [e]
    · have hm1 : ((m : Int) == 0) = false := by simp; omega
      have HM0 := hid hm0
      have hmp : 0 < m := by omega
      clear hm0
      go_wp2_with (go_at_call 126; refine (utf_next hv').mono ?_; rintro e w' ⟨rfl, rfl⟩; rw [← HM.out])
      go_round
      case rel =>
        refine ⟨k + m, x + 1, by omega, by omega, by go_num, by go_num, ?_⟩
        rw [← HK.out, HS.out, if_neg HM0.out, List.drop_drop, Nat.add_assoc]
        exact hid rfl
      case measure => simp [intOf]; omega
set_option maxRecDepth 100000 in
theorem utf_First {w : World} {v : Value} {l : List UInt8} (h : Bytes w v l) :
    Calls Tryz.prog 117 #[v] w fun e w' => e = .returned (.int .i64 (ufirst l)) ∧ w = w' := by
  obtain ⟨hlen, a, cap, rfl, -, -, -, -⟩ := h.open
  go_enter Tryz.func117, Tryz.ntmps117
  go_wp2_with (go_at_call 124; refine (utf_walk h).mono ?_; rintro e w' ⟨⟨k, rfl⟩, rfl⟩)
  go_ret
  exact ⟨rfl, rfl⟩
set_option maxRecDepth 100000 in
theorem utf_Right {w : World} {v : Value} {l : List UInt8} (h : Bytes w v l) :
    Calls Tryz.prog 103 #[v] w fun e w' => e = .returned (.bool (decide (ufirst l = l.length))) ∧ w = w' := by
  obtain ⟨hlen, a, cap, rfl, -, -, -, -⟩ := h.open
  go_enter Tryz.func103, Tryz.ntmps103
  go_wp2_with (go_at_call 117; refine (utf_First h).mono ?_; rintro e w' ⟨rfl, rfl⟩)
  go_ret
  refine ⟨ret1 ?_, rfl⟩
  show Value.bool ((ufirst l : Int) == (l.length : Int)) = _
  congr 1
  rw [Bool.eq_iff_iff]
  simp
  omega
end Go.Proofs.YtbcpeckmnmhfhaaGreat
