/- What the functions of package utf return on any bytes: uhead, unext, ufirst. No condition beyond that the argument reads as bytes. What the document's functions on code points return on any bytes: uput, unext, ufirst. No condition beyond that the argument reads as bytes and the place is no more than their number. What the document's First and Right of texts return on any bytes: ufirst. No condition beyond that the argument reads as bytes. What the checker's value and message return: vval, vfrom. The schema is right; bytes and places within reach. varint.Put and darningref02.Put: vput. The canonical words of a number's kind: bits.Low32, Sign32, Wide32, darningref01.Wide, Sign32, kind.Canon, darningref06.Canon: kcanon. -/
import Derived.Test.YtphkmpnahnakaaaZ01
import Derived.Test.YtphkmpnahnakaaaZ07
import Derived.Test.YtphkmpnahnakaaaZ09
import Derived.Test.YtphkmpnahnakaaaZ11
import Derived.Deep.RegionWith
import Derived.BigRegion
import Derived.StillTailTactics
import Derived.Deep.RegionHeld3
import Derived.IntWalk
namespace Go.Proofs.Ytphkmpnahnakaaa
open Go.RowKit
theorem u8_and192 : ∀ c : Fin 256, bits .and .u8 (c.val : Int) 192 = ((c.val / 64 * 64 : Nat) : Int) := by decide +kernel
theorem u8_andNot192 : ∀ c : Fin 256, bits .andNot .u8 (c.val : Int) 192 = ((c.val % 64 : Nat) : Int) := by decide +kernel
set_option maxRecDepth 100000 in
theorem utf_head (c : Nat) (hc : c < 256) (w : World) :
    Calls Try.prog 96 #[.int .u8 c] w fun e w' => e = .returned (.tuple #[.int .i64 (uhead c).1, .int .i32 (uhead c).2]) ∧ w = w' := by
  rcases uhead_cases c with ⟨h, e⟩ | ⟨h, h', e⟩ | ⟨h, h', e⟩ | ⟨h, h', e⟩ | ⟨h, e⟩
  · rw [e]; clear e
    go_enter Try.func96, Try.ntmps96
    go_wp2
    go_ret2
    exact ⟨rfl, rfl⟩
  · rw [e]; clear e
    have a1 := u8_and31 (x := (c : Int)) (by omega) (by omega)
    go_enter Try.func96, Try.ntmps96
    go_wp2
    go_ret2
    exact ⟨ret2 rfl (int_eq (by omega)), rfl⟩
  · rw [e]; clear e
    have a1 := u8_and15 (x := (c : Int)) (by omega) (by omega)
    go_enter Try.func96, Try.ntmps96
    go_wp2
    go_ret2
    exact ⟨ret2 rfl (int_eq (by omega)), rfl⟩
  · rw [e]; clear e
    have a1 := u8_and7 (x := (c : Int)) (by omega) (by omega)
    go_enter Try.func96, Try.ntmps96
    go_wp2
    go_ret2
    exact ⟨ret2 rfl (int_eq (by omega)), rfl⟩
  · rw [e]; clear e
    rcases h with h | h
    all_goals
      go_enter Try.func96, Try.ntmps96
      go_wp2
      go_ret2
      exact ⟨rfl, rfl⟩
set_option maxRecDepth 100000 in
theorem utf_least (n : Nat) (hn : n ≤ 4) (w : World) :
    Calls Try.prog 97 #[.int .i64 n] w fun e w' => e = .returned (.int .i32 (uleast n)) ∧ w = w' := by
  have i0 : ∀ w, (Instr.index 166 (.agg #[.int .i32 0, .int .i32 0, .int .i32 128, .int .i32 2048, .int .i32 65536]) (.int .i64 0)).run Try.prog w = .ok (.int .i32 0) w := fun _ => by kernel_rfl
  have i1 : ∀ w, (Instr.index 166 (.agg #[.int .i32 0, .int .i32 0, .int .i32 128, .int .i32 2048, .int .i32 65536]) (.int .i64 1)).run Try.prog w = .ok (.int .i32 0) w := fun _ => by kernel_rfl
  have i2 : ∀ w, (Instr.index 166 (.agg #[.int .i32 0, .int .i32 0, .int .i32 128, .int .i32 2048, .int .i32 65536]) (.int .i64 2)).run Try.prog w = .ok (.int .i32 128) w := fun _ => by kernel_rfl
  have i3 : ∀ w, (Instr.index 166 (.agg #[.int .i32 0, .int .i32 0, .int .i32 128, .int .i32 2048, .int .i32 65536]) (.int .i64 3)).run Try.prog w = .ok (.int .i32 2048) w := fun _ => by kernel_rfl
  have i4 : ∀ w, (Instr.index 166 (.agg #[.int .i32 0, .int .i32 0, .int .i32 128, .int .i32 2048, .int .i32 65536]) (.int .i64 4)).run Try.prog w = .ok (.int .i32 65536) w := fun _ => by kernel_rfl
  rcases (show n = 0 ∨ n = 1 ∨ n = 2 ∨ n = 3 ∨ n = 4 by omega) with rfl | rfl | rfl | rfl | rfl
  all_goals
    go_enter Try.func97, Try.ntmps97
    go_wp2
    go_ret
    exact ⟨rfl, rfl⟩
theorem uhead_bd (c : Nat) : (uhead c).2 < 128 := by
  rcases uhead_cases c with ⟨h, e⟩ | ⟨h, h', e⟩ | ⟨h, h', e⟩ | ⟨h, h', e⟩ | ⟨h, e⟩ <;> rw [e] <;> simp <;> omega
set_option maxRecDepth 100000 in
theorem utf_next {w : World} {v : Value} {l : List UInt8} (h : Bytes w v l) :
    Calls Try.prog 95 #[v] w fun e w' => e = .returned (.int .i64 (unext l)) ∧ w = w' := by
  obtain ⟨hlen, a, cap, rfl, -, -, -, hcell⟩ := h.open
  obtain ⟨n, HN⟩ : ∃ n, Hid (n = l.length) := ⟨_, rfl⟩
  rw [← HN.out] at hcell hlen h ⊢
  by_cases h0 : n = 0
  · subst h0
    have hu : Hid (unext l = 0) := by
      obtain rfl : l = [] := List.eq_nil_of_length_eq_zero HN.out.symm
      rfl
    go_enter Try.func95, Try.ntmps95
    go_wp2
    go_ret
    rw [hu.out]
    exact ⟨rfl, rfl⟩
  · have hz : ((n : Int) == 0) = false := by simp; omega
    have hpos : 0 < n := by omega
    obtain ⟨b, o, ha, hc0⟩ := hcell 0 hpos
    have hix := index_0 under_bytes size_u8 ha hpos (cap := cap)
    have HAA := hid ha
    obtain ⟨c, HC⟩ : ∃ c, Hid (c = (l.getD 0 0).toNat) := ⟨_, rfl⟩
    have hcb : c < 256 := by rw [HC.out]; exact (l.getD 0 0).toNat_lt
    rw [← HC.out] at hc0
    obtain ⟨m, r, HM, hm, hr⟩ : ∃ m r, Hid (uhead c = (m, r)) ∧ m ≤ 4 ∧ r < 128 := ⟨_, _, rfl, uhead_le c, uhead_bd c⟩
    have H0 := hid h0
    clear ha hcell h0
    simp only [Nat.add_zero] at hc0
    by_cases hm0 : m = 0 ∨ n < m
    · have hu : Hid (unext l = 0) := by
        cases l with
        | nil => rfl
        | cons c' t =>
          simp at HC
          have e := HC.out
          simp only [Hid, unext, ← e, HM.out]
          rw [if_pos (by rw [← HN.out]; exact hm0)]
      have hm0' : ((m : Int) == 0) = decide (m = 0) := by
        by_cases e : m = 0
        · subst e; rfl
        · simp [e]
      rcases hm0 with e | e
      · subst e
        clear hm0'
        go_enter Try.func95, Try.ntmps95
        go_wp2_with (go_at_call 96; refine (utf_head _ (by omega) _).mono ?_; rintro e w' ⟨rfl, rfl⟩; rw [HM.out])
        go_ret
        rw [hu.out]
        exact ⟨rfl, rfl⟩
      · clear hm0'
        have hm1 : ((m : Int) == 0) = false := by simp; omega
        go_enter Try.func95, Try.ntmps95
        go_wp2_with (go_at_call 96; refine (utf_head _ (by omega) _).mono ?_; rintro e w' ⟨rfl, rfl⟩; rw [HM.out])
        go_ret
        rw [hu.out]
        exact ⟨rfl, rfl⟩
    · have hm1 : ((m : Int) == 0) = false := by simp; omega
      have hmpos : 1 ≤ m := by omega
      have hmn : m ≤ n := by omega
      have hu : Hid (unext l = match ucont (m - 1) r (l.drop 1) with | none => 0 | some r => if ubad m r then 0 else m) := by
        cases l with
        | nil => simp at HN; have := HN.out; omega
        | cons c' t =>
          simp at HC
          have e := HC.out
          simp only [Hid, unext, ← e, HM.out]
          rw [if_neg (by rw [← HN.out]; exact hm0)]
          rfl
      have HM0 := hid hm0
      clear hm0
      obtain ⟨a', cap', hsl, hcs, -⟩ := h.cut HN.out 1 m hmpos hmn
      simp only [Int.natCast_one] at hsl
      have HCS := hid hcs
      clear hcs
      obtain ⟨q, HQ⟩ : ∃ q, Hid (q = m - 1) := ⟨_, rfl⟩
      rw [← HQ.out] at hsl
      have hq3 : q ≤ 3 := by rw [HQ.out]; omega
      go_enter Try.func95, Try.ntmps95
      go_wp2_with (go_at_call 96; refine (utf_head _ (by omega) _).mono ?_; rintro e w' ⟨rfl, rfl⟩; rw [HM.out])
      go_loop [4, 29] (fun v4 v29 => ∃ k x : Nat, k ≤ q ∧ x < 128 * 64 ^ k ∧ v4 = .int .i32 x ∧ v29 = .int .i64 k ∧ Hid (ucont (q - k) x (l.drop (1 + k)) = ucont q r (l.drop 1))) (fun _ v29 => q - (intOf v29).toNat)
      case atStart => exact ⟨0, r, by omega, by omega, rfl, rfl, rfl⟩
      case round =>
        obtain ⟨k, x, hk, hx, rfl, rfl, HX⟩ := hrel
        have hx2 : x < 128 * 64 ^ 3 := Nat.lt_of_lt_of_le hx (Nat.mul_le_mul_left _ (Nat.pow_le_pow_right (by omega) (by omega)))
        simp only [Nat.reducePow, Nat.reduceMul] at hx2
        by_cases hlt : k < q
        · have hcs := HCS.out
          obtain ⟨b2, o2, ha2, hc2⟩ := hcs k (by have := HQ.out; omega)
          clear hcs
          have hix2 := index_run1 under_bytes size_u8 ha2 k hlt (cap := cap')
          obtain ⟨d, HD⟩ : ∃ d, Hid (d = (l.getD (1 + k) 0).toNat) := ⟨_, rfl⟩
          have hdb : d < 256 := by rw [HD.out]; exact (l.getD (1 + k) 0).toNat_lt
          rw [← HD.out] at hc2
          have HA2 := hid ha2
          have hstep : Hid (ucont (q - k) x (l.drop (1 + k)) = if 128 ≤ d ∧ d < 192 then ucont (q - (k + 1)) (x * 64 + d % 64) (l.drop (1 + (k + 1))) else none) := by
            have e : q - k = (q - (k + 1)) + 1 := by omega
            have hkl : 1 + k < l.length := by rw [← HN.out]; have := HQ.out; omega
            rw [e, List.drop_eq_getElem_cons hkl, HD.out]
            simp only [Hid, ucont, List.getD, List.getElem?_eq_getElem hkl, Option.getD_some]
            rfl
          clear ha2
          have hx3 : x < 128 * 64 ^ 2 := Nat.lt_of_lt_of_le hx (Nat.mul_le_mul_left _ (Nat.pow_le_pow_right (by omega) (by omega)))
          simp only [Nat.reducePow, Nat.reduceMul] at hx3
          have HX0 := hid hx
          clear hx
          by_cases hct : 128 ≤ d ∧ d < 192
          · have hb1 : bits .and .u8 (d : Int) 192 = 128 := by rw [u8_and192 ⟨d, hdb⟩]; simp; omega
            have hb2 : bits .andNot .u8 (d : Int) 192 = ((d % 64 : Nat) : Int) := u8_andNot192 ⟨d, hdb⟩
            have hb3 := i32_or6 (x := (x : Int) * 64) (y := ((d % 64 : Nat) : Int)) (by omega) (by omega) (by omega) (by omega) (by omega)
            have hb4 : IntKind.i32.wrap ((d % 64 : Nat) : Int) = ((d % 64 : Nat) : Int) := by rw [IntKind.wrap_i32]; omega
            have HCT := hid hct
            clear hct
            go_wp2
            go_round
            case rel =>
              refine ⟨k + 1, x * 64 + d % 64, by omega, ?_, by first | go_num | exact int_eq (by omega), by go_num, ?_⟩
              · rw [Nat.pow_succ, ← Nat.mul_assoc]
                have := HX0.out
                omega
              · rw [← HX.out, hstep.out, if_pos HCT.out]; exact hid rfl
            case measure => simp [intOf]; omega
          · obtain ⟨y, hb1, hy⟩ : ∃ y : Nat, bits .and .u8 (d : Int) 192 = (y : Int) ∧ ((y : Int) == 128) = false := ⟨d / 64 * 64, u8_and192 ⟨d, hdb⟩, by simp; omega⟩
            have HCT := hid hct
            clear hct
            go_wp2
            go_ret
            refine ⟨ret1 (int_eq ?_), rfl⟩
            have e : unext l = 0 := by
              rw [hu.out, ← HQ.out, ← HX.out, hstep.out, if_neg HCT.out]
            rw [e]; rfl
        · obtain rfl : k = q := by omega
          have hu2 : Hid (unext l = if ubad m x then 0 else m) := by
            have := HX.out
            rw [Nat.sub_self] at this
            simp only [ucont] at this
            rw [Hid, hu.out, ← HQ.out, ← this]
          obtain ⟨lv, HLV⟩ : ∃ lv, Hid (lv = uleast m) := ⟨_, rfl⟩
          have hlv : lv ≤ 65536 := by
            rw [HLV.out]; unfold uleast; repeat' split
            all_goals omega
          have HUB : Hid (ubad m x = decide (x < lv ∨ 1114111 < x ∨ 55296 ≤ x ∧ x ≤ 57343)) := by rw [HLV.out]; rfl
          clear hx
          by_cases c1 : x < lv
          · have hv : Hid (unext l = 0) := by rw [Hid, hu2.out, HUB.out, if_pos (by simp [c1])]
            go_wp2_with (go_at_call 97; refine (utf_least _ (by omega) _).mono ?_; rintro e w' ⟨rfl, rfl⟩; rw [← HLV.out])
            go_ret
            rw [hv.out]
            exact ⟨rfl, rfl⟩
          · by_cases c2 : 1114111 < x
            · have hv : Hid (unext l = 0) := by rw [Hid, hu2.out, HUB.out, if_pos (by simp [c2])]
              go_wp2_with (go_at_call 97; refine (utf_least _ (by omega) _).mono ?_; rintro e w' ⟨rfl, rfl⟩; rw [← HLV.out])
              go_ret
              rw [hv.out]
              exact ⟨rfl, rfl⟩
            · by_cases c3 : 55296 ≤ x
              · by_cases c4 : x ≤ 57343
                · have hv : Hid (unext l = 0) := by rw [Hid, hu2.out, HUB.out, if_pos (by simp [c3, c4])]
                  go_wp2_with (go_at_call 97; refine (utf_least _ (by omega) _).mono ?_; rintro e w' ⟨rfl, rfl⟩; rw [← HLV.out])
                  go_ret
                  rw [hv.out]
                  exact ⟨rfl, rfl⟩
                · have hv : Hid (unext l = m) := by rw [Hid, hu2.out, HUB.out, if_neg (by simp; omega)]
                  go_wp2_with (go_at_call 97; refine (utf_least _ (by omega) _).mono ?_; rintro e w' ⟨rfl, rfl⟩; rw [← HLV.out])
                  go_ret
                  rw [hv.out]
                  exact ⟨rfl, rfl⟩
              · have hv : Hid (unext l = m) := by rw [Hid, hu2.out, HUB.out, if_neg (by simp; omega)]
                go_wp2_with (go_at_call 97; refine (utf_least _ (by omega) _).mono ?_; rintro e w' ⟨rfl, rfl⟩; rw [← HLV.out])
                go_ret
                rw [hv.out]
                exact ⟨rfl, rfl⟩
set_option maxRecDepth 100000 in
theorem utf_walk {w : World} {v : Value} {l : List UInt8} (h : Bytes w v l) :
    Calls Try.prog 94 #[v, .int .i64 l.length] w fun e w' => (∃ k : Nat, e = .returned (.tuple #[.int .i64 (ufirst l), .int .i64 k])) ∧ w = w' := by
  obtain ⟨hlen, a, cap, rfl, -, -, -, -⟩ := h.open
  obtain ⟨n, HN⟩ : ∃ n, Hid (n = l.length) := ⟨_, rfl⟩
  rw [← HN.out] at hlen h ⊢
  go_enter Try.func94, Try.ntmps94
  go_wp2
  go_loop [6, 7] (fun v6 v7 => ∃ k x : Nat, k ≤ n ∧ x ≤ k ∧ v6 = .int .i64 k ∧ v7 = .int .i64 x ∧ Hid (k + ufirst (l.drop k) = ufirst l)) (fun v6 _ => n - (intOf v6).toNat)
  case atStart => exact ⟨0, 0, by omega, by omega, rfl, rfl, by simp [Hid]⟩
  case round =>
    obtain ⟨k, x, hk, hx, rfl, rfl, HK⟩ := hrel
    obtain ⟨v', hsl, hv'⟩ := h.l HN.out k hk
    obtain ⟨m, HM⟩ : ∃ m, Hid (m = unext (l.drop k)) := ⟨_, rfl⟩
    have hm : k + m ≤ n := by
      have := (unext_le (l.drop k)).1
      rw [List.length_drop, ← HN.out, ← HM.out] at this
      omega
    have hs := ufirst_step (l.drop k)
    rw [← HM.out] at hs
    have HS := hid hs
    clear hs
    by_cases hm0 : m = 0
    · subst hm0
      go_wp2_with (go_at_call 95; refine (utf_next hv').mono ?_; rintro e w' ⟨rfl, rfl⟩; rw [← HM.out])
      refine bodyPost_ret (v := .tuple #[.int .i64 k, .int .i64 x]) (by simp [results, Try.results94, go_sem]) rfl ⟨⟨x, ?_⟩, rfl⟩
      have e : ufirst l = k := by rw [← HK.out, HS.out]; simp
      rw [e]
    · have hm1 : ((m : Int) == 0) = false := by simp; omega
      have HM0 := hid hm0
      have hmp : 0 < m := by omega
      clear hm0
      go_wp2_with (go_at_call 95; refine (utf_next hv').mono ?_; rintro e w' ⟨rfl, rfl⟩; rw [← HM.out])
      go_round
      case rel =>
        refine ⟨k + m, x + 1, by omega, by omega, by go_num, by go_num, ?_⟩
        rw [← HK.out, HS.out, if_neg HM0.out, List.drop_drop, Nat.add_assoc]
        exact hid rfl
      case measure => simp [intOf]; omega
set_option maxRecDepth 100000 in
theorem utf_First {w : World} {v : Value} {l : List UInt8} (h : Bytes w v l) :
    Calls Try.prog 85 #[v] w fun e w' => e = .returned (.int .i64 (ufirst l)) ∧ w = w' := by
  obtain ⟨hlen, a, cap, rfl, -, -, -, -⟩ := h.open
  go_enter Try.func85, Try.ntmps85
  go_wp2_with (go_at_call 94; refine (utf_walk h).mono ?_; rintro e w' ⟨⟨k, rfl⟩, rfl⟩)
  go_ret
  exact ⟨rfl, rfl⟩
set_option maxRecDepth 100000 in
theorem utf_Right {w : World} {v : Value} {l : List UInt8} (h : Bytes w v l) :
    Calls Try.prog 75 #[v] w fun e w' => e = .returned (.bool (decide (ufirst l = l.length))) ∧ w = w' := by
  obtain ⟨hlen, a, cap, rfl, -, -, -, -⟩ := h.open
  go_enter Try.func75, Try.ntmps75
  go_wp2_with (go_at_call 85; refine (utf_First h).mono ?_; rintro e w' ⟨rfl, rfl⟩)
  go_ret
  refine ⟨ret1 ?_, rfl⟩
  show Value.bool ((ufirst l : Int) == (l.length : Int)) = _
  congr 1
  rw [Bool.eq_iff_iff]
  simp
  omega
end Go.Proofs.Ytphkmpnahnakaaa
namespace Go.Proofs.Ytphkmpnahnakaaa
open Go.RowKit
end Go.Proofs.Ytphkmpnahnakaaa
namespace Go.Proofs.Ytphkmpnahnakaaa
open Go.RowKit
end Go.Proofs.Ytphkmpnahnakaaa
namespace Go.Proofs.Ytphkmpnahnakaaa
open Go.RowKit
theorem getD_mem {α : Type} (l : List α) (z : α) {k : Nat} (hk : k < l.length) : l.getD k z ∈ l := by
  have : l.getD k z = l[k] := by simp [List.getD, hk]
  rw [this]; exact List.getElem_mem hk
theorem grown_below' {w w1 w2 : World} (h : Below w.heap.size w w1) {r : Option Nat} (hg : w1.grownBy w2 r) : w.grownBy w2 r :=
  ⟨hg.os.trans h.os, hg.tape.trans h.tape, hg.output.trans h.output, Nat.le_trans h.size hg.size, fun k hk hr => (hg.block k (Nat.lt_of_lt_of_le hk h.size) hr).trans (h.block k hk)⟩
/-- The checker's own block, and that nothing older has turned. -/
structure Chk (w0 : World) (cb : Nat) (sv : Value) (w : World) : Prop where
  le : w0.heap.size ≤ cb
  below : Below w0.heap.size w0 w
  blk : ∃ dd : Int, Blk w cb [sv, .int .i64 dd] 92
theorem Chk.later {w0 : World} {cb : Nat} {sv : Value} {w w' : World} (h : Chk w0 cb sv w) (hb : Below w.heap.size w w') : Chk w0 cb sv w' :=
  ⟨h.le, h.below.trans (hb.mono h.below.size), let ⟨dd, hd⟩ := h.blk; ⟨dd, hd.below hb⟩⟩
/-- The contract of message at a depth still allowed. -/
def MsgC (w0 : World) (cb : Nat) (sv : Value) (s : List Mes) (d : Nat) : Prop :=
  ∀ (m depth fr : Nat) (zf zd zm : Int) (w : World) (v : Value) (l : List UInt8), zf = fr → zd = depth → zm = depth + d → m < s.length → Chk w0 cb sv w → Bytes w0 v l → fr + l.length ≤ 140737488355328 → depth + d ≤ 1000 →
    Calls Try.prog 40 #[.pointer (some ⟨cb, 0, none⟩), .int .i64 m, v, .int .i64 zf, .int .i64 zd, .int .i64 zm] w fun e w' =>
      e = .returned (.tuple #[.int .i64 (if (vmsg s d m l).2 = 0 then 0 else fr + (vmsg s d m l).1 : Nat), .int .u8 (vmsg s d m l).2]) ∧ Chk w0 cb sv w' ∧ w.grownBy w' (some cb)
/-- What value returns. -/
def ValP (w0 : World) (cb : Nat) (sv : Value) (fr : Nat) (x : Nat × Nat) (w : World) (e : Ending) (w' : World) : Prop :=
  (∃ p : Nat, e = .returned (.tuple #[.int .i64 p, .int .u8 x.2]) ∧ (x.2 ≠ 0 → p = fr + x.1)) ∧ Chk w0 cb sv w' ∧ w.grownBy w' (some cb)
set_option maxRecDepth 100000 in
set_option maxHeartbeats 4000000 in
theorem valid_value_unknown {w0 w : World} {cb : Nat} {sv v : Value} (m depth fr : Nat) (r : Rec) (hC : Chk w0 cb sv w) (most : Int) :
    Calls Try.prog 59 #[.pointer (some ⟨cb, 0, none⟩), .int .i64 m, viewV r (-1) false, v, .int .i64 fr, .int .i64 depth, .int .i64 most] w
      (ValP w0 cb sv fr (0, 0) w) := by
  go_enter Try.func59, Try.ntmps59
  unfold viewV
  go_wp2
  go_ret2
  refine ⟨⟨0, rfl, fun h => absurd rfl h⟩, hC.later ((Below.refl _ _).alloc (Nat.le_refl _) _), (World.grownBy_alloc _ _ _)⟩
set_option maxRecDepth 100000 in
set_option maxHeartbeats 4000000 in
theorem valid_value_known {w0 w : World} {cb : Nat} {sv v : Value} {s : List Mes} (hS : SchemaAt w0 sv s) (hs : sright s = true) (d m depth fr : Nat) (hm : m < s.length) {l : List UInt8} (hv : Bytes w0 v l)
    (hl : fr + l.length ≤ 140737488355328) (hd : depth + d ≤ 1000) (hrec : d ≠ 0 → MsgC w0 cb sv s (d - 1)) (r : Rec) (h1 : r.start < r.at') (h2 : r.at' ≤ r.to) (h3 : r.to ≤ l.length)
    (k : Nat) (hk : k < (s.getD m .zero).fields.length) (run : Bool) (hrun : run = true → knumber ((s.getD m .zero).fields.getD k .zero).kind = true) (hC : Chk w0 cb sv w) :
    Calls Try.prog 59 #[.pointer (some ⟨cb, 0, none⟩), .int .i64 m, viewV r k run, v, .int .i64 fr, .int .i64 depth, .int .i64 ((depth : Int) + (d : Int))] w
      (ValP w0 cb sv fr (vval (vrec s d) (decide (d = 0)) (s.getD m .zero).fields l (r, (k : Int), run, 0)) w) := by
  obtain ⟨dd, hblk⟩ := hC.blk
  obtain ⟨hslen, sa, scap, rfl, hat⟩ := hS.open
  obtain ⟨sb, so, fv, rfl, hnm, c0, c1, hfat⟩ := hat m hm
  clear hat
  obtain ⟨hflen, fa, fcap, rfl, hf⟩ := hfat.open
  obtain ⟨fb, fo, rfl, hok, g0, g1, g2, g3, g4, g5⟩ := hf k hk
  clear hf
  obtain ⟨f, HF⟩ : ∃ f, Hid (f = (s.getD m .zero).fields.getD k .zero) := ⟨_, rfl⟩
  rw [← HF.out] at hok g0 g1 g2 g3 g4 g5 hrun
  have hof := sright_field hs m hm f (by rw [HF.out]; exact getD_mem _ _ hk)
  obtain ⟨n, HN⟩ : ∃ n, Hid (n = (s.getD m .zero).fields.length) := ⟨_, rfl⟩
  rw [← HN.out] at hk hflen c1
  obtain ⟨sn, HSN⟩ : ∃ sn, Hid (sn = s.length) := ⟨_, rfl⟩
  rw [← HSN.out] at hslen hm hblk
  obtain ⟨hvl, va, vcap, rfl, -, -, -, -⟩ := hv.open
  obtain ⟨ln, HL⟩ : ∃ ln, Hid (ln = l.length) := ⟨_, rfl⟩
  rw [← HL.out] at hv hl h3 hvl ⊢
  obtain ⟨pa, pcap, hps, -, hpb⟩ := hv.cut HL.out r.at' r.to h2 h3
  obtain ⟨f1, f2, f3, f4, f5, f6⟩ := f
  simp only at g0 g1 g2 g3 g4 g5 hof hrun
  have hk0 := below_keeps hC.below
  replace c1 := hk0 _ _ c1
  replace g0 := hk0 _ _ g0
  replace g1 := hk0 _ _ g1
  replace g2 := hk0 _ _ g2
  replace g3 := hk0 _ _ g3
  replace g4 := hk0 _ _ g4
  replace g5 := hk0 _ _ g5
  clear hk0 c0
  have l1 := World.block_lt_of_cell? w _ c1
  have l2 := World.block_lt_of_cell? w _ g1
  have k0 := hblk.cell 0 _ rfl
  have lb := hblk.lt
  simp only at l1 l2
  obtain ⟨r1, r2, r3, r4, r5⟩ := r
  simp only at h1 h2 h3 hps hpb
  have hval : vval (vrec s d) (decide (d = 0)) (s.getD m .zero).fields l (⟨r1, r2, r3, r4, r5⟩, (k : Int), run, 0) =
      if run = true then (r3, (runCount (kwire f3) (part l r4 r5)).2) else
      if f3 = 15 then (if ufirst (part l r4 r5) = (part l r4 r5).length then (0, 0) else (r3, 7)) else
      if f3 = 17 then (if decide (d = 0) = true then (r3, 8) else (r4 + (vrec s d f6.toNat (part l r4 r5)).1, (vrec s d f6.toNat (part l r4 r5)).2)) else (0, 0) := by
    unfold vval
    rw [if_neg (by show ¬ ((k : Int) < 0); omega)]
    simp only [Int.toNat_natCast]
    rw [← HF.out]
  obtain ⟨x, HX⟩ : ∃ x, Hid (x = vval (vrec s d) (decide (d = 0)) (s.getD m .zero).fields l (⟨r1, r2, r3, r4, r5⟩, (k : Int), run, 0)) := ⟨_, rfl⟩
  rw [← HX.out] at hval ⊢
  have HVAL := hid hval
  clear hval HX
  unfold viewV
  go_enter Try.func59, Try.ntmps59
  go_wp2
  have HV := hid (Blk.new w [.int .i64 r1, .int .i64 r2, .int .i64 r3, .int .i64 r4, .int .i64 r5, .int .i64 k, .bool run] 80)
  obtain ⟨W1, HW1⟩ : ∃ W1, Hid (W1 = w.alloc (.cells #[.int .i64 r1, .int .i64 r2, .int .i64 r3, .int .i64 r4, .int .i64 r5, .int .i64 k, .bool run] 80)) := ⟨_, rfl⟩
  have HB1 : Hid (Below w.heap.size w W1) := by rw [HW1.out]; exact (Below.refl _ _).alloc (Nat.le_refl _) _
  have hk1 := below_keeps HB1.out
  have HV' : Hid (Blk W1 w.heap.size [.int .i64 r1, .int .i64 r2, .int .i64 r3, .int .i64 r4, .int .i64 r5, .int .i64 k, .bool run] 80) := by rw [HW1.out]; exact HV.out
  clear HV
  replace c1 := hk1 _ _ c1
  replace g0 := hk1 _ _ g0
  replace g1 := hk1 _ _ g1
  replace g2 := hk1 _ _ g2
  replace g3 := hk1 _ _ g3
  replace g4 := hk1 _ _ g4
  replace g5 := hk1 _ _ g5
  replace k0 := hk1 _ _ k0
  have hz1 : W1.heap.size = w.heap.size + 1 := by rw [HW1.out]; simp
  rw [← HW1.out]
  obtain ⟨vb, HVB⟩ : ∃ vb, Hid (vb = w.heap.size) := ⟨_, rfl⟩
  rw [← HVB.out] at HV' hz1 l1 l2 lb ⊢
  have HZ := hid hz1
  clear hz1 hk1
  have x2 := HV'.out.cell 2 _ rfl
  have x3 := HV'.out.cell 3 _ rfl
  have x4 := HV'.out.cell 4 _ rfl
  have x5 := HV'.out.cell 5 _ rfl
  have x6 := HV'.out.cell 6 _ rfl
  have l1' : sb < W1.heap.size := by rw [HZ.out]; omega
  have l2' : fb < W1.heap.size := by rw [HZ.out]; omega
  have lb' : cb < W1.heap.size := by rw [HZ.out]; omega
  have lv' : vb < W1.heap.size := by rw [HZ.out]; omega
  have w1 : IntKind.i64.wrap ((fr : Int) + (r3 : Int)) = fr + r3 := IntWalk.i64_in _ (by omega)
  clear HVB
  go_region_held3 (fun w' => w'.cell? ⟨cb, 0, none⟩ = some (.slice (some ⟨sb, so, none⟩) sn scap) ∧ w'.cell? ⟨sb, so + m * 2 + 1, none⟩ = some (.slice (some ⟨fb, fo, none⟩) n fcap) ∧ w'.cell? ⟨fb, fo + k * 6, none⟩ = some (.string f1) ∧ w'.cell? ⟨fb, fo + k * 6 + 1, none⟩ = some (.int .i64 f2) ∧ w'.cell? ⟨fb, fo + k * 6 + 2, none⟩ = some (.int .i64 f3) ∧ w'.cell? ⟨fb, fo + k * 6 + 3, none⟩ = some (.bool f4) ∧ w'.cell? ⟨fb, fo + k * 6 + 4, none⟩ = some (.bool f5) ∧ w'.cell? ⟨fb, fo + k * 6 + 5, none⟩ = some (.int .i64 f6) ∧ w'.cell? ⟨vb, 2, none⟩ = some (.int .i64 r3) ∧ w'.cell? ⟨vb, 3, none⟩ = some (.int .i64 r4) ∧ w'.cell? ⟨vb, 4, none⟩ = some (.int .i64 r5) ∧ w'.cell? ⟨vb, 5, none⟩ = some (.int .i64 k)) (first | (with_reducible exact ⟨k0, c1, g0, g1, g2, g3, g4, g5, x2, x3, x4, x5⟩) | go_keep) (fail)
  obtain ⟨W2, HW2⟩ : ∃ W2, Hid (W2 = (W1.alloc (.cells #[.string f1, .int .i64 f2, .int .i64 f3, .bool f4, .bool f5, .int .i64 f6] 44)).drew) := ⟨_, rfl⟩
  have HF2 := hid (Blk.new W1 [.string f1, .int .i64 f2, .int .i64 f3, .bool f4, .bool f5, .int .i64 f6] 44)
  have HB2 : Hid (Below W1.heap.size W1 W2) := by rw [HW2.out]; exact ((Below.refl _ _).alloc (Nat.le_refl _) _).drew
  have HF3 : Hid (Blk W2 W1.heap.size [.string f1, .int .i64 f2, .int .i64 f3, .bool f4, .bool f5, .int .i64 f6] 44) := by rw [HW2.out]; exact HF2.out
  have HV2 : Hid (Blk W2 vb [.int .i64 r1, .int .i64 r2, .int .i64 r3, .int .i64 r4, .int .i64 r5, .int .i64 k, .bool run] 80) := HV'.out.below HB2.out
  have HC2 := hid (hC.later (HB1.out.trans (HB2.out.mono HB1.out.size)))
  have HB3 := hid (HB1.out.trans (HB2.out.mono HB1.out.size))
  have HBP : Hid (Bytes W2 (.slice pa (r5 - r4) pcap) (part l r4 r5)) := hpb.keep (below_keeps HC2.out.below)
  have HPB := hid hpb
  have HPL : Hid ((part l r4 r5).length = r5 - r4) := part_len l r4 r5 h2 (by have := HL.out; omega)
  rw [← HW2.out]
  clear HF2 HW2 HB2 hpb k0 c1 g0 g1 g2 g3 g4 g5 x2 x3 x4 x5 x6 l1 l2 lb l1' l2' lb' lv' hv hblk HV'
  obtain ⟨fx, HFX⟩ : ∃ fx, Hid (fx = W1.heap.size) := ⟨_, rfl⟩
  rw [← HFX.out] at HF3 ⊢
  have x6 := HV2.out.cell 6 _ rfl
  have y2 := HF3.out.cell 2 _ rfl
  have HR := hid hrun
  have HOF := hid hof
  clear hrun hof
  cases run with
  | true =>
    obtain rfl : x = (r3, (runCount (kwire f3) (part l r4 r5)).2) := by rw [HVAL.out, if_pos rfl]
    go_wp2_with (go_at_call 74; refine (run_Count HBP.out f3 (HR.out rfl)).mono ?_; rintro e w3 ⟨rfl, hb3⟩)
    go_ret2
    exact ⟨⟨fr + r3, by simp, fun _ => rfl⟩, HC2.out.later hb3, below_grown (HB3.out.trans (hb3.mono HB3.out.size)) _⟩
  | false =>
    by_cases h15 : f3 = 15
    · subst h15
      by_cases hu : ufirst (part l r4 r5) = (part l r4 r5).length
      · obtain rfl : x = (0, 0) := by rw [HVAL.out, if_neg (by decide), if_pos rfl, if_pos hu]
        have HU : Hid (decide (ufirst (part l r4 r5) = (part l r4 r5).length) = true) := decide_eq_true hu
        clear hu
        go_wp2_with fail
        refine (utf_Right HBP.out).mono ?_
        rintro e w3 ⟨rfl, rfl⟩
        rw [HU.out]
        go_wp2
        go_ret2
        exact ⟨⟨0, rfl, fun h => absurd rfl h⟩, HC2.out, below_grown HB3.out _⟩
      · obtain rfl : x = (r3, 7) := by rw [HVAL.out, if_neg (by decide), if_pos rfl, if_neg hu]
        have HU : Hid (decide (ufirst (part l r4 r5) = (part l r4 r5).length) = false) := decide_eq_false hu
        clear hu
        go_wp2_with fail
        refine (utf_Right HBP.out).mono ?_
        rintro e w3 ⟨rfl, rfl⟩
        rw [HU.out]
        go_wp2
        go_ret2
        exact ⟨⟨fr + r3, by simp, fun _ => rfl⟩, HC2.out, below_grown HB3.out _⟩
    · have e15 : (f3 == 15) = false := by simpa using h15
      by_cases h17 : f3 = 17
      · subst h17
        by_cases h0 : d = 0
        · subst h0
          obtain rfl : x = (r3, 8) := by rw [HVAL.out, if_neg (by decide), if_neg (by decide), if_pos rfl, if_pos (by decide)]
          go_wp2
          go_ret2
          exact ⟨⟨fr + r3, by simp, fun _ => rfl⟩, HC2.out, below_grown HB3.out _⟩
        · obtain ⟨d', rfl⟩ : ∃ d', d = d' + 1 := ⟨d - 1, by omega⟩
          have hM : MsgC w0 cb _ s d' := hrec (by omega)
          obtain ⟨o, rfl⟩ : ∃ o : Nat, f6 = o := ⟨f6.toNat, by have := (HOF.out.2.1 rfl).1; omega⟩
          have hon : o < s.length := by have := (HOF.out.2.1 rfl).2; omega
          obtain rfl : x = (r4 + (vmsg s d' o (part l r4 r5)).1, (vmsg s d' o (part l r4 r5)).2) := by
            rw [HVAL.out, if_neg (by decide), if_neg (by decide), if_pos rfl, if_neg (by simp)]; rfl
          have HM := hid (fun zf zd zm h1 h2 h3 => hM o (depth + 1) (fr + r4) zf zd zm W2 _ (part l r4 r5) h1 h2 h3 hon HC2.out HPB.out (by rw [HPL.out]; omega) (by omega))
          obtain ⟨z, HZZ⟩ : ∃ z : Nat, Hid (z = if (vmsg s d' o (part l r4 r5)).2 = 0 then 0 else fr + r4 + (vmsg s d' o (part l r4 r5)).1) := ⟨_, rfl⟩
          rw [← HZZ.out] at HM
          clear hM hrec h0
          have y5 := HF3.out.cell 5 _ rfl
          have x3 := HV2.out.cell 3 _ rfl
          have w1 : IntKind.i64.wrap ((depth : Int) + 1) = depth + 1 := IntWalk.i64_in _ (by omega)
          have w2 : IntKind.i64.wrap ((fr : Int) + (r4 : Int)) = fr + r4 := IntWalk.i64_in _ (by omega)
          have ed : ((depth : Int) == (depth : Int) + ((d' : Int) + 1)) = false := by simp; omega
          go_wp2_with fail
          refine (HM.out _ _ _ (by omega) (by omega) (by omega)).mono ?_
          rintro e w3 ⟨rfl, hC3, hg3⟩
          go_wp2
          go_ret2
          exact ⟨⟨z, rfl, fun h => by rw [HZZ.out, if_neg h, Nat.add_assoc]⟩, hC3, grown_below' HB3.out hg3⟩
      · have e17 : (f3 == 17) = false := by simpa using h17
        obtain rfl : x = (0, 0) := by rw [HVAL.out, if_neg (by decide), if_neg h15, if_neg h17]
        go_wp2
        go_ret2
        exact ⟨⟨0, rfl, fun h => absurd rfl h⟩, HC2.out, below_grown HB3.out _⟩
end Go.Proofs.Ytphkmpnahnakaaa
namespace Go.Proofs.Ytphkmpnahnakaaa
open Go.RowKit
end Go.Proofs.Ytphkmpnahnakaaa
namespace Go.Proofs.Ytphkmpnahnakaaa
open Go.RowKit
end Go.Proofs.Ytphkmpnahnakaaa
