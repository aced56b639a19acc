/- varint.Put and darningref02.Put: vput. -/
import Derived.Test.YtgephhmkaonahaaOwn
namespace Go.Proofs.Ytgephhmkaonahaa
open Go.RowKit

/-- the minimal varint -/
def vput (x : Nat) : List UInt8 := if x < 128 then [b8 x] else b8 (128 + x % 128) :: vput (x / 128)
termination_by x
decreasing_by omega
theorem vput_small {x : Nat} (h : x < 128) : vput x = [b8 x] := by rw [vput, if_pos h]
theorem vput_big {x : Nat} (h : ¬ x < 128) : vput x = b8 (128 + x % 128) :: vput (x / 128) := by rw [vput, if_neg h]
theorem vput_len : ∀ (k x : Nat), x < 128 ^ (k + 1) → (vput x).length ≤ k + 1
  | 0, x, h => by rw [vput_small (by simpa using h)]; simp
  | k + 1, x, h => by
    by_cases h1 : x < 128
    · rw [vput_small h1]; simp
    · rw [vput_big h1]
      have := vput_len k (x / 128) (Nat.div_lt_of_lt_mul (by rw [Nat.pow_succ, Nat.mul_comm] at h; exact h))
      simp; omega
theorem vput_le {x : Nat} (h : x < 2 ^ 64) : (vput x).length ≤ 10 := vput_len 9 x (Nat.lt_of_lt_of_le h (by decide))

theorem or128 (x : Nat) : bits .or .u8 ((x : Int) % 256) 128 = ((128 + x % 128 : Nat) : Int) := by
  have : ∀ c : Fin 256, bits .or .u8 (c.val : Int) 128 = ((128 + c.val % 128 : Nat) : Int) := by decide +kernel
  rw [show (x : Int) % 256 = ((x % 256 : Nat) : Int) by omega, this ⟨x % 256, by omega⟩]
  simp

set_option maxRecDepth 100000 in
set_option maxHeartbeats 4000000 in
theorem varint_Put {w : World} {v : Value} {l : List UInt8} (h : Bytes w v l) (hl : l.length ≤ 1099511627776) (x : Nat) (hx : x < 2 ^ 64) :
    Calls Try.prog 39 #[v, .int .u64 x] w fun e w' => ∃ v', e = .returned v' ∧ Own w' w.heap.size v' (l ++ vput x) ∧ Below w.heap.size w w' := by
  have H := hid h
  have HX := hid hx
  clear h hx
  obtain ⟨hlen, a, cap, rfl, -, -, -, -⟩ := H.out.open
  clear hlen
  go_enter Try.func39, Try.ntmps39
  go_wp2_with (go_at_call 75; refine (clone_bytes H.out).mono ?_; rintro e w1 ⟨v1, rfl, hO, hb1⟩)
  go_loopw [0, 1] (fun v0 v1 wr => ∃ (l' : List UInt8) (y : Nat), v1 = .int .u64 y ∧ Hid (y < 2 ^ 64) ∧ Hid (l' ++ vput y = l ++ vput x) ∧ Hid (Own wr w.heap.size v0 l' ∧ Below w.heap.size w wr)) (fun _ v1 _ => (intOf v1).toNat)
  case atStart => exact ⟨l, x, rfl, HX, rfl, hO, hb1⟩
  case round =>
    obtain ⟨l', y, rfl, HY, HE, HO⟩ := hrel
    have HLN : Hid (l'.length + (vput y).length ≤ 1099511627776 + 10) := by
      have h1 := congrArg List.length HE.out
      rw [List.length_append, List.length_append] at h1
      have := vput_le HX.out
      show _ ≤ _; omega
    by_cases h : y < 128
    · have hB := bytes_one wr 5 (b8 y) y (by simp [b8]; omega)
      obtain ⟨v', w', hr, hO', hg, -⟩ := own_append (w := wr.alloc (.cells #[.int .u8 y] 5)) (World.ownsRow.alloc HO.out.1 _) hB (by have := HLN.out; simp; omega) (by have := HO.out.2.size; simp; omega)
      have HR := hid hr
      have HO2 := hid hO'
      have hg2 := own_grown (w := wr.alloc (.cells #[.int .u8 y] 5)) (World.ownsRow.alloc HO.out.1 _) (HO.out.2.alloc HO.out.2.size _) hg
      have HG2 := hid hg2
      clear hB hr hO' hg hg2
      go_wp2_with (at_builtin; refine wpList_append_eq rfl _ _ _ rfl _ _ rfl rfl HR.out ?_)
      go_ret
      refine ⟨_, rfl, ?_, HG2.out⟩
      rw [← HE.out, vput_small h]
      exact HO2.out
    · have hdiv : y / 128 < 2 ^ 64 := by have := HY.out; omega
      have hB := bytes_one wr 5 (b8 (128 + y % 128)) (bits .or .u8 ((y : Int) % 256) 128) (by rw [or128]; simp [b8]; omega)
      have hly := HLN.out
      rw [vput_big h, List.length_cons] at hly
      obtain ⟨v', w', hr, hO', hg, -⟩ := own_append (w := wr.alloc (.cells #[.int .u8 (bits .or .u8 ((y : Int) % 256) 128)] 5)) (World.ownsRow.alloc HO.out.1 _) hB (by simp; omega) (by have := HO.out.2.size; simp; omega)
      have HR := hid hr
      have HO2 := hid hO'
      have hg2 := own_grown (w := wr.alloc (.cells #[.int .u8 (bits .or .u8 ((y : Int) % 256) 128)] 5)) (World.ownsRow.alloc HO.out.1 _) (HO.out.2.alloc HO.out.2.size _) hg
      have HG2 := hid hg2
      clear hB hr hO' hg hg2 hly
      go_wp2_with (at_builtin; refine wpList_append_eq rfl _ _ _ rfl _ _ rfl rfl HR.out ?_)
      go_roundw
      case rel =>
        refine ⟨l' ++ [b8 (128 + y % 128)], y / 128, ?_, hdiv, ?_, HO2.out, HG2.out⟩
        · go_num
        · rw [Hid, ← HE.out, vput_big h]; simp
      case measure => simp [intOf]; omega

set_option maxRecDepth 100000 in
set_option maxHeartbeats 4000000 in
theorem ref02_Put_at : ∀ (k x : Nat) (w : World), x < 128 ^ (k + 1) → x < 2 ^ 64 →
    Calls Try.prog 40 #[.int .u64 x] w fun e w' => ∃ v', e = .returned v' ∧ Own w' w.heap.size v' (vput x) ∧ Below w.heap.size w w' := by
  have small : ∀ (x : Nat) (w : World), x < 128 →
      Calls Try.prog 40 #[.int .u64 x] w fun e w' => ∃ v', e = .returned v' ∧ Own w' w.heap.size v' (vput x) ∧ Below w.heap.size w w' := by
    intro x w h
    have HU := hid (vput_small h)
    have hO := own_lit w #[.int .u8 x] [b8 x] 1 rfl (by simp [byteV, b8]; omega) (by simp)
    have HO := hid hO
    clear hO
    go_enter Try.func40, Try.ntmps40
    go_wp2_with fail
    go_ret
    refine ⟨_, rfl, ?_, (Below.refl _ _).alloc (Nat.le_refl _) _⟩
    rw [HU.out]
    exact HO.out
  intro k
  induction k with
  | zero => exact fun x w h _ => small x w (by simpa using h)
  | succ k ih =>
    intro x w hx h64
    by_cases h : x < 128
    · exact small x w h
    · have HU := hid (vput_big h)
      have hdiv : x / 128 < 128 ^ (k + 1) := Nat.div_lt_of_lt_mul (by rw [Nat.pow_succ, Nat.mul_comm] at hx; exact hx)
      have HDV := hid hdiv
      have HX := hid hx
      have HIH := hid ih
      have H64 := hid h64
      have hO := own_lit w #[.int .u8 (128 + (x : Int) % 128)] [b8 (128 + x % 128)] 1 rfl (by simp [byteV, b8]; omega) (by simp)
      have HO := hid hO
      clear hO hdiv hx ih h64
      go_enter Try.func40, Try.ntmps40
      have HW : Hid (IntKind.u64.wrap ((x : Int) / 128) = ((x / 128 : Nat) : Int)) := by
        have h5 := H64.out
        rw [Hid, IntWalk.u64_in _ (by omega)]; omega
      go_wp2_with fail
      rw [HW.out]
      refine (HIH.out (x / 128) _ HDV.out (by have := H64.out; omega)).mono ?_
      rintro e w2 ⟨v2, rfl, hO2, hb2⟩
      have hO3 := Own.below_of HO.out hb2
      have h10 := vput_le H64.out
      rw [HU.out, List.length_cons] at h10
      obtain ⟨v', w', hr, hO', hg, -⟩ := own_append hO3 (hO2.bytes (by omega)) (by simp; omega) (by have := hb2.size; simp at this; omega)
      have HR := hid hr
      have HO4 := hid hO'
      have hg2 := own_grown hO3 (((Below.refl w.heap.size w).alloc (Nat.le_refl _) _).trans (hb2.mono (by simp))) hg
      have HG2 := hid hg2
      clear hr hO' hg hg2 h10 hO2 hO3 hb2
      go_wp2_with (at_builtin; refine wpList_append_eq rfl _ _ _ rfl _ _ rfl rfl HR.out ?_)
      go_ret
      refine ⟨_, rfl, ?_, HG2.out⟩
      rw [HU.out]
      exact HO4.out

theorem ref02_Put (x : Nat) (w : World) (h : x < 2 ^ 64) :
    Calls Try.prog 40 #[.int .u64 x] w fun e w' => ∃ v', e = .returned v' ∧ Own w' w.heap.size v' (vput x) ∧ Below w.heap.size w w' :=
  ref02_Put_at 9 x w (Nat.lt_of_lt_of_le h (by decide)) h

theorem string_same (l m : List UInt8) : ((⟨l.toArray⟩ : ByteArray) = ⟨m.toArray⟩) ↔ l = m := by
  constructor
  · intro h
    have := congrArg (fun b : ByteArray => b.data.toList) h
    simpa using this
  · rintro rfl; rfl

set_option maxRecDepth 100000 in
set_option maxHeartbeats 4000000 in
theorem ref01_Same {w : World} {v x : Value} {l m : List UInt8} (h : Bytes w v l) (hx : Bytes w x m) :
    Calls Try.prog 12 #[v, x] w fun e w' => e = .returned (.bool (decide (l = m))) ∧ w = w' := by
  have c1 := h.str
  have c2 := hx.str
  obtain ⟨-, a, cap, rfl, -, -, -, -⟩ := h.open
  obtain ⟨-, a2, cap2, rfl, -, -, -, -⟩ := hx.open
  clear h hx
  have e : ((⟨l.toArray⟩ : ByteArray).toList == (⟨m.toArray⟩ : ByteArray).toList) = decide (l = m) := by
    rw [str_beq, decide_eq_decide, string_same]
  go_enter Try.func12, Try.ntmps12
  go_wp2_with fail
  go_ret
  have hq : (l == m) = decide (l = m) := by rw [Bool.eq_iff_iff]; simp
  exact ⟨ret1 (congrArg Value.bool hq), rfl⟩

end Go.Proofs.Ytgephhmkaonahaa
