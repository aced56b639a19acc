/- What valid.Check returns: vcheck. Bytes of at most 2 to the 47. -/
import Derived.Test.YtgephhmkaonahaaMessage
namespace Go.Proofs.Ytgephhmkaonahaa
open Go.RowKit

/-- place, code -/
def vcheck (s : List Mes) (root : Int) (l : List UInt8) (d : Int) : Nat × Nat :=
  if argsCode s root d ≠ 0 then (0, argsCode s root d) else (if (vmsg s d.toNat root.toNat l).2 = 0 then 0 else (vmsg s d.toNat root.toNat l).1, (vmsg s d.toNat root.toNat l).2)

theorem args_ok {s : List Mes} {root d : Int} (h : argsCode s root d = 0) : sright s = true ∧ 0 ≤ root ∧ root < s.length ∧ 0 ≤ d ∧ d ≤ 64 := by
  unfold argsCode at h
  by_cases h1 : sright s = false
  · rw [if_pos h1] at h; omega
  rw [if_neg h1] at h
  by_cases h2 : root < 0 ∨ (s.length : Int) ≤ root ∨ d < 0 ∨ 64 < d
  · rw [if_pos h2] at h; omega
  exact ⟨by simpa using h1, by omega, by omega, by omega, by omega⟩
theorem args_cases (s : List Mes) (root d : Int) : argsCode s root d = 0 ∨ argsCode s root d = 9 ∨ argsCode s root d = 2 := by
  unfold argsCode
  split
  · exact .inr (.inl rfl)
  · split
    · exact .inr (.inr rfl)
    · exact .inl rfl

set_option maxRecDepth 100000 in
set_option maxHeartbeats 4000000 in
theorem valid_check {w : World} {vs vb : Value} {s : List Mes} {l : List UInt8} (hS : SchemaAt w vs s) (hb : Bytes w vb l) (root d : Int) :
    Calls Try.prog 76 #[vs, .int .i64 root, vb, .int .i64 d] w fun e w' => (∃ n : Int, e = .returned (.tuple #[.int .i64 (vcheck s root l d).1, .int .i64 n, .int .u8 (vcheck s root l d).2])) ∧ Below w.heap.size w w' := by
  have HA := hid (valid_Args hS root d)
  rcases args_cases s root d with h | h | h
  · obtain ⟨g1, g2, g3, g4, g5⟩ := args_ok h
    obtain ⟨m, rfl⟩ : ∃ m : Nat, root = m := ⟨root.toNat, by omega⟩
    obtain ⟨k, rfl⟩ : ∃ k : Nat, d = k := ⟨d.toNat, by omega⟩
    obtain ⟨x, HX⟩ : ∃ x, Hid (x = vmsg s k m l) := ⟨_, rfl⟩
    have hx : vcheck s m l k = (if x.2 = 0 then 0 else x.1, x.2) := by
      unfold vcheck
      rw [if_neg (by rw [h]; decide), HX.out]; rfl
    obtain ⟨z, HZ⟩ : ∃ z : Nat, Hid (z = if x.2 = 0 then 0 else x.1) := ⟨_, rfl⟩
    rw [hx, ← HZ.out]
    rw [h] at HA
    clear hx h
    obtain ⟨hslen, sa, scap, rfl, -⟩ := hS.open
    obtain ⟨hbl, va, vcap, rfl, -, -, -, -⟩ := hb.open
    obtain ⟨ln, HL⟩ : ∃ ln, Hid (ln = l.length) := ⟨_, rfl⟩
    rw [← HL.out] at hbl hb ⊢
    obtain ⟨sn, HSN⟩ : ∃ sn, Hid (sn = s.length) := ⟨_, rfl⟩
    rw [← HSN.out] at hslen hS HA ⊢
    have HS := hid hS
    have HB := hid hb
    have H3 := hid g3
    clear g3 hS hb
    go_enter Try.func76, Try.ntmps76
    go_wp2_with (go_at_call 41; refine HA.out.mono ?_; rintro e w1 ⟨rfl, hb1⟩)
    have HC := hid (show Chk w w1.heap.size (.slice sa sn scap) (w1.alloc (.cells #[.slice sa sn scap, .int .i64 0] 183)) from ⟨hb1.size, hb1.alloc hb1.size _, ⟨0, Blk.new w1 [.slice sa sn scap, .int .i64 0] _⟩⟩)
    have hM := valid_message HS.out g1 k m 0 0 0 0 k _ _ l rfl rfl (by omega) (by have := H3.out; omega) HC.out HB.out (by rw [← HL.out]; omega) (by omega)
    rw [← HX.out] at hM
    refine hM.mono ?_
    rintro e w2 ⟨rfl, hC2, hg2⟩
    obtain ⟨dd, hbk⟩ := hC2.blk
    have b1 := hbk.cell 1 _ rfl
    have hle := hbk.lt
    have HW2 := hid hC2.below
    clear hbk hC2 hg2 hb1 hM
    simp only [Nat.zero_add]
    rw [← HZ.out]
    obtain ⟨x1, x2⟩ := x
    simp only
    go_wp2_with fail
    go_quiet (fail)
    go_wp2
    go_ret3
    exact ⟨⟨_, rfl⟩, below_drewN HW2.out _⟩
  all_goals
    have hx : vcheck s root l d = (0, argsCode s root d) := by
      unfold vcheck
      rw [if_pos (by rw [h]; decide)]
    rw [hx, h]
    rw [h] at HA
    clear hx
    go_enter Try.func76, Try.ntmps76
    go_wp2_with (go_at_call 41; refine HA.out.mono ?_; rintro e w1 ⟨rfl, hb1⟩)
    go_ret3
    exact ⟨⟨0, rfl⟩, hb1⟩

set_option maxRecDepth 100000 in
theorem valid_Check {w : World} {vs vb : Value} {s : List Mes} {l : List UInt8} (hS : SchemaAt w vs s) (hb : Bytes w vb l) (root d : Int) :
    Calls Try.prog 42 #[vs, .int .i64 root, vb, .int .i64 d] w fun e w' => e = .returned (.tuple #[.int .i64 (vcheck s root l d).1, .int .u8 (vcheck s root l d).2]) ∧ Below w.heap.size w w' := by
  go_enter Try.func42, Try.ntmps42
  go_wp2_with (go_at_call 76; refine (valid_check hS hb root d).mono ?_; rintro e w1 ⟨⟨n, rfl⟩, hb1⟩)
  go_ret2
  exact ⟨rfl, hb1⟩

end Go.Proofs.Ytgephhmkaonahaa
