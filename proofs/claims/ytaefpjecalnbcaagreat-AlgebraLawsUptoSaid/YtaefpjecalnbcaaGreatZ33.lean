/- darningref13: less, Of, Under. At most 2^40 ways. darningref13.Under; darninglaw13.Many. -/
import Derived.Test.YtaefpjecalnbcaaGreatZ32
namespace Go.Proofs.YtaefpjecalnbcaaGreat
open Go.RowKit
/-- the first so many of a slice of one-cell elements -/
theorem Seg.h1 {P : Program} {t e : TypeId} (ht : P.underlying t = some (.slice e)) (hs : ∀ w : World, (sizeOf e).run P w = .ok 1 w) {w : World} {a : Option Addr} {n cap : Nat} {xs : List Value} (h : Seg w (.slice a n cap) 1 n xs) (j : Nat) (hj : j ≤ n) :
    ∃ a' cap', (∀ W, (Instr.slice t (.slice a n cap) none (some (.int .i64 (j : Int))) none).run P W = .ok (.slice a' j cap') W) ∧ Seg w (.slice a' j cap') 1 j (xs.take j) := by
  have hcap : n ≤ cap := by obtain ⟨_, _, a', cap', hv, h3, _⟩ := h; cases hv; exact h3
  have hr := fun W => slice_h_run ht hs a n cap j (by omega) W
  have hsb := Seg.sub h 0 j (by omega) hj
  unfold sliced at hr hsb
  refine ⟨_, _, hr, ?_⟩
  simpa using hsb
/-- what is behind the first so many -/
theorem Seg.l1 {P : Program} {t e : TypeId} (ht : P.underlying t = some (.slice e)) (hs : ∀ w : World, (sizeOf e).run P w = .ok 1 w) {w : World} {a : Option Addr} {n cap : Nat} {xs : List Value} (h : Seg w (.slice a n cap) 1 n xs) (i : Nat) (hi : i ≤ n) :
    ∃ a' cap', (∀ W, (Instr.slice t (.slice a n cap) (some (.int .i64 (i : Int))) none none).run P W = .ok (.slice a' (n - i) cap') W) ∧ Seg w (.slice a' (n - i) cap') 1 (n - i) (xs.drop i) := by
  have hr := fun W => slice_l_run ht hs a n cap i hi W
  have hsb := Seg.sub h i n hi (Nat.le_refl _)
  have hl := h.1
  unfold sliced at hr hsb
  refine ⟨_, _, hr, ?_⟩
  rw [List.take_of_length_le (by simp [hl])] at hsb
  simpa using hsb
end Go.Proofs.YtaefpjecalnbcaaGreat
namespace Go.Proofs.YtaefpjecalnbcaaGreat
open Go.RowKit
def SomeBool (w : World) (e : Ending) (w' : World) : Prop := (∃ b, e = .returned (.bool b)) ∧ w = w'
theorem SomeBool.mk {w : World} {e : Ending} (b : Bool) (h : e = .returned (.bool b)) : SomeBool w e w := ⟨⟨b, h⟩, rfl⟩
set_option maxRecDepth 100000 in
set_option maxHeartbeats 4000000 in
theorem law13_Many {w : World} {v : Value} {ls : List (List Int)} (h : WaysAt w v ls) :
    Calls Tryz.prog 9 #[v] w (SomeBool w) := by
  obtain ⟨hl, a, c, rfl, -, hat⟩ := h.open
  obtain ⟨n, HN⟩ : ∃ n, Hid (n = ls.length) := ⟨_, rfl⟩
  rw [← HN.out] at hl ⊢
  have HAT := hid hat
  clear h hat
  go_enter Tryz.func9, Tryz.ntmps9
  go_wp2_with fail
  go_loop [3, 4] (fun v3 v4 => ∃ (k : Nat) (z : Int), v4 = .int .i64 k ∧ k ≤ n ∧ v3 = .int .i64 z) (fun _ v4 => n - (intOf v4).toNat)
  case atStart => exact ⟨0, 0, rfl, by omega, rfl⟩
  case round =>
    obtain ⟨k, z, rfl, hk, rfl⟩ := hrel
    by_cases hlt : k < n
    · obtain ⟨y, hy⟩ := way_get HN.out hlt
      obtain ⟨b, q, ya, yc, ha, g0, hY⟩ := HAT.out k y hy
      have hix := index_run1 Tryz.underlying28 size_ints ha k hlt (cap := c)
      obtain ⟨q2, HQ2⟩ : ∃ q2, Hid (q2 = y.length) := ⟨_, rfl⟩
      rw [← HQ2.out] at g0
      clear hy ha hY
      go_wp2_with fail
      go_round
      case rel => exact ⟨k + 1, _, by go_num, hlt, rfl⟩
      case measure => simp [intOf]; omega
    · obtain rfl : k = n := by omega
      go_wp2_with fail
      go_ret
      exact SomeBool.mk _ rfl
end Go.Proofs.YtaefpjecalnbcaaGreat
