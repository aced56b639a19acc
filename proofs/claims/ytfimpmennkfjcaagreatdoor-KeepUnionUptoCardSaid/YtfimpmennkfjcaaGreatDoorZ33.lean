/- slices.Grow of nil, slices.Concat of two lists of ways; mask.Union. At most 2^40 ways. mask.Meet. darningref13: less, Of, Under. At most 2^40 ways. -/
import Derived.Test.YtfimpmennkfjcaaGreatDoorZ31
import Derived.Lib.AppendZerosOnto
namespace Go.Proofs.YtfimpmennkfjcaaGreatDoor
open Go.RowKit
end Go.Proofs.YtfimpmennkfjcaaGreatDoor
namespace Go.Proofs.YtfimpmennkfjcaaGreatDoor
open Go.RowKit
end Go.Proofs.YtfimpmennkfjcaaGreatDoor
namespace Go.Proofs.YtfimpmennkfjcaaGreatDoor
open Go.RowKit
theorem row_mono {w : World} {base base' size n : Nat} {e : TypeId} {v : Value} {xs : List Value} (h : w.ownsRow base e size v n xs) (hb : base' ≤ base) : w.ownsRow base' e size v n xs := by
  refine ⟨h.1, ?_⟩
  rcases h.2 with h2 | ⟨g, cap, cur, hv, hg, h3⟩
  · exact .inl h2
  · exact .inr ⟨g, cap, cur, hv, by omega, h3⟩
/-- the first so many of a slice of one-cell elements -/
theorem Seg.h1 {P : Program} {t e : TypeId} (ht : P.underlying t = some (.slice e)) (hs : ∀ w : World, (sizeOf e).run P w = .ok 1 w) {w : World} {a : Option Addr} {n cap : Nat} {xs : List Value} (h : Seg w (.slice a n cap) 1 n xs) (j : Nat) (hj : j ≤ n) :
    ∃ a' cap', (∀ W, (Instr.slice t (.slice a n cap) none (some (.int .i64 (j : Int))) none).run P W = .ok (.slice a' j cap') W) ∧ Seg w (.slice a' j cap') 1 j (xs.take j) := by
  have hcap : n ≤ cap := by obtain ⟨_, _, a', cap', hv, h3, _⟩ := h; cases hv; exact h3
  have hr := fun W => slice_h_run ht hs a n cap j (by omega) W
  have hsb := Seg.sub h 0 j (by omega) hj
  unfold sliced at hr hsb
  refine ⟨_, _, hr, ?_⟩
  simpa using hsb
/-- what is behind the first so many -/
theorem Seg.l1 {P : Program} {t e : TypeId} (ht : P.underlying t = some (.slice e)) (hs : ∀ w : World, (sizeOf e).run P w = .ok 1 w) {w : World} {a : Option Addr} {n cap : Nat} {xs : List Value} (h : Seg w (.slice a n cap) 1 n xs) (i : Nat) (hi : i ≤ n) :
    ∃ a' cap', (∀ W, (Instr.slice t (.slice a n cap) (some (.int .i64 (i : Int))) none none).run P W = .ok (.slice a' (n - i) cap') W) ∧ Seg w (.slice a' (n - i) cap') 1 (n - i) (xs.drop i) := by
  have hr := fun W => slice_l_run ht hs a n cap i hi W
  have hsb := Seg.sub h i n hi (Nat.le_refl _)
  have hl := h.1
  unfold sliced at hr hsb
  refine ⟨_, _, hr, ?_⟩
  rw [List.take_of_length_le (by simp [hl])] at hsb
  simpa using hsb
end Go.Proofs.YtfimpmennkfjcaaGreatDoor
