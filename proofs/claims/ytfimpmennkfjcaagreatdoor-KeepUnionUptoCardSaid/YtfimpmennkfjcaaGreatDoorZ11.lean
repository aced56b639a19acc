/- What the document's Look returns of any bytes and any message: vlook, the same as view.Look. No condition beyond that the arguments read as data. What run.size returns: runSize. No condition beyond that the bytes read as data. The values of a run: how many, or the code of the first that is not there. Plain lists, no program in sight. -/
import Derived.Test.YtfimpmennkfjcaaGreatDoorZ10
namespace Go.Proofs.YtfimpmennkfjcaaGreatDoor
open Go.RowKit
end Go.Proofs.YtfimpmennkfjcaaGreatDoor
namespace Go.Proofs.YtfimpmennkfjcaaGreatDoor
open Go.RowKit
/-- length of the first value of a run and the code -/
def runSize (wire : Nat) (l : List UInt8) : Nat × Nat :=
  if wire = 0 then ((vread l).2.1, (vread l).2.2) else
  if l.length < (if wire = 1 then 8 else 4) then (0, 3) else (if wire = 1 then 8 else 4, 0)
set_option maxRecDepth 100000 in
set_option maxHeartbeats 2000000 in
theorem run_size {w : World} {v : Value} {l : List UInt8} (h : Bytes w v l) (wire : Nat) :
    Calls Tryz.prog 202 #[.int .i64 wire, v] w fun e w' => e = .returned (.tuple #[.int .i64 (runSize wire l).1, .int .u8 (runSize wire l).2]) ∧ w = w' := by
  obtain ⟨hlen, a, cap, rfl, -, -, -, hcell⟩ := h.open
  obtain ⟨n, HN⟩ : ∃ n, Hid (n = l.length) := ⟨_, rfl⟩
  obtain ⟨x, HX⟩ : ∃ x, Hid (x = runSize wire l) := ⟨_, rfl⟩
  rw [← HX.out]
  unfold runSize at HX
  rw [← HN.out] at HX hlen hcell h ⊢
  clear hcell
  by_cases h0 : wire = 0
  · subst h0
    obtain rfl : x = ((vread l).2.1, (vread l).2.2) := by rw [HX.out, if_pos rfl]
    go_enter Tryz.func202, Tryz.ntmps202
    go_wp2_with (go_at_call 178; refine (varint_Skip h).mono ?_; rintro e w' ⟨rfl, rfl⟩)
    go_ret2
    exact ⟨rfl, rfl⟩
  · by_cases h1 : wire = 1
    · subst h1
      by_cases hs : n < 8
      · obtain rfl : x = (0, 3) := by rw [HX.out, if_neg (by decide), if_pos (by simpa using hs)]
        go_enter Tryz.func202, Tryz.ntmps202
        go_wp2
        go_ret2
        exact ⟨rfl, rfl⟩
      · obtain rfl : x = (8, 0) := by rw [HX.out, if_neg (by decide), if_neg (by simpa using hs)]; rfl
        go_enter Tryz.func202, Tryz.ntmps202
        go_wp2
        go_ret2
        exact ⟨rfl, rfl⟩
    · have e0 : ((wire : Int) == 0) = false := by simp; omega
      have e1 : ((wire : Int) == 1) = false := by simp; omega
      have HI1 := hid h1
      have HI0 := hid h0
      clear h0 h1
      by_cases hs : n < 4
      · obtain rfl : x = (0, 3) := by rw [HX.out, if_neg HI0.out, if_pos (by rw [if_neg HI1.out]; exact hs)]
        go_enter Tryz.func202, Tryz.ntmps202
        go_wp2
        go_ret2
        exact ⟨rfl, rfl⟩
      · obtain rfl : x = (4, 0) := by rw [HX.out, if_neg HI0.out, if_neg (by rw [if_neg HI1.out]; exact hs), if_neg HI1.out]
        go_enter Tryz.func202, Tryz.ntmps202
        go_wp2
        go_ret2
        exact ⟨rfl, rfl⟩
end Go.Proofs.YtfimpmennkfjcaaGreatDoor
namespace Go.Proofs.YtfimpmennkfjcaaGreatDoor
open Go.RowKit
theorem runSize_cases (wire : Nat) (l : List UInt8) : (∃ n, runSize wire l = (n, 0) ∧ 0 < n ∧ n ≤ 10 ∧ n ≤ l.length) ∨ (∃ c, runSize wire l = (0, c) ∧ (c = 3 ∨ c = 4)) := by
  unfold runSize
  by_cases h0 : wire = 0
  · rw [if_pos h0]
    rcases vread_cases l with ⟨x, n, e, h1, h2, h3, -⟩ | ⟨c, e, hc⟩
    · exact .inl ⟨n, by rw [e], h1, h2, h3⟩
    · exact .inr ⟨c, by rw [e], hc⟩
  · rw [if_neg h0]
    by_cases h1 : l.length < (if wire = 1 then 8 else 4)
    · rw [if_pos h1]; exact .inr ⟨3, rfl, .inl rfl⟩
    · rw [if_neg h1]
      refine .inl ⟨_, rfl, ?_, ?_, by omega⟩ <;> split <;> omega
def runGo (wire : Nat) : Nat → List UInt8 → Nat × Nat
  | 0, _ => (0, 0)
  | k + 1, l => if l = [] then (0, 0) else
      if (runSize wire l).2 ≠ 0 then (0, (runSize wire l).2) else
      if (runGo wire k (l.drop (runSize wire l).1)).2 ≠ 0 then (0, (runGo wire k (l.drop (runSize wire l).1)).2) else
      ((runGo wire k (l.drop (runSize wire l).1)).1 + 1, 0)
/-- how many, the code -/
def runCount (wire : Nat) (l : List UInt8) : Nat × Nat := runGo wire l.length l
theorem runGo_fuel (wire : Nat) : ∀ (k m : Nat) (l : List UInt8), l.length ≤ k → l.length ≤ m → runGo wire k l = runGo wire m l
  | 0, 0, _, _, _ => rfl
  | 0, m + 1, l, h, _ => by
    have : l = [] := List.length_eq_zero_iff.1 (by omega)
    subst this
    simp [runGo]
  | k + 1, 0, l, _, h => by
    have : l = [] := List.length_eq_zero_iff.1 (by omega)
    subst this
    simp [runGo]
  | k + 1, m + 1, l, h1, h2 => by
    by_cases hl : l = []
    · simp [runGo, hl]
    · rcases runSize_cases wire l with ⟨n, e, h3, -, h4⟩ | ⟨c, e, hc⟩
      · have := runGo_fuel wire k m (l.drop n) (by simp; omega) (by simp; omega)
        simp only [runGo, e, this]
      · have hc' : c ≠ 0 := by omega
        simp only [runGo, e, if_neg hl, if_pos hc']
theorem runCount_bad (wire : Nat) (l : List UInt8) (hl : l ≠ []) (c : Nat) (hc : c ≠ 0) (e : (runSize wire l).2 = c) : runCount wire l = (0, c) := by
  obtain ⟨k, hk⟩ : ∃ k, l.length = k + 1 := ⟨l.length - 1, by have := List.length_pos_iff.2 hl; omega⟩
  unfold runCount
  rw [hk]
  simp only [runGo, if_neg hl, e, if_pos hc]
theorem runCount_step (wire : Nat) (l : List UInt8) (hl : l ≠ []) (n : Nat) (e : runSize wire l = (n, 0)) :
    runCount wire l = if (runCount wire (l.drop n)).2 ≠ 0 then (0, (runCount wire (l.drop n)).2) else ((runCount wire (l.drop n)).1 + 1, 0) := by
  obtain ⟨k, hk⟩ : ∃ k, l.length = k + 1 := ⟨l.length - 1, by have := List.length_pos_iff.2 hl; omega⟩
  have hn : 0 < n := by
    rcases runSize_cases wire l with ⟨n', e', h3, -, h4⟩ | ⟨c, e', hc⟩
    · rw [e] at e'; cases e'; exact h3
    · rw [e] at e'; cases e'; omega
  have hf := runGo_fuel wire k (l.drop n).length (l.drop n) (by simp; omega) (Nat.le_refl _)
  unfold runCount
  rw [hk]
  simp only [runGo, if_neg hl, e, hf]
  simp
/-! the values themselves -/
def rpiecesGo (wire : Nat) : Nat → List UInt8 → List (List UInt8)
  | 0, _ => []
  | k + 1, l => if l = [] then [] else if (runSize wire l).2 ≠ 0 then [] else l.take (runSize wire l).1 :: rpiecesGo wire k (l.drop (runSize wire l).1)
/-- the values of a run, up to the first that is not there -/
def rpieces (wire : Nat) (l : List UInt8) : List (List UInt8) := rpiecesGo wire l.length l
theorem rpiecesGo_fuel (wire : Nat) : ∀ (k m : Nat) (l : List UInt8), l.length ≤ k → l.length ≤ m → rpiecesGo wire k l = rpiecesGo wire m l
  | 0, 0, _, _, _ => rfl
  | 0, m + 1, l, h, _ => by
    have : l = [] := List.length_eq_zero_iff.1 (by omega)
    subst this
    simp [rpiecesGo]
  | k + 1, 0, l, _, h => by
    have : l = [] := List.length_eq_zero_iff.1 (by omega)
    subst this
    simp [rpiecesGo]
  | k + 1, m + 1, l, h1, h2 => by
    by_cases hl : l = []
    · simp [rpiecesGo, hl]
    · rcases runSize_cases wire l with ⟨n, e, h3, -, h4⟩ | ⟨c, e, hc⟩
      · have := rpiecesGo_fuel wire k m (l.drop n) (by simp; omega) (by simp; omega)
        simp only [rpiecesGo, e, this]
      · have hc' : c ≠ 0 := by omega
        simp only [rpiecesGo, e, if_neg hl, if_pos hc']
theorem rpieces_nil (wire : Nat) : rpieces wire [] = [] := rfl
theorem rpieces_bad (wire : Nat) (l : List UInt8) (c : Nat) (hc : c ≠ 0) (e : (runSize wire l).2 = c) : rpieces wire l = [] := by
  unfold rpieces
  cases hk : l.length with
  | zero => rfl
  | succ k =>
    have hl : l ≠ [] := by rintro rfl; simp at hk
    simp only [rpiecesGo, if_neg hl, e, if_pos hc]
theorem rpieces_step (wire : Nat) (l : List UInt8) (hl : l ≠ []) (n : Nat) (e : runSize wire l = (n, 0)) : rpieces wire l = l.take n :: rpieces wire (l.drop n) := by
  obtain ⟨k, hk⟩ : ∃ k, l.length = k + 1 := ⟨l.length - 1, by have := List.length_pos_iff.2 hl; omega⟩
  have hn : 0 < n := by
    rcases runSize_cases wire l with ⟨n', e', h3, -, h4⟩ | ⟨c, e', hc⟩
    · rw [e] at e'; cases e'; exact h3
    · rw [e] at e'; cases e'; omega
  have hf := rpiecesGo_fuel wire k (l.drop n).length (l.drop n) (by simp; omega) (Nat.le_refl _)
  unfold rpieces
  rw [hk]
  simp only [rpiecesGo, if_neg hl, e, hf]
  simp
theorem rpieces_len (wire : Nat) : ∀ (m : Nat) (l : List UInt8), l.length ≤ m → (rpieces wire l).length ≤ l.length
  | 0, l, h => by
    obtain rfl : l = [] := List.length_eq_zero_iff.1 (by omega)
    exact Nat.le_refl _
  | m + 1, l, h => by
    by_cases hl : l = []
    · subst hl; exact Nat.le_refl _
    rcases runSize_cases wire l with ⟨n, e, h3, -, h4⟩ | ⟨c, e, hc⟩
    · have ih := rpieces_len wire m (l.drop n) (by simp; omega)
      rw [rpieces_step wire l hl n e]
      simp at ih ⊢; omega
    · rw [rpieces_bad wire l c (by omega) (by rw [e])]; simp
theorem runCount_len (wire : Nat) : ∀ (m : Nat) (l : List UInt8), l.length ≤ m → (runCount wire l).1 = if (runCount wire l).2 = 0 then (rpieces wire l).length else 0
  | 0, l, h => by
    obtain rfl : l = [] := List.length_eq_zero_iff.1 (by omega)
    rfl
  | m + 1, l, h => by
    by_cases hl : l = []
    · subst hl; rfl
    rcases runSize_cases wire l with ⟨n, e, h3, -, h4⟩ | ⟨c, e, hc⟩
    · have ih := runCount_len wire m (l.drop n) (by simp; omega)
      rw [runCount_step wire l hl n e, rpieces_step wire l hl n e]
      by_cases h0 : (runCount wire (l.drop n)).2 = 0
      · simp only [h0, ne_eq, not_true_eq_false, if_false, if_true, List.length_cons] at ih ⊢
        rw [ih]
      · simp [h0]
    · rw [runCount_bad wire l hl c (by omega) (by rw [e]), if_neg (show (0, c).2 ≠ 0 by show c ≠ 0; omega)]
end Go.Proofs.YtfimpmennkfjcaaGreatDoor
