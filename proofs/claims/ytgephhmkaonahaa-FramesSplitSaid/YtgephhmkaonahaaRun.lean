/- What run.size returns: runSize. No condition beyond that the bytes read as data. -/
import Derived.Test.YtgephhmkaonahaaLook
namespace Go.Proofs.Ytgephhmkaonahaa
open Go.RowKit

/-- length of the first value of a run and the code -/
def runSize (wire : Nat) (l : List UInt8) : Nat × Nat :=
  if wire = 0 then ((vread l).2.1, (vread l).2.2) else
  if l.length < (if wire = 1 then 8 else 4) then (0, 3) else (if wire = 1 then 8 else 4, 0)

set_option maxRecDepth 100000 in
set_option maxHeartbeats 2000000 in
theorem run_size {w : World} {v : Value} {l : List UInt8} (h : Bytes w v l) (wire : Nat) :
    Calls Try.prog 204 #[.int .i64 wire, v] w fun e w' => e = .returned (.tuple #[.int .i64 (runSize wire l).1, .int .u8 (runSize wire l).2]) ∧ w = w' := by
  obtain ⟨hlen, a, cap, rfl, -, -, -, hcell⟩ := h.open
  obtain ⟨n, HN⟩ : ∃ n, Hid (n = l.length) := ⟨_, rfl⟩
  obtain ⟨x, HX⟩ : ∃ x, Hid (x = runSize wire l) := ⟨_, rfl⟩
  rw [← HX.out]
  unfold runSize at HX
  rw [← HN.out] at HX hlen hcell h ⊢
  clear hcell
  by_cases h0 : wire = 0
  · subst h0
    obtain rfl : x = ((vread l).2.1, (vread l).2.2) := by rw [HX.out, if_pos rfl]
    go_enter Try.func204, Try.ntmps204
    go_wp2_with (go_at_call 178; refine (varint_Skip h).mono ?_; rintro e w' ⟨rfl, rfl⟩)
    go_ret2
    exact ⟨rfl, rfl⟩
  · by_cases h1 : wire = 1
    · subst h1
      by_cases hs : n < 8
      · obtain rfl : x = (0, 3) := by rw [HX.out, if_neg (by decide), if_pos (by simpa using hs)]
        go_enter Try.func204, Try.ntmps204
        go_wp2
        go_ret2
        exact ⟨rfl, rfl⟩
      · obtain rfl : x = (8, 0) := by rw [HX.out, if_neg (by decide), if_neg (by simpa using hs)]; rfl
        go_enter Try.func204, Try.ntmps204
        go_wp2
        go_ret2
        exact ⟨rfl, rfl⟩
    · have e0 : ((wire : Int) == 0) = false := by simp; omega
      have e1 : ((wire : Int) == 1) = false := by simp; omega
      have HI1 := hid h1
      have HI0 := hid h0
      clear h0 h1
      by_cases hs : n < 4
      · obtain rfl : x = (0, 3) := by rw [HX.out, if_neg HI0.out, if_pos (by rw [if_neg HI1.out]; exact hs)]
        go_enter Try.func204, Try.ntmps204
        go_wp2
        go_ret2
        exact ⟨rfl, rfl⟩
      · obtain rfl : x = (4, 0) := by rw [HX.out, if_neg HI0.out, if_neg (by rw [if_neg HI1.out]; exact hs), if_neg HI1.out]
        go_enter Try.func204, Try.ntmps204
        go_wp2
        go_ret2
        exact ⟨rfl, rfl⟩

end Go.Proofs.Ytgephhmkaonahaa
