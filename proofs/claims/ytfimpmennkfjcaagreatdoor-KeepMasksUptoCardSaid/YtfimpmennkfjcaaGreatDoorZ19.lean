/- Canonical words and their bytes: kind.Canon, darningref06.Canon (kcanon), bits.Little, darningref01.Little (little), scalar.Put, darningref08.Put (kput), run.Pack, darningref09.Pack (kpack). The kind is a number's; words are below 2^64; a list's length is at most 2^36. What darninglaw14.Size and SizeValue return of any meaning whose weight is at most 2^40: szM, szV; where these are small they are the weight. Bytes of canonical words: bits.Little, darningref01.Little (little), scalar.Put, darningref08.Put (kput), run.Pack, darningref09.Pack (kpack). The kind is a number's; words are below 2^64; a list's length is at most 2^36. tag.word, tag.Put, record.fits, record.Put, darningref03.Put, darningref05.Put: rput. The tag is right, the value fits; bytes are at most 2^40. -/
import Derived.Test.YtfimpmennkfjcaaGreatDoorZ16
import Derived.Test.YtfimpmennkfjcaaGreatDoorZ17
import Derived.Test.YtfimpmennkfjcaaGreatDoorZ18
import Derived.Deep.AppendLies
import Derived.Deep.RegionHeld3
import Derived.Deep.DeepCutAuto
import Derived.Laws.BitsAllLaws
namespace Go.Proofs.YtfimpmennkfjcaaGreatDoor
open Go.RowKit
theorem knum_cases {k : Int} (h : knumber k = true) : k = 1 ∨ k = 2 ∨ k = 3 ∨ k = 4 ∨ k = 5 ∨ k = 6 ∨ k = 7 ∨ k = 8 ∨ k = 9 ∨ k = 10 ∨ k = 11 ∨ k = 12 ∨ k = 13 ∨ k = 14 := by
  have h' : 1 ≤ k ∧ k ≤ 14 := of_decide_eq_true h
  omega
set_option maxRecDepth 100000 in
set_option maxHeartbeats 4000000 in
theorem ref06_Canon {k : Int} (hk : knumber k = true) (x : Nat) (w : World) :
    Calls Tryz.prog 72 #[.int .i64 k, .int .u64 x] w fun e w' => e = .returned (.int .u64 (kcanon k x)) ∧ w = w' := by
  have H32 : Hid ((k = 1 ∨ k = 8) → kcanon k x = w32 x) := fun h => by rw [kcanon, if_pos h]
  have HLO : Hid ((k = 3 ∨ k = 5 ∨ k = 9 ∨ k = 10 ∨ k = 11) → kcanon k x = x % 4294967296) := fun h => by rw [kcanon, if_neg (by omega), if_neg (by omega), if_pos h]
  have HWH : Hid ((k = 2 ∨ k = 4 ∨ k = 6 ∨ k = 12 ∨ k = 13 ∨ k = 14) → kcanon k x = x) := fun h => by rw [kcanon, if_neg (by omega), if_neg (by omega), if_neg (by omega)]
  have H7 : Hid (k = 7 → kcanon k x = if 0 < x then 1 else 0) := fun h => by rw [kcanon, if_neg (by omega), if_pos h]
  have hk' := knum_cases hk
  clear hk
  rcases hk' with rfl | rfl | rfl | rfl | rfl | rfl | rfl | rfl | rfl | rfl | rfl | rfl | rfl | rfl
  case inr.inr.inr.inr.inr.inr.inl =>
    by_cases h : 0 < x
    · have HC : Hid (kcanon 7 x = 1) := by rw [Hid, H7.out rfl, if_pos h]
      go_enter Tryz.func72, Tryz.ntmps72
      go_wp2_with fail
      go_ret
      exact ⟨by rw [HC.out]; rfl, rfl⟩
    · have HC : Hid (kcanon 7 x = 0) := by rw [Hid, H7.out rfl, if_neg h]
      go_enter Tryz.func72, Tryz.ntmps72
      go_wp2_with fail
      go_ret
      exact ⟨by rw [HC.out]; rfl, rfl⟩
  all_goals
    go_enter Tryz.func72, Tryz.ntmps72
    go_wp2_with (first | (go_at_call 101; refine (ref01_Sign32 x _).mono ?_; rintro e w2 ⟨rfl, rfl⟩) | (go_at_call 100; refine (ref01_Wide x _).mono ?_; rintro e w3 ⟨rfl, rfl⟩))
    go_ret
    first
      | exact ⟨by rw [H32.out (by decide)]; rfl, rfl⟩
      | exact ⟨by rw [HLO.out (by decide)]; exact ret1 (int_eq (by omega)), rfl⟩
      | exact ⟨by rw [HWH.out (by decide)]; rfl, rfl⟩
end Go.Proofs.YtfimpmennkfjcaaGreatDoor
namespace Go.Proofs.YtfimpmennkfjcaaGreatDoor
open Go.RowKit
theorem size_str (w : World) : (sizeOf 9).run Tryz.prog w = .ok 1 w := by kernel_rfl
theorem size_u64 (w : World) : (sizeOf 86).run Tryz.prog w = .ok 1 w := by kernel_rfl
end Go.Proofs.YtfimpmennkfjcaaGreatDoor
namespace Go.Proofs.YtfimpmennkfjcaaGreatDoor
open Go.RowKit
end Go.Proofs.YtfimpmennkfjcaaGreatDoor
namespace Go.Proofs.YtfimpmennkfjcaaGreatDoor
open Go.RowKit
end Go.Proofs.YtfimpmennkfjcaaGreatDoor
