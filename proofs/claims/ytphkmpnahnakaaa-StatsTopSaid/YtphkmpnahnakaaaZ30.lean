/- Plain laws: sums of rows, row by row; a check of bytes behind bytes. No condition. Masks, in plain words: of a union, of a meet, of what lies under a number. Plain laws: what a mask keeps, or leaves, of bytes (kpart): no longer than they are. No condition. Plain laws: the uppermost rows' bytes are the whole's; values, records, depths of rows. No condition. darningref28.Point: has a path a point? (dotB). At most 2^62 bytes. -/
import Derived.Test.YtphkmpnahnakaaaZ16
import Derived.Test.YtphkmpnahnakaaaZ18
import Derived.Test.YtphkmpnahnakaaaZ24
import Derived.Deep.CutBlock
namespace Go.Proofs.Ytphkmpnahnakaaa
open Go.RowKit
end Go.Proofs.Ytphkmpnahnakaaa
namespace Go.Proofs.Ytphkmpnahnakaaa
end Go.Proofs.Ytphkmpnahnakaaa
namespace Go.Proofs.Ytphkmpnahnakaaa
open Go.RowKit
end Go.Proofs.Ytphkmpnahnakaaa
namespace Go.Proofs.Ytphkmpnahnakaaa
open Go.RowKit
/-- below a path there is a point -/
def dotB (p : ByteArray) : Bool := p.data.toList.contains 46
end Go.Proofs.Ytphkmpnahnakaaa
namespace Go.Proofs.Ytphkmpnahnakaaa
open Go.RowKit
set_option maxRecDepth 100000 in
set_option maxHeartbeats 4000000 in
theorem ref28_Point (s : ByteArray) (w : World) (hs : s.size ≤ 4611686018427387904) : Calls Try.prog 11 #[.string s] w fun e w' => e = .returned (.bool (dotB s)) ∧ w' = w := by
  obtain ⟨db, HDB⟩ : ∃ b, Hid (b = dotB s) := ⟨_, rfl⟩
  rw [← HDB.out]
  have hmem : ∀ k (h : k < s.size), (s[k] = 46) → dotB s = true := fun k h he => by
    unfold dotB
    rw [List.contains_iff_mem]
    refine List.mem_iff_getElem.2 ⟨k, by simpa using h, ?_⟩
    rw [← he]; rfl
  have hnot : (∀ k (h : k < s.size), s[k] ≠ 46) → dotB s = false := fun h => by
    cases hd : dotB s with
    | false => rfl
    | true =>
      unfold dotB at hd
      obtain ⟨k, hk, he⟩ := List.mem_iff_getElem.1 (List.contains_iff_mem.1 hd)
      exact absurd he (h k (by simpa using hk))
  obtain ⟨Q, HQ⟩ : ∃ Q : Ending → World → Prop, Hid (Q = fun e w' => e = .returned (.bool db) ∧ w' = w) := ⟨_, rfl⟩
  rw [← HQ.out]
  have HM := hid hmem
  have HNT := hid hnot
  clear hmem hnot
  go_enter Try.func11, Try.ntmps11
  go_wp2_with fail
  go_loop [3] (fun i => ∃ k : Nat, k ≤ s.size ∧ i = .int .i64 (k : Int) ∧ Hid (∀ j (h : j < s.size), j < k → s[j] ≠ 46)) (fun i => s.size - (intOf i).toNat)
  case atStart => exact ⟨0, Nat.zero_le _, rfl, hid fun j h hj => by omega⟩
  case round =>
    obtain ⟨k, hk, rfl, HJ⟩ := hrel
    by_cases hlt : k < s.size
    · by_cases he : s[k] = 46
      · have HE : Hid (Q (.returned (.bool true)) w) := by rw [HQ.out, HDB.out, HM.out k hlt he]; exact ⟨rfl, rfl⟩
        have hb : ((s[k].toNat : Int) == 46) = true := by rw [he]; rfl
        clear he
        go_wp2_with fail
        exact HE.out
      · have hb : ((s[k].toNat : Int) == 46) = false := by
          cases h : ((s[k].toNat : Int) == 46) with
          | false => rfl
          | true =>
            have h1 : (s[k].toNat : Int) = 46 := eq_of_beq h
            exact absurd (UInt8.toNat_inj.1 (show s[k].toNat = (46 : UInt8).toNat by have : (46 : UInt8).toNat = 46 := rfl; omega)) he
        have HJ2 : Hid (∀ j (h : j < s.size), j < k + 1 → s[j] ≠ 46) := fun j h hj => by
          by_cases hjk : j = k
          · subst hjk; exact he
          · exact HJ.out j h (by omega)
        clear he
        go_wp2_with fail
        go_round
        case rel => exact ⟨k + 1, hlt, by go_num, HJ2⟩
        case measure => simp [intOf]; omega
    · obtain rfl : k = s.size := by omega
      have HE : Hid (Q (.returned (.bool false)) w) := by rw [HQ.out, HDB.out, HNT.out fun k h => HJ.out k h h]; exact ⟨rfl, rfl⟩
      go_wp2_with fail
      exact HE.out
end Go.Proofs.Ytphkmpnahnakaaa
