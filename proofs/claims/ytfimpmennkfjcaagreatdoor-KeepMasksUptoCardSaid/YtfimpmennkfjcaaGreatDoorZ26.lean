/- canon.Encode, Size, Value: mayCode, encM, encV. The meaning's weight is at most 2^30. Plain laws: two meanings alike (sameB), a meaning's depth (depthM); as lists are gone through. No condition. Plain laws: canonical bytes mean what is like the meaning (tof_enc). No condition. Plain laws: a right meaning's canonical bytes are valid, at most as deep as it (vmsg_enc). No condition. -/
import Derived.Test.YtfimpmennkfjcaaGreatDoorZ16
import Derived.Test.YtfimpmennkfjcaaGreatDoorZ25
namespace Go.Proofs.YtfimpmennkfjcaaGreatDoor
open Go.RowKit
/-! How long the bytes are. -/
end Go.Proofs.YtfimpmennkfjcaaGreatDoor
namespace Go.Proofs.YtfimpmennkfjcaaGreatDoor
open Go.RowKit
theorem bytes_beq (x y : List UInt8) : ((⟨x.toArray⟩ : ByteArray).toList == (⟨y.toArray⟩ : ByteArray).toList) = decide (x = y) := by
  rw [Bool.eq_iff_iff]
  simp [ByteArray.toList_eq]
theorem formM : ∀ {d : Nat} {w : World} {v : Value} {x : M d}, MsgAt d w v x → ∃ a1 n1 c1 a2 n2 c2, v = .agg #[.slice a1 n1 c1, .slice a2 n2 c2]
  | 0, _, _, _, h => h.elim
  | d + 1, _, _, _, h => by
    obtain ⟨vv, uv, rfl, hV, hU⟩ := h
    obtain ⟨-, va, vc, rfl, -, -⟩ := hV.open
    obtain ⟨-, ua, uc, rfl, -, -⟩ := hU.open
    exact ⟨_, _, _, _, _, _, rfl⟩
theorem formV {d : Nat} {w : World} {m : Int} {v1 v2 v3 : Value} {x : Val (M d)} (h : ValAt (MsgAt d) w (.agg #[.int .i64 m, v1, v2, v3]) x) : ∃ a1 n1 c1 a2 n2 c2 a3 n3 c3, v1 = .slice a1 n1 c1 ∧ v2 = .slice a2 n2 c2 ∧ v3 = .slice a3 n3 c3 := by
  obtain ⟨wv, tv, sv, e, -, hW, hT, hS⟩ := h
  cases e
  obtain ⟨-, wa, wc, rfl, -, -⟩ := hW.open
  obtain ⟨-, ta, tc, rfl, -, -⟩ := hT.open
  obtain ⟨-, sa, sc, rfl, -, -⟩ := hS.open
  exact ⟨_, _, _, _, _, _, _, _, _, rfl, rfl, rfl⟩
end Go.Proofs.YtfimpmennkfjcaaGreatDoor
namespace Go.Proofs.YtfimpmennkfjcaaGreatDoor
open Go.RowKit
end Go.Proofs.YtfimpmennkfjcaaGreatDoor
namespace Go.Proofs.YtfimpmennkfjcaaGreatDoor
open Go.RowKit
theorem vmsg_one {s : List Mes} {d m : Nat} {t : List UInt8} {r : Rec} {k : Int} {run : Bool} (hlook : vlook (s.getD m .zero).fields t 0 = (r, k, run, 0)) (hto : r.to = t.length)
    (hv : (vval (vrec s d) (decide (d = 0)) (s.getD m .zero).fields t (r, k, run, 0)).2 = 0) : (vmsg s d m t).2 = 0 := by
  rw [vmsg_from, vfrom_at]
  by_cases h0 : t.length ≤ 0
  · rw [if_pos h0]
  rw [if_neg h0, hlook, if_neg (by simp), if_neg (by rw [hv]; simp)]
  simp only
  rw [hto, vfrom_at, if_pos (Nat.le_refl _)]
end Go.Proofs.YtfimpmennkfjcaaGreatDoor
