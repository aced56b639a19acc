/- What the document's First and Right of texts return on any bytes: ufirst. No condition beyond that the argument reads as bytes. -/
import Derived.Test.YtgephhmkaonahaaUtf2
namespace Go.Proofs.Ytgephhmkaonahaa
open Go.RowKit

set_option maxRecDepth 100000 in
theorem ref04_First {w : World} {v : Value} {l : List UInt8} (h : Bytes w v l) :
    Calls Try.prog 99 #[v, .int .i64 l.length] w fun e w' => (∃ k : Nat, e = .returned (.tuple #[.int .i64 (ufirst l), .int .i64 k])) ∧ Below w.heap.size w w' := by
  obtain ⟨hlen, a, cap, rfl, -, -, -, -⟩ := h.open
  obtain ⟨n, HN⟩ : ∃ n, Hid (n = l.length) := ⟨_, rfl⟩
  rw [← HN.out] at hlen h ⊢
  go_enter Try.func99, Try.ntmps99
  go_wp2
  go_loopw [6, 7] (fun v6 v7 wr => ∃ k x : Nat, k ≤ n ∧ x ≤ k ∧ v6 = .int .i64 k ∧ v7 = .int .i64 x ∧ Below w.heap.size w wr ∧ Hid (k + ufirst (l.drop k) = ufirst l)) (fun v6 _ _ => n - (intOf v6).toNat)
  case atStart => exact ⟨0, 0, by omega, by omega, rfl, rfl, Below.refl _ _, by simp [Hid]⟩
  case round =>
    obtain ⟨k, x, hk, hx, rfl, rfl, hbel, HK⟩ := hrel
    obtain ⟨m, HM⟩ : ∃ m, Hid (m = unext (l.drop k)) := ⟨_, rfl⟩
    have hm : k + m ≤ n := by
      have := (unext_le (l.drop k)).1
      rw [List.length_drop, ← HN.out, ← HM.out] at this
      omega
    have hs := ufirst_step (l.drop k)
    rw [← HM.out] at hs
    have HS := hid hs
    clear hs
    by_cases hm0 : m = 0
    · subst hm0
      go_wp2_with (go_at_call 129; refine (ref04_Next (h.below hbel) k (by rw [← HN.out]; exact hk)).mono ?_; rintro e w1 ⟨rfl, hb1⟩; rw [← HM.out])
      refine bodyPost_ret (v := .tuple #[.int .i64 k, .int .i64 x]) (by simp [results, Try.results99, go_sem]) rfl ⟨⟨x, ?_⟩, below_step hbel hb1 hbel.size⟩
      have e : ufirst l = k := by rw [← HK.out, HS.out]; simp
      rw [e]
    · have hm1 : ((m : Int) == 0) = false := by simp; omega
      have HM0 := hid hm0
      have hmp : 0 < m := by omega
      clear hm0
      go_wp2_with (go_at_call 129; refine (ref04_Next (h.below hbel) k (by rw [← HN.out]; exact hk)).mono ?_; rintro e w1 ⟨rfl, hb1⟩; rw [← HM.out])
      go_roundw
      case rel =>
        refine ⟨k + m, x + 1, by omega, by omega, by go_num, by go_num, below_step hbel hb1 hbel.size, ?_⟩
        rw [← HK.out, HS.out, if_neg HM0.out, List.drop_drop, Nat.add_assoc]
        exact hid rfl
      case measure => simp [intOf]; omega

set_option maxRecDepth 100000 in
theorem ref04_Right {w : World} {v : Value} {l : List UInt8} (h : Bytes w v l) :
    Calls Try.prog 58 #[v] w fun e w' => e = .returned (.bool (decide (ufirst l = l.length))) ∧ Below w.heap.size w w' := by
  obtain ⟨hlen, a, cap, rfl, -, -, -, -⟩ := h.open
  go_enter Try.func58, Try.ntmps58
  go_wp2_with (go_at_call 99; refine (ref04_First h).mono ?_; rintro e w' ⟨⟨k, rfl⟩, hb⟩)
  go_ret
  refine ⟨ret1 ?_, hb⟩
  show Value.bool ((ufirst l : Int) == (l.length : Int)) = _
  congr 1
  rw [Bool.eq_iff_iff]
  simp
  omega

end Go.Proofs.Ytgephhmkaonahaa
