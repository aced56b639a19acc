/- darningref12: Names, Shared, Same; path: shared, Under. Texts are at most 2^39 bytes. path: Under, Parent, Join. Texts are at most 2^39 bytes. darninglaw12.PathSplits returns true. The list's weight is at most 2^38. -/
import Derived.Test.YtgephhmkaonahaaDoorZ05
import Derived.BigQuiet
import Derived.Lib.LastIndexByte
namespace Go.Proofs.YtgephhmkaonahaaDoor
open Go.RowKit

/-- how many names are the same, from the first on -/
def comm : List (List UInt8) → List (List UInt8) → Nat
  | a :: r, b :: s => if a = b then 1 + comm r s else 0
  | _, _ => 0
theorem comm_le : ∀ (a b : List (List UInt8)), comm a b ≤ a.length ∧ comm a b ≤ b.length
  | [], _ => by simp [comm]
  | _ :: _, [] => by simp [comm]
  | a :: r, b :: s => by
    have := comm_le r s
    rw [comm]
    split <;> simp <;> omega
theorem comm_at {a b : List (List UInt8)} {k : Nat} {x y : List UInt8} (hx : a[k]? = some x) (hy : b[k]? = some y) : comm (a.drop k) (b.drop k) = if x = y then 1 + comm (a.drop (k + 1)) (b.drop (k + 1)) else 0 := by
  obtain ⟨h1, rfl⟩ := List.getElem?_eq_some_iff.1 hx
  obtain ⟨h2, rfl⟩ := List.getElem?_eq_some_iff.1 hy
  rw [List.drop_eq_getElem_cons h1, List.drop_eq_getElem_cons h2, comm]
theorem comm_end {a b : List (List UInt8)} {k : Nat} (h : a.length ≤ k ∨ b.length ≤ k) : comm (a.drop k) (b.drop k) = 0 := by
  rcases h with h | h
  · rw [List.drop_of_length_le h, comm]; intros; simp_all
  · rw [List.drop_of_length_le (l := b) h]
    cases a.drop k <;> simp [comm]
theorem comm_all : ∀ {a b : List (List UInt8)}, a.length = b.length → (comm a b = a.length ↔ a = b)
  | [], [], _ => by simp [comm]
  | a :: r, b :: s, h => by
    have ih := comm_all (a := r) (b := s) (by simpa using h)
    rw [comm]
    by_cases e : a = b
    · rw [if_pos e]
      subst e
      simp only [List.length_cons, List.cons.injEq, true_and]
      rw [← ih]
      omega
    · rw [if_neg e]; simp [e]
  | [], _ :: _, h => by simp at h
  | _ :: _, [], h => by simp at h
theorem str_inj {x y : List UInt8} : (⟨x.toArray⟩ : ByteArray) = ⟨y.toArray⟩ ↔ x = y := by
  constructor
  · intro h
    have := congrArg (fun s : ByteArray => s.data.toList) h
    simpa using this
  · rintro rfl; rfl

set_option maxRecDepth 100000 in
set_option maxHeartbeats 4000000 in
theorem path_shared {w : World} {v u : Value} {l m : List (List UInt8)} (h : StrsAt w v l) (hu : StrsAt w u m) :
    Calls Tryd.prog 22 #[v, u] w fun e w' => e = .returned (.int .i64 (comm l m)) ∧ Below w.heap.size w w' := by
  obtain ⟨hl, a, c, rfl, -, hat⟩ := h.open
  obtain ⟨hm, a2, c2, rfl, -, hbt⟩ := hu.open
  obtain ⟨n, HN⟩ : ∃ n, Hid (n = l.length) := ⟨_, rfl⟩
  obtain ⟨n2, HN2⟩ : ∃ n, Hid (n = m.length) := ⟨_, rfl⟩
  rw [← HN.out] at hl ⊢
  rw [← HN2.out] at hm ⊢
  obtain ⟨z, HZ⟩ : ∃ z, Hid (z = comm l m) := ⟨_, rfl⟩
  rw [← HZ.out]
  have HAT := hid hat
  have HBT := hid hbt
  clear hat hbt h hu
  go_enter Tryd.func22, Tryd.ntmps22
  go_wp2_with fail
  go_loopw [5] (fun v5 wr => ∃ i : Nat, v5 = .int .i64 i ∧ i ≤ n ∧ Hid (z = i + comm (l.drop i) (m.drop i)) ∧ Hid (Below w.heap.size w wr)) (fun v5 _ => n - (intOf v5).toNat)
  case atStart => exact ⟨0, rfl, by omega, by rw [Hid, HZ.out]; simp, Below.refl _ _⟩
  case round =>
    obtain ⟨i, rfl, hi, HI, HB⟩ := hrel
    have e0 : comm (l.drop i) (m.drop i) = comm (l.drop i) (m.drop i) := rfl
    clear e0
    by_cases h1 : i < n
    · by_cases h2 : i < n2
      · have hxi : l[i]? = some (l[i]'(by rw [← HN.out]; exact h1)) := List.getElem?_eq_getElem _
        generalize l[i]'(by rw [← HN.out]; exact h1) = x at hxi
        have hyi : m[i]? = some (m[i]'(by rw [← HN2.out]; exact h2)) := List.getElem?_eq_getElem _
        generalize m[i]'(by rw [← HN2.out]; exact h2) = y at hyi
        obtain ⟨-, b, o, ha, g0⟩ := HAT.out i x hxi
        obtain ⟨-, b2, o2, ha2, g2⟩ := HBT.out i y hyi
        have HC := hid (comm_at hxi hyi)
        have hix := index_run1 Tryd.underlying22 size_strp ha i h1 (cap := c)
        have hix2 := index_run1 Tryd.underlying22 size_strp ha2 i h2 (cap := c2)
        replace g0 := below_keeps HB.out _ _ g0
        replace g2 := below_keeps HB.out _ _ g2
        unfold strV at g0 g2
        have hd1 : decide ((i : Int) < n) = true := decide_eq_true (by omega)
        have hd2 : decide ((i : Int) < n2) = true := decide_eq_true (by omega)
        have hd3 : decide (i < n) = true := decide_eq_true (by omega)
        have hd4 : decide (i < n2) = true := decide_eq_true (by omega)
        clear hxi hyi ha ha2
        by_cases hxy : x = y
        · have HC1 : Hid (z = (i + 1) + comm (l.drop (i + 1)) (m.drop (i + 1))) := by
            rw [Hid, HI.out, HC.out, if_pos hxy]; omega
          have hb1 : (x == y) = true := by simpa using hxy
          have HXY := hid hxy
          clear hxy
          go_wp2_with fail
          go_quiet (fail)
          go_wp2_with fail
          go_roundw
          case rel => exact ⟨i + 1, by go_num, h1, HC1.out, below_drewN HB.out _⟩
          case measure => simp [intOf]; omega
        · have HC1 : Hid (z = i) := by
            rw [Hid, HI.out, HC.out, if_neg hxy]; omega
          have hb1 : (x == y) = false := by simpa using hxy
          have HXY := hid hxy
          clear hxy
          go_wp2_with fail
          go_quiet (fail)
          go_wp2_with fail
          go_ret
          exact ⟨by rw [HC1.out]; first | done | rfl, below_drewN HB.out _⟩
      · have HC1 : Hid (z = i) := by
          rw [Hid, HI.out, comm_end (.inr (by rw [← HN2.out]; omega))]; omega
        have hd1 : decide ((i : Int) < n) = true := decide_eq_true (by omega)
        have hd2 : decide ((i : Int) < n2) = false := decide_eq_false (by omega)
        have hd3 : decide (i < n) = true := decide_eq_true (by omega)
        have hd4 : decide (i < n2) = false := decide_eq_false (by omega)
        go_wp2_with fail
        go_quiet (fail)
        go_wp2_with fail
        go_ret
        exact ⟨by rw [HC1.out]; first | done | rfl, below_drewN HB.out _⟩
    · have HC1 : Hid (z = i) := by
        rw [Hid, HI.out, comm_end (.inl (by rw [← HN.out]; omega))]; omega
      have hd1 : decide ((i : Int) < n) = false := decide_eq_false (by omega)
      have hd3 : decide (i < n) = false := decide_eq_false (by omega)
      go_wp2_with fail
      go_quiet (fail)
      go_wp2_with fail
      go_ret
      exact ⟨by rw [HC1.out]; first | done | rfl, below_drewN HB.out _⟩

set_option maxRecDepth 100000 in
set_option maxHeartbeats 4000000 in
theorem ref12_Shared {w : World} {v u : Value} {l m : List (List UInt8)} (h : StrsAt w v l) (hu : StrsAt w u m) :
    Calls Tryd.prog 21 #[v, u] w fun e w' => e = .returned (.int .i64 (comm l m)) ∧ Below w.heap.size w w' := by
  obtain ⟨hl, a, c, rfl, -, hat⟩ := h.open
  obtain ⟨hm, a2, c2, rfl, -, hbt⟩ := hu.open
  obtain ⟨n, HN⟩ : ∃ n, Hid (n = l.length) := ⟨_, rfl⟩
  obtain ⟨n2, HN2⟩ : ∃ n, Hid (n = m.length) := ⟨_, rfl⟩
  rw [← HN.out] at hl ⊢
  rw [← HN2.out] at hm ⊢
  obtain ⟨z, HZ⟩ : ∃ z, Hid (z = comm l m) := ⟨_, rfl⟩
  rw [← HZ.out]
  have HAT := hid hat
  have HBT := hid hbt
  clear hat hbt h hu
  go_enter Tryd.func21, Tryd.ntmps21
  go_wp2_with fail
  go_loopw [5] (fun v5 wr => ∃ i : Nat, v5 = .int .i64 i ∧ i ≤ n ∧ i ≤ n2 ∧ Hid (z = i + comm (l.drop i) (m.drop i)) ∧ Hid (Below w.heap.size w wr)) (fun v5 _ => n - (intOf v5).toNat)
  case atStart => exact ⟨0, rfl, by omega, by omega, by rw [Hid, HZ.out]; simp, Below.refl _ _⟩
  case round =>
    obtain ⟨i, rfl, hi, hi2, HI, HB⟩ := hrel
    by_cases h1 : i < n
    · by_cases h2 : i < n2
      · have hxi : l[i]? = some (l[i]'(by rw [← HN.out]; exact h1)) := List.getElem?_eq_getElem _
        generalize l[i]'(by rw [← HN.out]; exact h1) = x at hxi
        have hyi : m[i]? = some (m[i]'(by rw [← HN2.out]; exact h2)) := List.getElem?_eq_getElem _
        generalize m[i]'(by rw [← HN2.out]; exact h2) = y at hyi
        obtain ⟨-, b, o, ha, g0⟩ := HAT.out i x hxi
        obtain ⟨-, b2, o2, ha2, g2⟩ := HBT.out i y hyi
        have HC := hid (comm_at hxi hyi)
        have hix := index_run1 Tryd.underlying22 size_strp ha i h1 (cap := c)
        have hix2 := index_run1 Tryd.underlying22 size_strp ha2 i h2 (cap := c2)
        replace g0 := below_keeps HB.out _ _ g0
        replace g2 := below_keeps HB.out _ _ g2
        unfold strV at g0 g2
        have hd1 : decide ((i : Int) = n) = false := decide_eq_false (by omega)
        have hd2 : decide ((i : Int) = n2) = false := decide_eq_false (by omega)
        have hd3 : ((i : Int) == n) = false := by simp; omega
        have hd4 : ((i : Int) == n2) = false := by simp; omega
        have hd5 : (i == n) = false := by simp; omega
        have hd6 : (i == n2) = false := by simp; omega
        clear hxi hyi ha ha2
        by_cases hxy : x = y
        · have HC1 : Hid (z = (i + 1) + comm (l.drop (i + 1)) (m.drop (i + 1))) := by
            rw [Hid, HI.out, HC.out, if_pos hxy]; omega
          have hb1 : (x != y) = false := by simpa using hxy
          have hb2 : (x == y) = true := by simpa using hxy
          have HXY := hid hxy
          clear hxy
          go_wp2_with fail
          go_quiet (fail)
          go_wp2_with fail
          go_roundw
          case rel => exact ⟨i + 1, by go_num, h1, h2, HC1.out, below_drewN HB.out _⟩
          case measure => simp [intOf]; omega
        · have HC1 : Hid (z = i) := by
            rw [Hid, HI.out, HC.out, if_neg hxy]; omega
          have hb1 : (x != y) = true := by simpa using hxy
          have hb2 : (x == y) = false := by simpa using hxy
          have HXY := hid hxy
          clear hxy
          go_wp2_with fail
          go_quiet (fail)
          go_wp2_with fail
          go_ret
          exact ⟨by rw [HC1.out]; first | done | rfl, below_drewN HB.out _⟩
      · obtain rfl : i = n2 := by omega
        have HC1 : Hid (z = i) := by
          rw [Hid, HI.out, comm_end (.inr (by rw [← HN2.out]; omega))]; omega
        have hd1 : decide ((i : Int) = n) = false := decide_eq_false (by omega)
        have hd3 : ((i : Int) == n) = false := by simp; omega
        have hd5 : (i == n) = false := by simp; omega
        go_wp2_with fail
        go_quiet (fail)
        go_wp2_with fail
        go_ret
        exact ⟨by rw [HC1.out]; first | done | rfl, below_drewN HB.out _⟩
    · obtain rfl : i = n := by omega
      have HC1 : Hid (z = i) := by
        rw [Hid, HI.out, comm_end (.inl (by rw [← HN.out]; omega))]; omega
      go_wp2_with fail
      go_quiet (fail)
      go_wp2_with fail
      go_ret
      exact ⟨by rw [HC1.out]; first | done | rfl, below_drewN HB.out _⟩

set_option maxRecDepth 100000 in
set_option maxHeartbeats 4000000 in
theorem ref12_Same {w : World} {v u : Value} {l m : List (List UInt8)} (h : StrsAt w v l) (hu : StrsAt w u m) :
    Calls Tryd.prog 10 #[v, u] w fun e w' => e = .returned (.bool (decide (l = m))) ∧ Below w.heap.size w w' := by
  have HS := hid (ref12_Shared h hu)
  obtain ⟨hl, a, c, rfl, -, -⟩ := h.open
  obtain ⟨hm, a2, c2, rfl, -, -⟩ := hu.open
  obtain ⟨n, HN⟩ : ∃ n, Hid (n = l.length) := ⟨_, rfl⟩
  obtain ⟨n2, HN2⟩ : ∃ n, Hid (n = m.length) := ⟨_, rfl⟩
  rw [← HN.out] at hl HS ⊢
  rw [← HN2.out] at hm HS ⊢
  obtain ⟨z, HZ⟩ : ∃ z, Hid (z = comm l m) := ⟨_, rfl⟩
  rw [← HZ.out] at HS
  have hzn : z ≤ n := by rw [HZ.out, HN.out]; exact (comm_le l m).1
  obtain ⟨y, HY⟩ : ∃ y, Hid (decide (l = m) = y) := ⟨_, rfl⟩
  rw [HY.out]
  clear h hu
  by_cases hn : n = n2
  · have HYZ : Hid (decide (z = n) = y) := by
      rw [Hid, ← HY.out]
      have := comm_all (a := l) (b := m) (by rw [← HN.out, ← HN2.out]; exact hn)
      rw [← HZ.out, ← HN.out] at this
      exact decide_eq_decide.2 this
    subst hn
    go_enter Tryd.func10, Tryd.ntmps10
    go_wp2_with fail
    refine HS.out.mono ?_
    rintro e w1 ⟨rfl, hb⟩
    by_cases hz : z = n
    · have HYT : Hid (y = true) := by rw [Hid, ← HYZ.out]; exact decide_eq_true hz
      subst hz
      go_wp2_with fail
      go_ret
      exact ⟨by rw [HYT.out]; first | done | simp, hb⟩
    · have HYT : Hid (y = false) := by rw [Hid, ← HYZ.out]; exact decide_eq_false hz
      have e1 : decide ((z : Int) = n) = false := decide_eq_false (by omega)
      have e2 : ((z : Int) == n) = false := by simp; omega
      have e3 : (z == n) = false := by simp; omega
      have HZN := hid hz
      clear hz
      go_wp2_with fail
      go_ret
      exact ⟨by rw [HYT.out]; first | done | rfl, hb⟩
  · have HYT : Hid (y = false) := by
      rw [Hid, ← HY.out]
      exact decide_eq_false fun e => hn (by rw [HN.out, HN2.out, e])
    have e1 : decide ((n : Int) = n2) = false := decide_eq_false (by omega)
    have e2 : ((n : Int) == n2) = false := by simp; omega
    have e3 : (n == n2) = false := by simp; omega
    clear hn
    go_enter Tryd.func10, Tryd.ntmps10
    go_wp2_with fail
    go_ret
    exact ⟨by rw [HYT.out]; first | done | rfl, Below.refl _ _⟩

set_option maxRecDepth 100000 in
set_option maxHeartbeats 4000000 in
theorem ref12_Names {w : World} {v : Value} {l : List (List UInt8)} (h : StrsAt w v l) :
    Calls Tryd.prog 13 #[v] w fun e w' => e = .returned (.bool (namesOk l && decide (1 ≤ l.length ∧ l.length ≤ 65))) ∧ Below w.heap.size w w' := by
  obtain ⟨hl, a, c, rfl, -, hat⟩ := h.open
  obtain ⟨n, HN⟩ : ∃ n, Hid (n = l.length) := ⟨_, rfl⟩
  rw [← HN.out] at hl ⊢
  obtain ⟨y, HY⟩ : ∃ y, Hid ((namesOk l && decide (1 ≤ n ∧ n ≤ 65)) = y) := ⟨_, rfl⟩
  rw [HY.out]
  have HAT := hid hat
  clear hat h
  go_enter Tryd.func13, Tryd.ntmps13
  go_wp2_with fail
  go_loopw [3] (fun v3 wr => ∃ i : Nat, v3 = .int .i64 i ∧ i ≤ n ∧ Hid (namesOk (l.take i) = true) ∧ w = wr) (fun v3 _ => n - (intOf v3).toNat)
  case atStart => exact ⟨0, rfl, by omega, rfl, rfl⟩
  case round =>
    obtain ⟨i, rfl, hi, HI, rfl⟩ := hrel
    by_cases h1 : i < n
    · have hxi : l[i]? = some (l[i]'(by rw [← HN.out]; exact h1)) := List.getElem?_eq_getElem _
      generalize l[i]'(by rw [← HN.out]; exact h1) = x at hxi
      obtain ⟨hxl, b, o, ha, g0⟩ := HAT.out i x hxi
      have hix := index_run1 Tryd.underlying22 size_strp ha i h1 (cap := c)
      have hbl : b < w.heap.size := World.block_lt_of_cell? w _ g0
      unfold strV at g0
      have HRN := hid (ref07_Name ⟨x.toArray⟩ (by rw [str_size]; omega) w)
      have HTK : Hid (l.take (i + 1) = l.take i ++ [x]) := by rw [Hid, List.take_add_one, hxi]; rfl
      have HMX := hid (List.mem_of_getElem? hxi)
      clear hxi hxl ha
      cases hnm : nameOk ⟨x.toArray⟩ with
      | false =>
        have HYF : Hid (y = false) := by
          have : namesOk l = false := by
            unfold namesOk
            rw [List.all_eq_false]
            exact ⟨x, HMX.out, by simp [hnm]⟩
          rw [Hid, ← HY.out, this, Bool.false_and]
        have HNM := hid hnm
        clear hnm
        go_wp2_with (go_at_call 17; refine HRN.out.mono ?_; rintro e w1 ⟨rfl, rfl⟩; rw [HNM.out])
        go_ret
        exact ⟨by rw [HYF.out]; first | done | rfl, Below.refl _ _⟩
      | true =>
        have HNM := hid hnm
        clear hnm
        have HI2 : Hid (namesOk (l.take (i + 1)) = true) := by
          have h1 := HI.out
          rw [Hid, HTK.out]
          unfold namesOk at h1 ⊢
          rw [List.all_append, h1]
          simp [HNM.out]
        go_wp2_with (go_at_call 17; refine HRN.out.mono ?_; rintro e w1 ⟨rfl, rfl⟩; rw [HNM.out])
        go_roundw
        case rel => exact ⟨i + 1, by go_num, h1, HI2, by first | trivial | rfl⟩
        case measure => simp [intOf]; omega
    · obtain rfl : i = n := by omega
      have HNL : Hid (namesOk l = true) := by
        have := HI.out
        rwa [HN.out, List.take_length] at this
      by_cases hb1 : 1 ≤ i
      · by_cases hb2 : i ≤ 65
        · have HYT : Hid (y = true) := by rw [Hid, ← HY.out, HNL.out, decide_eq_true ⟨hb1, hb2⟩]; rfl
          go_wp2_with fail
          go_ret
          exact ⟨by rw [HYT.out]; first | done | rfl | (simp; done) | (simp; omega), Below.refl _ _⟩
        · have HYT : Hid (y = false) := by rw [Hid, ← HY.out, decide_eq_false (by omega), Bool.and_false]
          go_wp2_with fail
          go_ret
          exact ⟨by rw [HYT.out]; first | done | rfl | (simp; done) | (simp; omega), Below.refl _ _⟩
      · have HYT : Hid (y = false) := by rw [Hid, ← HY.out, decide_eq_false (by omega), Bool.and_false]
        go_wp2_with fail
        go_ret
        exact ⟨by rw [HYT.out]; first | done | rfl | (simp; done) | (simp; omega), Below.refl _ _⟩

end Go.Proofs.YtgephhmkaonahaaDoor

namespace Go.Proofs.YtgephhmkaonahaaDoor
open Go.RowKit

theorem split_use {w : World} {p : List UInt8} {y : Bool} (hy : pathOk p = y) : ∀ e w', SplitPost w p e w' → ∃ (v' : Value) (c : Int), e = .returned (.tuple #[v', .int .u8 c]) ∧ Hid (c = if y = true then 0 else 12) ∧ StrsOwn w' w.heap.size v' (if y = true then sdot p else []) ∧ Below w.heap.size w w' := by
  rintro e w' ⟨v', h1, h2, h3⟩
  subst hy
  refine ⟨v', _, h1, ?_, h2, h3⟩
  cases pathOk p <;> rfl
theorem sdot_strs {w : World} {base : Nat} {v : Value} {p : List UInt8} (h : StrsOwn w base v (sdot p)) (hp : p.length ≤ 549755813888) : StrsAt w v (sdot p) :=
  h.strs (by have := sdot_len p; omega) fun t ht => by have := sdot_mem_len p t ht; omega

set_option maxRecDepth 100000 in
set_option maxHeartbeats 4000000 in
theorem path_Under {w : World} (p q : List UInt8) (hp : p.length ≤ 549755813888) (hq : q.length ≤ 549755813888) :
    Calls Tryd.prog 14 #[strV p, strV q] w fun e w' => e = .returned (.bool (pathOk p && pathOk q && decide (comm (sdot p) (sdot q) = (sdot q).length))) ∧ Below w.heap.size w w' := by
  have HVP : Hid (strV p = .string ⟨p.toArray⟩) := rfl
  have HVQ : Hid (strV q = .string ⟨q.toArray⟩) := rfl
  have H1 := hid (path_Split (w := w) p (by omega))
  have H2 : Hid (∀ W, Calls Tryd.prog 6 #[strV q] W (SplitPost W q)) := fun W => path_Split (w := W) q (by omega)
  obtain ⟨y, HY⟩ : ∃ y, Hid (pathOk p = y) := ⟨_, rfl⟩
  obtain ⟨z, HZ⟩ : ∃ y, Hid (pathOk q = y) := ⟨_, rfl⟩
  obtain ⟨r, HR⟩ : ∃ r, Hid ((pathOk p && pathOk q && decide (comm (sdot p) (sdot q) = (sdot q).length)) = r) := ⟨_, rfl⟩
  have HPQ := hid (And.intro hp hq)
  rw [HVP.out] at H1 ⊢
  rw [HVQ.out] at H2 ⊢
  rw [HR.out]
  clear hp hq
  go_enter Tryd.func14, Tryd.ntmps14
  go_wp2_with fail
  refine H1.out.mono ?_
  intro e w1 h1
  obtain ⟨v1, c1, rfl, HC1, hO1, hb1⟩ := split_use HY.out e w1 h1
  have HO1 := hid hO1
  have HB1 := hid hb1
  clear h1 hO1 hb1
  go_wp2_with fail
  refine (H2.out _).mono ?_
  intro e w2 h2
  obtain ⟨v2, c2, rfl, HC2, hO2, hb2⟩ := split_use HZ.out e w2 h2
  have HO2 := hid hO2
  have HO1 := hid (HO1.out.later hb2)
  have HB2 := hid (HB1.out.trans (hb2.mono HB1.out.size))
  clear h2 hO2 hb2
  cases y with
  | false =>
    have HF : Hid (r = false) := by rw [Hid, ← HR.out, HY.out]; rfl
    obtain rfl : c1 = 12 := HC1.out
    go_wp2_with fail
    go_ret
    exact ⟨by rw [HF.out]; first | done | rfl, HB2.out⟩
  | true =>
    cases z with
    | false =>
      have HF : Hid (r = false) := by rw [Hid, ← HR.out, HZ.out, Bool.and_false]; rfl
      obtain rfl : c1 = 0 := HC1.out
      obtain rfl : c2 = 12 := HC2.out
      go_wp2_with fail
      go_ret
      exact ⟨by rw [HF.out]; first | done | rfl, HB2.out⟩
    | true =>
      have HO1' : Hid (StrsOwn w2 w.heap.size v1 (sdot p)) := HO1.out
      have HO2' : Hid (StrsOwn w2 w1.heap.size v2 (sdot q)) := HO2.out
      have HSH := hid (path_shared (sdot_strs HO1'.out HPQ.out.1) (sdot_strs HO2'.out HPQ.out.2))
      obtain ⟨a, c, e⟩ := HO2'.out.form
      obtain ⟨m, HM⟩ : ∃ m, Hid (m = (sdot q).length) := ⟨_, rfl⟩
      obtain ⟨s, HS⟩ : ∃ s, Hid (s = comm (sdot p) (sdot q)) := ⟨_, rfl⟩
      rw [← HM.out] at e
      subst e
      rw [← HS.out] at HSH
      have hsm : s ≤ m := by rw [HS.out, HM.out]; exact (comm_le _ _).2
      have hmb : m ≤ 549755813889 := by have := sdot_len q; have := HPQ.out.2; rw [HM.out]; omega
      have HRR : Hid (r = decide (s = m)) := by rw [Hid, ← HR.out, HY.out, HZ.out, ← HS.out, ← HM.out]; rfl
      obtain rfl : c1 = 0 := HC1.out
      obtain rfl : c2 = 0 := HC2.out
      go_wp2_with fail
      refine HSH.out.mono ?_
      rintro e w3 ⟨rfl, hb3⟩
      have HB3 := hid (HB2.out.trans (hb3.mono HB2.out.size))
      clear hb3
      go_wp2_with fail
      go_ret
      refine ⟨?_, HB3.out⟩
      rw [HRR.out]
      by_cases e : s = m
      · simp [e]
      · simp [e]; omega

theorem sdot_append : ∀ (a b : List UInt8), sdot (a ++ 46 :: b) = sdot a ++ sdot b
  | [], b => by
    show sdot (46 :: b) = [] :: sdot b
    rw [sdot, if_pos rfl]
  | c :: r, b => by
    have ih := sdot_append r b
    obtain ⟨h, t, e⟩ := sdot_cons r
    rw [List.cons_append, sdot, ih, sdot]
    by_cases hc : c = 46
    · rw [if_pos hc, if_pos hc]; rfl
    · rw [if_neg hc, if_neg hc, e]; rfl
/-- where a path ends and its last name begins -/
theorem sdot_last {p : List UInt8} {i : Nat} (hi : p[i]? = some 46) (hl : ∀ j, i < j → p[j]? ≠ some 46) : sdot p = sdot (p.take i) ++ [p.drop (i + 1)] := by
  obtain ⟨h1, h2⟩ := List.getElem?_eq_some_iff.1 hi
  have e : p = p.take i ++ 46 :: p.drop (i + 1) := by
    conv => lhs; rw [← List.take_append_drop i p]
    rw [List.drop_eq_getElem_cons h1, h2]
  conv => lhs; rw [e]
  rw [sdot_append, sdot_none (l := p.drop (i + 1))]
  intro hm
  obtain ⟨k, hk⟩ := List.mem_iff_getElem?.1 hm
  rw [List.getElem?_drop] at hk
  exact hl (i + 1 + k) (by omega) hk
def parentOf (p : List UInt8) : List UInt8 := if pathOk p = true ∧ 1 < (sdot p).length then sjoin (sdot p).dropLast else []
def hasParent (p : List UInt8) : Bool := pathOk p && decide (1 < (sdot p).length)
theorem last_cases (p : List UInt8) : (Lib.lastIndexByte ⟨p.toArray⟩ 46 = -1 ∧ (sdot p).length = 1) ∨ ∃ i : Nat, i < p.length ∧ Lib.lastIndexByte ⟨p.toArray⟩ 46 = i ∧ 1 < (sdot p).length ∧ sjoin (sdot p).dropLast = p.take i := by
  have hg : ∀ j, j < p.length → (⟨p.toArray⟩ : ByteArray).data[j]! = p[j]! := fun j hj => by simp
  rcases Lib.lastIndexByte_spec ⟨p.toArray⟩ 46 with ⟨h1, h2⟩ | ⟨i, h0, h1, h2, h3⟩
  · refine .inl ⟨h1, ?_⟩
    rw [sdot_none]
    · rfl
    · intro hm
      obtain ⟨k, hk⟩ := List.mem_iff_getElem?.1 hm
      obtain ⟨hkl, hk2⟩ := List.getElem?_eq_some_iff.1 hk
      refine h2 k (by rw [str_size]; exact hkl) ?_
      rw [hg k hkl]
      simp [hkl, hk2]
  · rw [str_size] at h0
    have hi : p[i]? = some 46 := by
      rw [hg i h0] at h2
      rw [List.getElem?_eq_getElem h0]
      have : (p[i].toNat : Int) = 46 := by simpa [h0] using h2
      congr 1
      exact UInt8.toNat.inj (by simpa using (by omega : p[i].toNat = 46))
    have hs := sdot_last hi (fun j hj hk => by
      obtain ⟨hjl, hk2⟩ := List.getElem?_eq_some_iff.1 hk
      refine h3 j hj (by rw [str_size]; exact hjl) ?_
      rw [hg j hjl]
      simp [hjl, hk2])
    refine .inr ⟨i, h0, h1, ?_, ?_⟩
    · obtain ⟨h, t, e⟩ := sdot_cons (p.take i)
      rw [hs, e]; simp
    · rw [hs, List.dropLast_concat, sjoin_sdot]

theorem lastDot (p : List UInt8) (hp : p.length ≤ 549755813888) (w : World) :
    Calls Tryd.prog 20 #[.string ⟨p.toArray⟩, .string ⟨#[46]⟩] w fun e w' => e = .returned (.int .i64 (Lib.lastIndexByte ⟨p.toArray⟩ 46)) ∧ w = w' := by
  refine (Tryd.strings_LastIndex_one ⟨p.toArray⟩ ⟨#[46]⟩ rfl (by rw [str_size]; omega) w).mono ?_
  rintro e w' ⟨h1, h2⟩
  exact ⟨h1, h2.symm⟩

set_option maxRecDepth 100000 in
set_option maxHeartbeats 4000000 in
theorem path_Parent {w : World} (p : List UInt8) (hp : p.length ≤ 549755813888) :
    Calls Tryd.prog 9 #[strV p] w fun e w' => e = .returned (.tuple #[strV (parentOf p), .bool (hasParent p)]) ∧ Below w.heap.size w w' := by
  have HVP : Hid (strV p = .string ⟨p.toArray⟩) := rfl
  have HR := hid (path_Right (w := w) p (by omega))
  have HL := hid (lastDot p hp w)
  obtain ⟨PO, HPO⟩ : ∃ v, Hid (v = strV (parentOf p)) := ⟨_, rfl⟩
  obtain ⟨y, HY⟩ : ∃ y, Hid (hasParent p = y) := ⟨_, rfl⟩
  obtain ⟨ok, HOK⟩ : ∃ y, Hid (pathOk p = y) := ⟨_, rfl⟩
  rw [HVP.out, HOK.out] at HR
  rw [HVP.out, ← HPO.out, HY.out]
  have hem : ∀ b : Bool, hasParent p = b → b = false → PO = .string ⟨#[]⟩ ∧ y = false := by
    intro b h1 h2
    subst h2
    refine ⟨?_, HY.out.symm.trans h1⟩
    rw [HPO.out, parentOf, if_neg]
    · rfl
    · rintro ⟨h3, h4⟩
      simp [hasParent, h3, h4] at h1
  have HEM := hid hem
  clear hem
  rcases last_cases p with ⟨h1, h2⟩ | ⟨i, h0, h1, h2, h3⟩
  · obtain ⟨e1, e2⟩ := HEM.out false (by simp [hasParent, h2]) rfl
    rw [h1] at HL
    have HE := hid (And.intro e1 e2)
    clear h1 h2 e1 e2 hp
    go_enter Tryd.func9, Tryd.ntmps9
    go_wp2_with (go_at_call 20; refine HL.out.mono ?_; rintro e w' ⟨rfl, rfl⟩)
    go_ret2
    exact ⟨by rw [HE.out.1, HE.out.2]; first | done | rfl, Below.refl _ _⟩
  · have hsh := slice_str_h p i (by omega)
    rw [HVP.out] at hsh
    rw [h1] at HL
    have hi : i ≤ 549755813888 := by omega
    cases ok with
    | false =>
      obtain ⟨e1, e2⟩ := HEM.out false (by simp [hasParent, HOK.out]) rfl
      have HE := hid (And.intro e1 e2)
      clear h1 h2 h3 h0 e1 e2 hp
      go_enter Tryd.func9, Tryd.ntmps9
      go_wp2_with (first | (go_at_call 20; refine HL.out.mono ?_; rintro e w' ⟨rfl, rfl⟩) | (go_at_call 11; refine HR.out.mono ?_; rintro e w1 ⟨rfl, hb1⟩))
      go_ret2
      exact ⟨by rw [HE.out.1, HE.out.2]; first | done | rfl, hb1⟩
    | true =>
      have HE : Hid (PO = strV (p.take i) ∧ y = true) := by
        refine ⟨by rw [HPO.out, parentOf, if_pos ⟨HOK.out, h2⟩, h3], ?_⟩
        rw [← HY.out, hasParent, HOK.out, decide_eq_true h2]; rfl
      have HVT : Hid (strV (p.take i) = .string ⟨(p.take i).toArray⟩) := rfl
      rw [HVT.out] at hsh HE
      have hsz : i ≤ (⟨p.toArray⟩ : ByteArray).size := by rw [str_size]; omega
      clear h1 h2 h3 h0 hp
      go_enter Tryd.func9, Tryd.ntmps9
      go_wp2_with (first | (go_at_call 20; refine HL.out.mono ?_; rintro e w' ⟨rfl, rfl⟩) | (go_at_call 11; refine HR.out.mono ?_; rintro e w1 ⟨rfl, hb1⟩))
      go_ret2
      exact ⟨by rw [HE.out.1, HE.out.2]; first | done | rfl, hb1⟩

theorem names_no46 {l : List (List UInt8)} (h : namesOk l = true) : ∀ x ∈ l, (46 : UInt8) ∉ x := by
  intro x hx hm
  unfold namesOk at h
  have h1 := List.all_eq_true.1 h x hx
  unfold nameOk at h1
  rw [Bool.and_eq_true] at h1
  obtain ⟨k, hk⟩ := List.mem_iff_getElem?.1 hm
  obtain ⟨hkl, hk2⟩ := List.getElem?_eq_some_iff.1 hk
  have h2 := List.all_eq_true.1 h1.1 k (List.mem_range.2 (by rw [str_size]; exact hkl))
  have hb : byteAt ⟨x.toArray⟩ k = 46 := by simp [byteAt, hkl, hk2]
  rw [hb] at h2
  unfold charOk letterOk at h2
  simp at h2
def joinOk (l : List (List UInt8)) : Bool := namesOk l && decide (1 ≤ l.length ∧ l.length ≤ 65)
theorem joinOk_iff (l : List (List UInt8)) : (pathOk (sjoin l) && decide (sdot (sjoin l) = l)) = joinOk l := by
  by_cases h : joinOk l = true
  · rw [h]
    unfold joinOk at h
    rw [Bool.and_eq_true] at h
    have h2 := of_decide_eq_true h.2
    have h3 : sdot (sjoin l) = l := sdot_sjoin (fun e => by rw [e] at h2; simp at h2) (names_no46 h.1)
    rw [pathOk, h3, h.1]
    simp [h2.2]
  · have hf : joinOk l = false := by simpa using h
    rw [hf]
    by_cases h3 : sdot (sjoin l) = l
    · have : pathOk (sjoin l) = false := by
        cases hp : pathOk (sjoin l) with
        | false => rfl
        | true =>
          exfalso
          apply h
          unfold pathOk at hp
          rw [h3, Bool.and_eq_true] at hp
          unfold joinOk
          rw [hp.2, Bool.true_and]
          refine decide_eq_true ⟨?_, of_decide_eq_true hp.1⟩
          obtain ⟨x, r, e⟩ := sdot_cons (sjoin l)
          rw [h3] at e
          rw [e]; simp
      rw [this, Bool.false_and]
    · rw [decide_eq_false h3, Bool.and_false]

theorem map_strs : ∀ l : List (List UInt8), (l.map fun t => (⟨t.toArray⟩ : ByteArray)).map (fun s : ByteArray => s.data.toList) = l
  | [] => rfl
  | x :: r => by rw [List.map_cons, List.map_cons, map_strs r]

theorem equal_strs {w : World} {v u : Value} {l m : List (List UInt8)} (h : StrsAt w v l) (hu : StrsAt w u m) :
    Calls Tryd.prog 19 #[v, u] w fun e w' => e = .returned (.bool (decide (l = m))) ∧ Below w.heap.size w w' := by
  obtain ⟨hl, a, c, rfl, -, hat⟩ := h.open
  obtain ⟨hm, a2, c2, rfl, -, hbt⟩ := hu.open
  by_cases hn : l.length = m.length
  · by_cases h0 : l.length = 0
    · obtain rfl : l = [] := List.eq_nil_of_length_eq_zero h0
      obtain rfl : m = [] := List.eq_nil_of_length_eq_zero (by omega)
      refine (Tryd.slices_Equal_string_empty a a2 c 0 c2 w (by omega)).mono ?_
      rintro e w' ⟨h1, rfl⟩
      exact ⟨by rw [h1]; simp, Below.refl _ _⟩
    · obtain ⟨-, b, o, rfl, -⟩ := hat 0 _ (List.getElem?_eq_getElem (by omega))
      obtain ⟨-, b2, o2, rfl, -⟩ := hbt 0 _ (List.getElem?_eq_getElem (by omega))
      have hc : ∀ (l : List (List UInt8)) (b o : Nat), (∀ k t, l[k]? = some t → t.length ≤ 140737488355328 ∧ ∃ b' o', (some ⟨b, o, none⟩ : Option Addr) = some ⟨b', o', none⟩ ∧ w.cell? ⟨b', o' + k, none⟩ = some (strV t)) →
          ∀ j, j < (l.map fun t => (⟨t.toArray⟩ : ByteArray)).length → w.cell? ⟨b, o + j, none⟩ = some (.string ((l.map fun t => (⟨t.toArray⟩ : ByteArray)).getD j ByteArray.empty)) := by
        intro l b o hat j hj
        rw [List.length_map] at hj
        obtain ⟨-, b', o', e, hcell⟩ := hat j _ (List.getElem?_eq_getElem hj)
        cases e
        rw [hcell]
        simp [strV, hj]
      refine (Tryd.slices_Equal_string b o l.length c b2 o2 m.length c2 (l.map fun t => ⟨t.toArray⟩) (m.map fun t => ⟨t.toArray⟩) w (by simp) (by simp) (by omega) (by omega) (hc l b o hat) (hc m b2 o2 hbt)).mono ?_
      rintro e w' ⟨h1, q, rfl⟩
      refine ⟨?_, below_drewN (Below.refl _ _) _⟩
      rw [h1, List.take_of_length_le (by simp), List.take_of_length_le (by simp)]
      have : ((l.map fun t => (⟨t.toArray⟩ : ByteArray)) = m.map fun t => ⟨t.toArray⟩) ↔ l = m := by
        constructor
        · intro e
          have := congrArg (List.map fun s : ByteArray => s.data.toList) e
          rwa [map_strs, map_strs] at this
        · rintro rfl; rfl
      rw [decide_eq_decide.2 this]
  · refine (Tryd.slices_Equal_string_lens a a2 l.length c m.length c2 w hn).mono ?_
    rintro e w' ⟨h1, rfl⟩
    exact ⟨by rw [h1, decide_eq_false (fun e => hn (by rw [e]))], Below.refl _ _⟩

theorem join_strs {w : World} {v : Value} {l : List (List UInt8)} (h : StrsAt w v l) (hw : twt l ≤ 549755813888) :
    Calls Tryd.prog 18 #[v, .string ⟨#[46]⟩] w fun e w' => e = .returned (strV (sjoin l)) ∧ Below w.heap.size w w' := by
  obtain ⟨hl, a, c, rfl, -, hat⟩ := h.open
  have hcap : l.length ≤ c := by
    obtain ⟨⟨_, _, a', c', e, h3, _⟩, _⟩ := h
    cases e; exact h3
  by_cases h0 : l.length = 0
  · obtain rfl : l = [] := List.eq_nil_of_length_eq_zero h0
    refine (Tryd.strings_Join_none a c ⟨#[46]⟩ w).mono ?_
    rintro e w' ⟨h1, rfl⟩
    exact ⟨h1, Below.refl _ _⟩
  · obtain ⟨-, b, o, rfl, hc0⟩ := hat 0 _ (List.getElem?_eq_getElem (by omega))
    have hmap : (l.map fun t => (⟨t.toArray⟩ : ByteArray)).map (·.data.toList) = l := map_strs l
    have hj := Tryd.strings_Join b o c (l.map fun t => ⟨t.toArray⟩) ⟨#[46]⟩ w (fun j x hx => by
      simp only [List.getElem?_map, Option.map_eq_some_iff] at hx
      obtain ⟨t, ht, rfl⟩ := hx
      obtain ⟨-, b', o', e, hcell⟩ := hat j t ht
      cases e
      exact hcell) (World.block_lt_of_cell? w _ hc0) (by simpa using hl) (by simpa using hcap) (by
        rw [hmap]
        show (Lib.join l [46]).length ≤ _
        rw [sjoin_lib]
        have := sjoin_len l
        omega)
    rw [hmap, List.length_map] at hj
    refine hj.mono ?_
    rintro e w' ⟨h1, h2⟩
    refine ⟨?_, h2⟩
    rw [h1]
    show Ending.returned (.string ⟨(Lib.join l [46]).toArray⟩) = _
    rw [sjoin_lib]; rfl

set_option maxRecDepth 100000 in
set_option maxHeartbeats 4000000 in
theorem path_Join {w : World} {v : Value} {l : List (List UInt8)} (h : StrsAt w v l) (hw : twt l ≤ 549755813888) :
    Calls Tryd.prog 8 #[v] w fun e w' => e = .returned (.tuple #[strV (if joinOk l = true then sjoin l else []), .int .u8 ((if joinOk l = true then 0 else 12 : Nat) : Int)]) ∧ Below w.heap.size w w' := by
  have HJ := hid (join_strs h hw)
  have HST := hid h
  obtain ⟨hl, a, c, rfl, -, -⟩ := h.open
  obtain ⟨n, HN⟩ : ∃ n, Hid (n = l.length) := ⟨_, rfl⟩
  rw [← HN.out] at hl HJ HST ⊢
  have hjl : (sjoin l).length ≤ 549755813888 := Nat.le_trans (sjoin_len l) hw
  have HSP : Hid (∀ W, Calls Tryd.prog 6 #[strV (sjoin l)] W (SplitPost W (sjoin l))) := fun W => path_Split (w := W) (sjoin l) (by omega)
  have HJL := hid hjl
  obtain ⟨js, HJS⟩ : ∃ s : ByteArray, Hid (s = ⟨(sjoin l).toArray⟩) := ⟨_, rfl⟩
  have HV : Hid (strV (sjoin l) = .string js) := by rw [HJS.out]; rfl
  rw [HV.out] at HJ HSP
  obtain ⟨r1, HR1⟩ : ∃ r : Value, Hid (r = strV (if joinOk l = true then sjoin l else [])) := ⟨_, rfl⟩
  obtain ⟨r2, HR2⟩ : ∃ r : Nat, Hid (r = if joinOk l = true then 0 else 12) := ⟨_, rfl⟩
  rw [← HR1.out, ← HR2.out]
  obtain ⟨y, HY⟩ : ∃ y, Hid (pathOk (sjoin l) = y) := ⟨_, rfl⟩
  obtain ⟨z, HZ⟩ : ∃ z, Hid (decide (sdot (sjoin l) = l) = z) := ⟨_, rfl⟩
  have HYZ : Hid (joinOk l = (y && z)) := by rw [Hid, ← joinOk_iff, HY.out, HZ.out]
  have HBAD : Hid (joinOk l = false → r1 = .string ⟨#[]⟩ ∧ r2 = 12) := by
    intro hb
    rw [HR1.out, HR2.out, hb]
    exact ⟨rfl, rfl⟩
  clear h hw hjl
  go_enter Tryd.func8, Tryd.ntmps8
  go_wp2_with fail
  refine HJ.out.mono ?_
  rintro e w1 ⟨rfl, hb1⟩
  have HB1 := hid hb1
  clear hb1
  go_wp2_with fail
  refine (HSP.out _).mono ?_
  intro e w2 h2
  obtain ⟨v2, c2, rfl, HC2, hO2, hb2⟩ := split_use HY.out e w2 h2
  have HO2 := hid hO2
  have HB2 := hid (HB1.out.trans (hb2.mono HB1.out.size))
  have HST2 := hid (HST.out.keep (below_keeps HB2.out))
  clear h2 hO2 hb2
  cases y with
  | false =>
    obtain rfl : c2 = 12 := HC2.out
    have HE := hid (HBAD.out (by rw [HYZ.out]; rfl))
    go_wp2_with fail
    go_ret2
    exact ⟨by rw [HE.out.1, HE.out.2]; first | done | rfl, HB2.out⟩
  | true =>
    obtain rfl : c2 = 0 := HC2.out
    have HO3 : Hid (StrsOwn w2 w1.heap.size v2 (sdot (sjoin l))) := HO2.out
    have HEQ := hid (equal_strs (sdot_strs HO3.out HJL.out) HST2.out)
    rw [HZ.out] at HEQ
    go_wp2_with fail
    refine HEQ.out.mono ?_
    rintro e w3 ⟨rfl, hb3⟩
    have HB3 := hid (HB2.out.trans (hb3.mono HB2.out.size))
    clear hb3
    cases z with
    | false =>
      have HE := hid (HBAD.out (by rw [HYZ.out]; rfl))
      go_wp2_with fail
      go_ret2
      exact ⟨by rw [HE.out.1, HE.out.2]; first | done | rfl, HB3.out⟩
    | true =>
      have HE : Hid (r1 = .string js ∧ r2 = 0) := by
        have hj : joinOk l = true := by rw [HYZ.out]; rfl
        refine ⟨by rw [HR1.out, if_pos hj, HV.out], by rw [HR2.out, if_pos hj]⟩
      go_wp2_with fail
      go_ret2
      exact ⟨by rw [HE.out.1, HE.out.2]; first | done | rfl, HB3.out⟩

end Go.Proofs.YtgephhmkaonahaaDoor

namespace Go.Proofs.YtgephhmkaonahaaDoor
open Go.RowKit

set_option maxRecDepth 100000 in
set_option maxHeartbeats 4000000 in
theorem law12_alive (w : World) : Calls Tryd.prog 4 #[] w fun e w' => e = .returned (.bool true) ∧ Below w.heap.size w w' := by
  have h1 : (pathOk [97, 46, 98, 46, 99] && pathOk [97, 46, 98] && decide (comm (sdot [97, 46, 98, 46, 99]) (sdot [97, 46, 98]) = (sdot [97, 46, 98]).length)) = true := by decide +kernel
  have h2 : (pathOk [97, 46, 98, 99] && pathOk [97, 46, 98] && decide (comm (sdot [97, 46, 98, 99]) (sdot [97, 46, 98]) = (sdot [97, 46, 98]).length)) = false := by decide +kernel
  have h3 : pathOk [97] = true := by decide +kernel
  have HA := hid (path_Under (w := w) [97, 46, 98, 46, 99] [97, 46, 98] (by decide) (by decide))
  have HB : Hid (∀ W, Calls Tryd.prog 14 #[strV [97, 46, 98, 99], strV [97, 46, 98]] W fun e w' => e = .returned (.bool false) ∧ Below W.heap.size W w') := fun W => by
    have := path_Under (w := W) [97, 46, 98, 99] [97, 46, 98] (by decide) (by decide)
    rw [h2] at this
    exact this
  have HC : Hid (∀ W, Calls Tryd.prog 11 #[strV [97]] W fun e w' => e = .returned (.bool true) ∧ Below W.heap.size W w') := fun W => by
    have := path_Right (w := W) [97] (by decide)
    rw [h3] at this
    exact this
  rw [h1] at HA
  unfold strV at HA HB HC
  clear h1 h2 h3
  go_enter Tryd.func4, Tryd.ntmps4
  go_wp2_with fail
  refine HA.out.mono ?_
  rintro e w1 ⟨rfl, hb1⟩
  have HB1 := hid hb1
  clear hb1
  go_wp2_with fail
  refine (HB.out _).mono ?_
  rintro e w2 ⟨rfl, hb2⟩
  have HB2 := hid (HB1.out.trans (hb2.mono HB1.out.size))
  clear hb2
  go_wp2_with fail
  refine (HC.out _).mono ?_
  rintro e w3 ⟨rfl, hb3⟩
  have HB3 := hid (HB2.out.trans (hb3.mono HB2.out.size))
  clear hb3
  go_wp2_with fail
  go_ret
  exact ⟨by first | rfl | simp, HB3.out⟩

theorem twt_snoc (l : List (List UInt8)) (k : Nat) (t : List UInt8) (h : l[k]? = some t) : twt (l.take (k + 1)) = twt (l.take k) + (1 + t.length) := sum_take _ l k t h

set_option maxRecDepth 100000 in
set_option maxHeartbeats 4000000 in
theorem law12_Long {w : World} {v : Value} {l : List (List UInt8)} (h : StrsAt w v l) (hw : twt l ≤ 1099511627776) :
    Calls Tryd.prog 5 #[v] w fun e w' => e = .returned (.bool (decide (6000 < twt l))) ∧ w = w' := by
  obtain ⟨hl, a, c, rfl, -, hat⟩ := h.open
  obtain ⟨n, HN⟩ : ∃ n, Hid (n = l.length) := ⟨_, rfl⟩
  rw [← HN.out] at hl ⊢
  obtain ⟨y, HY⟩ : ∃ y, Hid (y = twt l) := ⟨_, rfl⟩
  have HAT := hid hat
  have hy : y ≤ 1099511627776 := by rw [HY.out]; exact hw
  rw [← HY.out]
  clear hat h hw
  go_enter Tryd.func5, Tryd.ntmps5
  go_wp2_with fail
  go_loopw [3, 4] (fun v3 v4 wr => ∃ z i : Nat, v3 = .int .i64 z ∧ v4 = .int .i64 i ∧ i ≤ n ∧ z ≤ 1099511627776 ∧ Hid (z = twt (l.take i)) ∧ w = wr) (fun _ v4 _ => n - (intOf v4).toNat)
  case atStart => exact ⟨0, 0, rfl, rfl, by omega, by omega, rfl, rfl⟩
  case round =>
    obtain ⟨z, i, rfl, rfl, hi, hz, HZ, rfl⟩ := hrel
    by_cases h1 : i < n
    · have hxi : l[i]? = some (l[i]'(by rw [← HN.out]; exact h1)) := List.getElem?_eq_getElem _
      generalize l[i]'(by rw [← HN.out]; exact h1) = x at hxi
      obtain ⟨hxl, b, o, ha, g0⟩ := HAT.out i x hxi
      have hix := index_run1 Tryd.underlying22 size_strp ha i h1 (cap := c)
      have hbl : b < w.heap.size := World.block_lt_of_cell? w _ g0
      have HST : Hid (z + x.length + 1 = twt (l.take (i + 1)) ∧ z + x.length + 1 ≤ 1099511627776) := by
        have h2 := twt_snoc l i x hxi
        have h3 := twt_take' l (i + 1)
        have h4 := HZ.out
        have h5 := HY.out
        exact ⟨by omega, by omega⟩
      unfold strV at g0
      have hsb : (⟨x.toArray⟩ : ByteArray).size = x.length := str_size x
      obtain ⟨xs, HXS⟩ : ∃ xs : ByteArray, Hid (xs = ⟨x.toArray⟩) := ⟨_, rfl⟩
      obtain ⟨xl, HXL⟩ : ∃ xl, Hid (xl = x.length) := ⟨_, rfl⟩
      rw [← HXS.out] at g0 hsb
      rw [← HXL.out] at hsb HST hxl
      have hzb := HST.out.2
      clear hxi ha
      go_wp2_with fail
      go_roundw
      case rel => exact ⟨z + xl + 1, i + 1, by first | go_num | (rw [hsb]; go_num), by go_num, h1, HST.out.2, HST.out.1, by first | trivial | rfl⟩
      case measure => simp [intOf]; omega
    · obtain rfl : i = n := by omega
      have HZY : Hid (z = y) := by
        have := HZ.out
        rw [HN.out, List.take_length] at this
        rw [Hid, this, HY.out]
      by_cases hb : 6000 < z
      · have HD : Hid (decide (6000 < y) = true) := by rw [Hid, ← HZY.out]; exact decide_eq_true hb
        go_wp2_with fail
        go_ret
        exact ⟨by rw [HD.out]; first | done | rfl | (simp; done) | (simp; omega), rfl⟩
      · have HD : Hid (decide (6000 < y) = false) := by rw [Hid, ← HZY.out]; exact decide_eq_false hb
        go_wp2_with fail
        go_ret
        exact ⟨by rw [HD.out]; first | done | rfl | (simp; done) | (simp; omega), rfl⟩

/-- l[:j] of strings -/
theorem StrsAt.h {w : World} {a : Option Addr} {n cap : Nat} {l : List (List UInt8)} (h : StrsAt w (.slice a n cap) l) (hn : n = l.length) (j : Nat) (hj : j ≤ n) :
    ∃ a' c', (∀ W, (Instr.slice 22 (.slice a n cap) none (some (.int .i64 (j : Int))) none).run Tryd.prog W = .ok (.slice a' j c') W) ∧ StrsAt w (.slice a' j c') (l.take j) := by
  subst hn
  have hcap : l.length ≤ cap := by obtain ⟨⟨_, _, a', cap', hv, h3, _⟩, _⟩ := h; cases hv; exact h3
  refine ⟨_, _, fun W => slice_h_run under_strl size_strp a _ cap j (by omega) W, ?_⟩
  have hs := Seg.sub h.1 0 j (by omega) hj
  refine ⟨?_, fun t ht => h.2 t (List.mem_of_mem_take ht)⟩
  rw [List.length_take, Nat.min_eq_left (by omega), List.map_take]
  simpa [sliced] using hs

theorem twt_sdot : ∀ p : List UInt8, twt (sdot p) ≤ p.length + 1
  | [] => by simp [sdot, twt]
  | c :: r => by
    have ih := twt_sdot r
    obtain ⟨h, t, e⟩ := sdot_cons r
    rw [sdot]
    split
    · unfold twt at ih ⊢
      simp at ih ⊢
      omega
    · rw [e] at ih ⊢
      unfold twt at ih ⊢
      simp at ih ⊢
      omega

theorem own_if {w : World} {base : Nat} {v : Value} {p : List UInt8} {ok : Bool} (h : StrsOwn w base v (if ok = true then sdot p else [])) (hp : p.length ≤ 549755813888) : StrsAt w v (if ok = true then sdot p else []) := by
  cases ok with
  | true => exact sdot_strs (base := base) h hp
  | false => exact h.strs (by simp) (by simp)

set_option maxRecDepth 100000 in
set_option maxHeartbeats 8000000 in
theorem law12_PathSplits {w : World} {v : Value} (p : List UInt8) (hp : p.length ≤ 274877906944) {l : List (List UInt8)} (h : StrsAt w v l) (hw : twt l ≤ 274877906944) :
    Calls Tryd.prog 3 #[strV p, v] w fun e w' => e = .returned (.bool true) ∧ Below w.heap.size w w' := by
  have HVP : Hid (strV p = .string ⟨p.toArray⟩) := rfl
  have HST := hid h
  obtain ⟨hl, a, c, rfl, -, -⟩ := h.open
  obtain ⟨n, HN⟩ : ∃ n, Hid (n = l.length) := ⟨_, rfl⟩
  rw [← HN.out] at hl HST ⊢
  have HPW := hid (And.intro hp hw)
  have HSP : Hid (∀ W, Calls Tryd.prog 6 #[strV p] W (SplitPost W p)) := fun W => path_Split (w := W) p (by omega)
  have HRS : Hid (∀ W, Calls Tryd.prog 7 #[strV p] W (PairPost W (pathOk p) (if pathOk p = true then sdot p else []))) := fun W => ref12_Split (w := W) p (by omega)
  have HPP : Hid (∀ W, Calls Tryd.prog 9 #[strV p] W fun e w' => e = .returned (.tuple #[strV (parentOf p), .bool (hasParent p)]) ∧ Below W.heap.size W w') := fun W => path_Parent (w := W) p (by omega)
  have HPR : Hid (∀ W, Calls Tryd.prog 11 #[strV p] W fun e w' => e = .returned (.bool (pathOk p)) ∧ Below W.heap.size W w') := fun W => path_Right (w := W) p (by omega)
  obtain ⟨ps, HPS⟩ : ∃ s : ByteArray, Hid (s = ⟨p.toArray⟩) := ⟨_, rfl⟩
  have hsz : ps.size = p.length := by rw [HPS.out, str_size]
  rw [HVP.out, ← HPS.out] at HSP HRS HPP HPR ⊢
  obtain ⟨pn, HPN⟩ : ∃ k, Hid (k = p.length) := ⟨_, rfl⟩
  rw [← HPN.out] at hsz
  have hpn : pn ≤ 274877906944 := by rw [HPN.out]; exact hp
  obtain ⟨pa, HPA⟩ : ∃ s : ByteArray, Hid (strV (parentOf p) = .string s) := ⟨_, rfl⟩
  obtain ⟨hpb, HHP⟩ : ∃ b, Hid (hasParent p = b) := ⟨_, rfl⟩
  rw [HPA.out, HHP.out] at HPP
  obtain ⟨ok, HOK⟩ : ∃ b, Hid (pathOk p = b) := ⟨_, rfl⟩
  rw [HOK.out] at HRS HPR
  obtain ⟨jo, HJO⟩ : ∃ b, Hid (joinOk l = b) := ⟨_, rfl⟩
  obtain ⟨js, HJS⟩ : ∃ s : ByteArray, Hid (strV (if joinOk l = true then sjoin l else []) = .string s) := ⟨_, rfl⟩
  obtain ⟨jc, HJC⟩ : ∃ s : Nat, Hid ((if joinOk l = true then 0 else 12) = s) := ⟨_, rfl⟩
  have HJN : Hid (∀ W, Below w.heap.size w W → Calls Tryd.prog 8 #[.slice a n c] W fun e w' => e = .returned (.tuple #[.string js, .int .u8 jc]) ∧ Below W.heap.size W w') := fun W hb => by
    have := path_Join (HST.out.keep (below_keeps hb)) (by omega)
    rw [HJS.out, HJC.out] at this
    exact this
  have HNM : Hid (∀ W, Below w.heap.size w W → Calls Tryd.prog 13 #[.slice a n c] W fun e w' => e = .returned (.bool jo) ∧ Below W.heap.size W w') := fun W hb => by
    have := ref12_Names (HST.out.keep (below_keeps hb))
    rw [← HJO.out]
    exact this
  have HRJ : Hid (jo = true → ∀ W, Below w.heap.size w W → Calls Tryd.prog 12 #[.slice a n c] W fun e w' => e = .returned (.string js) ∧ Below W.heap.size W w') := fun hj W hb => by
    have h1 := ref12_Join (HST.out.keep (below_keeps hb)) (by omega)
    have h2 := HJS.out
    rw [if_pos (by rw [HJO.out]; exact hj)] at h2
    rw [h2] at h1
    exact h1
  have HJ0 : Hid (jo = false → js = ⟨#[]⟩ ∧ jc = 12) := fun hj => by
    have h1 := HJS.out
    have h2 := HJC.out
    rw [if_neg (by rw [HJO.out, hj]; decide)] at h1 h2
    exact ⟨(Value.string.inj h1).symm, h2.symm⟩
  have HJ1 : Hid (jo = true → jc = 0) := fun hj => by
    have h2 := HJC.out
    rw [if_pos (by rw [HJO.out, hj])] at h2
    exact h2.symm
  obtain ⟨L, HLL⟩ : ∃ L, Hid (L = if ok = true then sdot p else []) := ⟨_, rfl⟩
  obtain ⟨m, HM⟩ : ∃ m, Hid (m = L.length) := ⟨_, rfl⟩
  have hmb : m ≤ 274877906945 := by
    rw [HM.out, HLL.out]
    have := sdot_len p
    split <;> simp <;> omega
  obtain ⟨y, HY⟩ : ∃ y, Hid (y = decide (6000 < twt l)) := ⟨_, rfl⟩
  clear h hp hw
  go_enter Tryd.func3, Tryd.ntmps3
  go_wp2_with fail
  refine (law12_alive _).mono ?_
  rintro e w1 ⟨rfl, hb1⟩
  by_cases hbig : 6000 < pn
  · go_wp2_with fail
    go_ret
    exact ⟨rfl, hb1⟩
  have HL := hid (law12_Long (HST.out.keep (below_keeps hb1)) (by have := HPW.out; omega))
  rw [← HY.out] at HL
  have HB1 := hid hb1
  clear hb1
  go_wp2_with fail
  refine HL.out.mono ?_
  rintro e w2 ⟨rfl, rfl⟩
  cases y with
  | true =>
    go_wp2_with fail
    go_ret
    exact ⟨rfl, HB1.out⟩
  | false =>
    go_wp2_with fail
    refine (HSP.out _).mono ?_
    intro e w2 h2
    obtain ⟨v2, c2, rfl, HC2, hO2, hb2⟩ := split_use HOK.out e w2 h2
    have HO2 := hid hO2
    have HB2 := hid (HB1.out.trans (hb2.mono HB1.out.size))
    clear h2 hO2 hb2
    go_wp2_with fail
    refine (HRS.out _).mono ?_
    intro e w3 h3
    obtain ⟨v3, rfl, hO3, hb3⟩ := h3
    have HO3 : Hid (StrsOwn w3 w2.heap.size v3 (if ok = true then sdot p else [])) := hO3
    have HO2 := hid (HO2.out.later hb3)
    have HB3 := hid (HB2.out.trans (hb3.mono HB2.out.size))
    clear hO3 hb3
    rw [← HLL.out] at HO3
    have HO2' : Hid (StrsOwn w3 w1.heap.size v2 L) := by rw [HLL.out]; exact HO2.out
    obtain ⟨xa, xc, e2⟩ := HO2'.out.form
    obtain ⟨ya, yc, e3⟩ := HO3.out.form
    rw [← HM.out] at e2 e3
    subst e2
    subst e3
    have HX : Hid (StrsAt w3 (.slice xa m xc) L ∧ StrsAt w3 (.slice ya m yc) L) := by
      have h1 := HO2'.out
      have h2 := HO3.out
      rw [HLL.out] at h1 h2 ⊢
      exact ⟨own_if h1 (by have := HPW.out; omega), own_if h2 (by have := HPW.out; omega)⟩
    clear HO2 HO3 HO2'
    go_wp2_with fail
    refine (HJN.out _ HB3.out).mono ?_
    rintro e w4 ⟨rfl, hb4⟩
    have HX4 : Hid (StrsAt w4 (.slice xa m xc) L ∧ StrsAt w4 (.slice ya m yc) L) := ⟨HX.out.1.keep (below_keeps hb4), HX.out.2.keep (below_keeps hb4)⟩
    have HB4 := hid (HB3.out.trans (hb4.mono HB3.out.size))
    clear hb4 HX
    go_wp2_with fail
    refine (HPP.out _).mono ?_
    rintro e w5 ⟨rfl, hb5⟩
    have HX5 : Hid (StrsAt w5 (.slice xa m xc) L ∧ StrsAt w5 (.slice ya m yc) L) := ⟨HX4.out.1.keep (below_keeps hb5), HX4.out.2.keep (below_keeps hb5)⟩
    have HB5 := hid (HB4.out.trans (hb5.mono HB4.out.size))
    clear hb5 HX4
    have hsm := ref12_Same HX5.out.1 HX5.out.2
    rw [decide_eq_true (rfl : L = L)] at hsm
    have HSM := hid hsm
    clear hsm
    go_wp2_with fail
    refine HSM.out.mono ?_
    rintro e w6 ⟨rfl, hb6⟩
    have HY6 : Hid (StrsAt w6 (.slice ya m yc) L) := HX5.out.2.keep (below_keeps hb6)
    have HB6 := hid (HB5.out.trans (hb6.mono HB5.out.size))
    clear hb6 HX5 HSM
    go_wp2_with fail
    refine (HPR.out _).mono ?_
    rintro e w7 ⟨rfl, hb7⟩
    have HY7 : Hid (StrsAt w7 (.slice ya m yc) L) := HY6.out.keep (below_keeps hb7)
    have HB7 := hid (HB6.out.trans (hb7.mono HB6.out.size))
    clear hb7 HY6
    cases ok with
    | false =>
      obtain rfl : c2 = 12 := HC2.out
      have hm0 : m = 0 := by rw [HM.out, HLL.out]; rfl
      have hpb0 : hpb = false := by rw [← HHP.out, hasParent, HOK.out]; rfl
      have hpa0 : pa = ⟨#[]⟩ := by
        have h1 := HPA.out
        rw [parentOf, if_neg (by rw [HOK.out]; simp)] at h1
        exact (Value.string.inj h1).symm
      subst hm0
      subst hpb0
      subst hpa0
      go_wp2_with fail
      refine (HNM.out _ HB7.out).mono ?_
      rintro e w8 ⟨rfl, hb8⟩
      have HB8 := hid (HB7.out.trans (hb8.mono HB7.out.size))
      clear hb8
      cases jo with
      | false =>
        obtain ⟨e1, e2⟩ := HJ0.out rfl
        subst e1
        subst e2
        go_wp2_with fail
        go_ret
        exact ⟨by first | rfl | simp, HB8.out⟩
      | true =>
        obtain rfl : jc = 0 := HJ1.out rfl
        have HRJ' := hid (HRJ.out rfl _ HB8.out)
        go_wp2_with fail
        refine HRJ'.out.mono ?_
        rintro e w9 ⟨rfl, hb9⟩
        have HB9 := hid (HB8.out.trans (hb9.mono HB8.out.size))
        clear hb9
        go_wp2_with fail
        go_ret
        exact ⟨by first | rfl | simp, HB9.out⟩
    | true =>
      obtain rfl : c2 = 0 := HC2.out
      have hm : m = (sdot p).length := by rw [HM.out, HLL.out]; rfl
      by_cases hm1 : 1 < m
      · have hpb0 : hpb = true := by rw [← HHP.out, hasParent, HOK.out, decide_eq_true (by rw [← hm]; exact hm1)]; rfl
        subst hpb0
        obtain ⟨za, zc, hz, hzs⟩ := HY7.out.h HM.out (m - 1) (by omega)
        rw [show ((m - 1 : Nat) : Int) = (m : Int) - 1 by omega] at hz
        have hdl : L.take (m - 1) = (sdot p).dropLast := by
          rw [HM.out, HLL.out, if_pos rfl, List.dropLast_eq_take]
        have hrj := ref12_Join hzs (by
          have h1 : twt (L.take (m - 1)) ≤ twt L := twt_take' _ _
          have h2 : twt (sdot p) ≤ p.length + 1 := twt_sdot p
          have h3 : twt L = twt (sdot p) := by rw [HLL.out]; rfl
          have h4 := HPW.out.1
          generalize twt (L.take (m - 1)) = q1 at h1 ⊢
          omega)
        have hpa : strV (sjoin (L.take (m - 1))) = .string pa := by
          rw [hdl, ← HPA.out, parentOf, if_pos ⟨HOK.out, by rw [← hm]; exact hm1⟩]
        rw [hpa] at hrj
        have HRJ2 := hid hrj
        clear hdl hrj hpa hzs hm
        go_wp2_with fail
        refine HRJ2.out.mono ?_
        rintro e wa ⟨rfl, hba⟩
        have HBA := hid (HB7.out.trans (hba.mono HB7.out.size))
        clear hba hz
        go_wp2_with fail
        refine (HNM.out _ HBA.out).mono ?_
        rintro e w8 ⟨rfl, hb8⟩
        have HB8 := hid (HBA.out.trans (hb8.mono HBA.out.size))
        clear hb8
        cases jo with
        | false =>
          obtain ⟨e1, e2⟩ := HJ0.out rfl
          subst e1
          subst e2
          go_wp2_with fail
          go_ret
          exact ⟨by first | rfl | simp, HB8.out⟩
        | true =>
          obtain rfl : jc = 0 := HJ1.out rfl
          have HRJ' := hid (HRJ.out rfl _ HB8.out)
          go_wp2_with fail
          refine HRJ'.out.mono ?_
          rintro e w9 ⟨rfl, hb9⟩
          have HB9 := hid (HB8.out.trans (hb9.mono HB8.out.size))
          clear hb9
          go_wp2_with fail
          go_ret
          exact ⟨by first | rfl | simp, HB9.out⟩
      · have hm1' : m = 1 := by
          obtain ⟨x, r, e⟩ := sdot_cons p
          rw [e] at hm
          simp at hm
          omega
        have hpb0 : hpb = false := by rw [← HHP.out, hasParent, decide_eq_false (by rw [← hm]; omega), Bool.and_false]
        have hpa0 : pa = ⟨#[]⟩ := by
          have h1 := HPA.out
          rw [parentOf, if_neg (by rw [← hm]; omega)] at h1
          exact (Value.string.inj h1).symm
        clear hm hm1
        subst hm1'
        subst hpb0
        subst hpa0
        go_wp2_with fail
        refine (HNM.out _ HB7.out).mono ?_
        rintro e w8 ⟨rfl, hb8⟩
        have HB8 := hid (HB7.out.trans (hb8.mono HB7.out.size))
        clear hb8
        cases jo with
        | false =>
          obtain ⟨e1, e2⟩ := HJ0.out rfl
          subst e1
          subst e2
          go_wp2_with fail
          go_ret
          exact ⟨by first | rfl | simp, HB8.out⟩
        | true =>
          obtain rfl : jc = 0 := HJ1.out rfl
          have HRJ' := hid (HRJ.out rfl _ HB8.out)
          go_wp2_with fail
          refine HRJ'.out.mono ?_
          rintro e w9 ⟨rfl, hb9⟩
          have HB9 := hid (HB8.out.trans (hb9.mono HB8.out.size))
          clear hb9
          go_wp2_with fail
          go_ret
          exact ⟨by first | rfl | simp, HB9.out⟩

end Go.Proofs.YtgephhmkaonahaaDoor
