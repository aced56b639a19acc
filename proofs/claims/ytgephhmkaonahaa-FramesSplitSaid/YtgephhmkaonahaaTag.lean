/- What tag.Right, tag.Read and the document's Right and Read of tags return on any bytes: tread. No condition beyond that the argument reads as bytes. -/
import Derived.Test.YtgephhmkaonahaaVarint2
namespace Go.Proofs.Ytgephhmkaonahaa
open Go.RowKit

def tagOk (n w : Int) : Bool := decide (1 ≤ n ∧ n ≤ 536870911 ∧ (w = 0 ∨ w = 1 ∨ w = 2 ∨ w = 5))
/-- number, wire type, how many bytes, code -/
def tread (l : List UInt8) : Nat × Nat × Nat × Nat :=
  if (vread l).2.2 ≠ 0 then (0, 0, 0, (vread l).2.2) else
  if 536870911 < (vread l).1 / 8 ∨ tagOk ((vread l).1 / 8 : Nat) ((vread l).1 % 8 : Nat) = false then (0, 0, 0, 5) else ((vread l).1 / 8, (vread l).1 % 8, (vread l).2.1, 0)

theorem tread_cases (l : List UInt8) : (∃ x n, vread l = (x, n, 0) ∧ tread l = (x / 8, x % 8, n, 0) ∧ 0 < n ∧ n ≤ 10 ∧ n ≤ l.length ∧ x ≤ 4294967295 ∧ tagOk (x / 8 : Nat) (x % 8 : Nat) = true) ∨
    (∃ x n, vread l = (x, n, 0) ∧ tread l = (0, 0, 0, 5) ∧ x < 2 ^ 64 ∧ n ≤ 10 ∧ (4294967295 < x ∨ tagOk (x / 8 : Nat) (x % 8 : Nat) = false)) ∨ (∃ c, vread l = (0, 0, c) ∧ tread l = (0, 0, 0, c) ∧ (c = 3 ∨ c = 4)) := by
  rcases vread_cases l with ⟨x, n, e, h1, h2, h3, h4⟩ | ⟨c, e, h⟩
  · by_cases hx : 536870911 < x / 8 ∨ tagOk (x / 8 : Nat) (x % 8 : Nat) = false
    · refine .inr (.inl ⟨x, n, e, ?_, h4, h2, ?_⟩)
      · simp only [tread, e]
        rw [if_neg (by simp), if_pos hx]
      · rcases hx with hx | hx
        · exact .inl (by omega)
        · exact .inr hx
    · refine .inl ⟨x, n, e, ?_, h1, h2, h3, by omega, by
        cases h : tagOk (x / 8 : Nat) (x % 8 : Nat) with
        | true => rfl
        | false => exact absurd (.inr h) hx⟩
      simp only [tread, e]
      rw [if_neg (by simp), if_neg hx]
  · refine .inr (.inr ⟨c, e, ?_, h⟩)
    simp only [tread, e]
    rw [if_pos (by omega)]

set_option maxRecDepth 100000 in
theorem tag_Right (n x : Int) (hn : -9223372036854775808 ≤ n ∧ n ≤ 9223372036854775807) (w : World) :
    Calls Try.prog 176 #[.agg #[.int .i64 n, .int .i64 x]] w fun e w' => e = .returned (.bool (tagOk n x)) ∧ Below w.heap.size w w' := by
  by_cases h1 : 1 ≤ n
  · by_cases h2 : n ≤ 536870911
    · by_cases h3 : 0 ≤ x
      · by_cases h4 : x < 8
        · have H : Hid (tagOk n x = decide (x = 0 ∨ x = 1 ∨ x = 2 ∨ x = 5)) := by simp [Hid, tagOk, h1, h2]
          rcases (show x = 0 ∨ x = 1 ∨ x = 2 ∨ x = 3 ∨ x = 4 ∨ x = 5 ∨ x = 6 ∨ x = 7 by omega) with rfl | rfl | rfl | rfl | rfl | rfl | rfl | rfl
          all_goals
            go_enter Try.func176, Try.ntmps176
            go_wp2
            go_ret
            exact ⟨ret1 (by rw [H.out]; rfl), (Below.refl _ _).alloc (Nat.le_refl _) _⟩
        · have H : Hid (tagOk n x = false) := by simp [Hid, tagOk]; omega
          go_enter Try.func176, Try.ntmps176
          go_wp2
          go_ret
          exact ⟨ret1 (by rw [H.out]; rfl), (Below.refl _ _).alloc (Nat.le_refl _) _⟩
      · have H : Hid (tagOk n x = false) := by simp [Hid, tagOk]; omega
        go_enter Try.func176, Try.ntmps176
        go_wp2
        go_ret
        exact ⟨ret1 (by rw [H.out]; rfl), (Below.refl _ _).alloc (Nat.le_refl _) _⟩
    · have H : Hid (tagOk n x = false) := by simp [Hid, tagOk]; omega
      go_enter Try.func176, Try.ntmps176
      go_wp2
      go_ret
      exact ⟨ret1 (by rw [H.out]; rfl), (Below.refl _ _).alloc (Nat.le_refl _) _⟩
  · have H : Hid (tagOk n x = false) := by simp [Hid, tagOk]; omega
    go_enter Try.func176, Try.ntmps176
    go_wp2
    go_ret
    exact ⟨ret1 (by rw [H.out]; rfl), (Below.refl _ _).alloc (Nat.le_refl _) _⟩

set_option maxRecDepth 100000 in
theorem ref03_Right (n x : Int) (w : World) :
    Calls Try.prog 151 #[.int .i64 n, .int .i64 x] w fun e w' => e = .returned (.bool (tagOk n x)) ∧ w = w' := by
  by_cases h1 : 1 ≤ n
  · by_cases h2 : n ≤ 536870911
    · have H : Hid (tagOk n x = decide (x = 0 ∨ x = 1 ∨ x = 2 ∨ x = 5)) := by simp [Hid, tagOk, h1, h2]
      by_cases h : x = 0 ∨ x = 1 ∨ x = 2 ∨ x = 5
      · rcases h with rfl | rfl | rfl | rfl
        all_goals
          go_enter Try.func151, Try.ntmps151
          go_wp2
          go_ret
          exact ⟨ret1 (by rw [H.out]; rfl), rfl⟩
      · have e0 : (x == 0) = false := by simp; omega
        have e1 : (x == 1) = false := by simp; omega
        have e2 : (x == 2) = false := by simp; omega
        have e5 : (x == 5) = false := by simp; omega
        have HH := hid h
        clear h
        go_enter Try.func151, Try.ntmps151
        go_wp2
        go_ret
        exact ⟨ret1 (by rw [H.out]; simp [HH.out]), rfl⟩
    · have H : Hid (tagOk n x = false) := by simp [Hid, tagOk]; omega
      go_enter Try.func151, Try.ntmps151
      go_wp2
      go_ret
      exact ⟨ret1 (by rw [H.out]; rfl), rfl⟩
  · have H : Hid (tagOk n x = false) := by simp [Hid, tagOk]; omega
    go_enter Try.func151, Try.ntmps151
    go_wp2
    go_ret
    exact ⟨ret1 (by rw [H.out]; rfl), rfl⟩

theorem ret4 {a b c d a' b' c' d' : Value} (ha : a = a') (hb : b = b') (hc : c = c') (hd : d = d') : Ending.returned (.tuple #[a, b, c, d]) = .returned (.tuple #[a', b', c', d']) := by rw [ha, hb, hc, hd]

set_option maxRecDepth 100000 in
theorem ref03_Read {w : World} {v : Value} {l : List UInt8} (h : Bytes w v l) (i : Nat) (hi : i ≤ l.length) :
    Calls Try.prog 117 #[v, .int .i64 i] w fun e w' => e = .returned (.tuple #[.int .i64 (tread (l.drop i)).1, .int .i64 (tread (l.drop i)).2.1, .int .i64 (tread (l.drop i)).2.2.1, .int .i64 (tread (l.drop i)).2.2.2]) ∧ w = w' := by
  rcases tread_cases (l.drop i) with ⟨x, n, e, et, h1, h2, h3, h4, h5⟩ | ⟨x, n, e, et, h1, h2, h3⟩ | ⟨c, e, et, h1⟩
  · have E := hid e
    have ET := hid et
    have H5 := hid h5
    clear e et h5 h3
    go_enter Try.func117, Try.ntmps117
    go_wp2_with fail
    refine (ref02_Read h i hi).mono ?_
    rintro e w' ⟨rfl, rfl⟩
    rw [E.out]
    go_wp2_with fail
    refine (ref03_Right _ _ _).mono ?_
    rintro e w' ⟨rfl, rfl⟩
    rw [show (x : Int) / 8 = ((x / 8 : Nat) : Int) from by omega, show (x : Int) % 8 = ((x % 8 : Nat) : Int) from by omega, H5.out]
    go_wp2
    refine bodyPost_ret (v := .tuple #[.int .i64 (x / 8 : Nat), .int .i64 (x % 8 : Nat), .int .i64 n, .int .i64 0]) ?_ rfl ?_
    · simp [results, Try.results117, go_sem]
    · rw [ET.out]
      exact ⟨rfl, rfl⟩
  · have E := hid e
    have ET := hid et
    clear e et
    go_enter Try.func117, Try.ntmps117
    go_wp2_with fail
    refine (ref02_Read h i hi).mono ?_
    rintro e w' ⟨rfl, rfl⟩
    rw [E.out]
    by_cases hx : 4294967295 < x
    · clear h3
      go_wp2
      refine bodyPost_ret (v := .tuple #[.int .i64 0, .int .i64 0, .int .i64 0, .int .i64 5]) ?_ rfl ?_
      · simp [results, Try.results117, go_sem]
      · rw [ET.out]
        exact ⟨rfl, rfl⟩
    · have H5 : Hid (tagOk (x / 8 : Nat) (x % 8 : Nat) = false) := hid (h3.resolve_left hx)
      clear h3
      go_wp2_with fail
      refine (ref03_Right _ _ _).mono ?_
      rintro e w' ⟨rfl, rfl⟩
      rw [show (x : Int) / 8 = ((x / 8 : Nat) : Int) from by omega, show (x : Int) % 8 = ((x % 8 : Nat) : Int) from by omega, H5.out]
      go_wp2
      refine bodyPost_ret (v := .tuple #[.int .i64 0, .int .i64 0, .int .i64 0, .int .i64 5]) ?_ rfl ?_
      · simp [results, Try.results117, go_sem]
      · rw [ET.out]
        exact ⟨rfl, rfl⟩
  · have E := hid e
    have ET := hid et
    have hc : ((c : Int) == 0) = false := by simp; omega
    clear e et h1
    go_enter Try.func117, Try.ntmps117
    go_wp2_with fail
    refine (ref02_Read h i hi).mono ?_
    rintro e w' ⟨rfl, rfl⟩
    rw [E.out]
    go_wp2
    refine bodyPost_ret (v := .tuple #[.int .i64 0, .int .i64 0, .int .i64 0, .int .i64 c]) ?_ rfl ?_
    · simp [results, Try.results117, go_sem]
    · rw [ET.out]
      exact ⟨rfl, rfl⟩

theorem and7 (x : Nat) (h : x < 2 ^ 64) : bits .and .u64 (x : Int) 7 = ((x % 8 : Nat) : Int) := by
  have := bits_and_u64_nat x 7 (by omega) (by omega)
  rw [show ((7 : Nat) : Int) = (7 : Int) from rfl] at this
  rw [this]
  congr 1
  exact Nat.and_two_pow_sub_one_eq_mod x 3

set_option maxRecDepth 100000 in
theorem tag_Read {w : World} {v : Value} {l : List UInt8} (h : Bytes w v l) :
    Calls Try.prog 187 #[v] w fun e w' => e = .returned (.tuple #[.agg #[.int .i64 (tread l).1, .int .i64 (tread l).2.1], .int .i64 (tread l).2.2.1, .int .u8 (tread l).2.2.2]) ∧ Below w.heap.size w w' := by
  rcases tread_cases l with ⟨x, n, e, et, h1, h2, h3, h4, h5⟩ | ⟨x, n, e, et, h1, h2, h3⟩ | ⟨c, e, et, h1⟩
  · have E := hid e
    have ET := hid et
    have H5 := hid h5
    have h7 := and7 x (by omega)
    clear e et h5 h3
    go_enter Try.func187, Try.ntmps187
    go_wp2_with fail
    refine (varint_Read (h.below ((Below.refl _ _).alloc (Nat.le_refl _) _))).mono ?_
    rintro e w' ⟨rfl, rfl⟩
    rw [E.out]
    go_wp2_with fail
    refine (tag_Right _ _ (by omega) _).mono ?_
    rintro e w1 ⟨rfl, hb⟩
    rw [show (x : Int) / 8 = ((x / 8 : Nat) : Int) from by omega, show (x : Int) % 8 = ((x % 8 : Nat) : Int) from by omega, H5.out]
    have c0 := below_keeps hb ⟨w.heap.size, 0, none⟩ (.int .i64 0) (by simp [go_sem])
    have c1 := below_keeps hb ⟨w.heap.size, 1, none⟩ (.int .i64 0) (by simp [go_sem])
    obtain ⟨hc, hf⟩ := bcell hb
    go_wp2
    refine bodyPost_ret (v := .tuple #[.agg #[.int .i64 (x / 8 : Nat), .int .i64 (x % 8 : Nat)], .int .i64 n, .int .u8 0]) ?_ rfl ?_
    · simp [results, Try.results187, go_sem, c0, c1]
    · rw [ET.out]
      refine ⟨rfl, ?_⟩
      exact ((((Below.refl _ _).alloc (Nat.le_refl _) _).alloc (by simp) _).trans (hb.mono (by simp; omega))).setCell (by simp) _ |>.setCell (by simp) _
  · have E := hid e
    have ET := hid et
    by_cases hx : 4294967295 < x
    · clear e et h3
      go_enter Try.func187, Try.ntmps187
      go_wp2_with fail
      refine (varint_Read (h.below ((Below.refl _ _).alloc (Nat.le_refl _) _))).mono ?_
      rintro e w' ⟨rfl, rfl⟩
      rw [E.out]
      go_wp2
      refine bodyPost_ret (v := .tuple #[.agg #[.int .i64 0, .int .i64 0], .int .i64 0, .int .u8 5]) ?_ rfl ?_
      · simp [results, Try.results187, go_sem]
      · rw [ET.out]
        exact ⟨rfl, by repeat (first | exact Below.refl _ _ | exact (Below.refl _ _).alloc (Nat.le_refl _) _ | refine Below.setCell ?_ (by simp) _)⟩
    · have H5 : Hid (tagOk (x / 8 : Nat) (x % 8 : Nat) = false) := hid (h3.resolve_left hx)
      have h7 := and7 x (by omega)
      clear e et h3
      go_enter Try.func187, Try.ntmps187
      go_wp2_with fail
      refine (varint_Read (h.below ((Below.refl _ _).alloc (Nat.le_refl _) _))).mono ?_
      rintro e w' ⟨rfl, rfl⟩
      rw [E.out]
      go_wp2_with fail
      refine (tag_Right _ _ (by omega) _).mono ?_
      rintro e w1 ⟨rfl, hb⟩
      rw [show (x : Int) / 8 = ((x / 8 : Nat) : Int) from by omega, show (x : Int) % 8 = ((x % 8 : Nat) : Int) from by omega, H5.out]
      have c0 := below_keeps hb ⟨w.heap.size, 0, none⟩ (.int .i64 0) (by simp [go_sem])
      have c1 := below_keeps hb ⟨w.heap.size, 1, none⟩ (.int .i64 0) (by simp [go_sem])
      obtain ⟨hc, hf⟩ := bcell hb
      go_wp2
      refine bodyPost_ret (v := .tuple #[.agg #[.int .i64 0, .int .i64 0], .int .i64 0, .int .u8 5]) ?_ rfl ?_
      · simp [results, Try.results187, go_sem, c0, c1]
      · rw [ET.out]
        exact ⟨rfl, ((((Below.refl _ _).alloc (Nat.le_refl _) _).alloc (by simp) _).trans (hb.mono (by simp; omega))).setCell (by simp) _ |>.setCell (by simp) _⟩
  · have E := hid e
    have ET := hid et
    have hc : ((c : Int) == 0) = false := by simp; omega
    clear e et h1
    go_enter Try.func187, Try.ntmps187
    go_wp2_with fail
    refine (varint_Read (h.below ((Below.refl _ _).alloc (Nat.le_refl _) _))).mono ?_
    rintro e w' ⟨rfl, rfl⟩
    rw [E.out]
    go_wp2
    refine bodyPost_ret (v := .tuple #[.agg #[.int .i64 0, .int .i64 0], .int .i64 0, .int .u8 c]) ?_ rfl ?_
    · simp [results, Try.results187, go_sem]
    · rw [ET.out]
      exact ⟨rfl, by repeat (first | exact Below.refl _ _ | exact (Below.refl _ _).alloc (Nat.le_refl _) _ | refine Below.setCell ?_ (by simp) _)⟩

end Go.Proofs.Ytgephhmkaonahaa
