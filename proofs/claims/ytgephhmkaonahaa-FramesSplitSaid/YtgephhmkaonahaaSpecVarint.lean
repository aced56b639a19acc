/- Plain law: what a varint's bytes tell, in two spellings (one pass from the first piece; all pieces from the last). No program in sight. No condition. -/
import Init
namespace Go.Proofs.Ytgephhmkaonahaa

def vgo : Nat → Nat → List UInt8 → Nat × Nat × Nat
  | _, _, [] => (0, 0, 3)
  | i, acc, c :: r => if i = 9 ∧ 1 < c.toNat then (0, 0, 4) else if c.toNat < 128 then (acc + c.toNat * 128 ^ i, i + 1, 0) else vgo (i + 1) (acc + (c.toNat - 128) * 128 ^ i) r
def vread (l : List UInt8) : Nat × Nat × Nat := vgo 0 0 l

def pieces : Nat → List UInt8 → Nat
  | 0, _ => 0
  | _, [] => 0
  | n + 1, c :: r => c.toNat % 128 + 128 * pieces n r

theorem pieces_lt : ∀ (n : Nat) (l : List UInt8), pieces n l < 128 ^ n
  | 0, _ => by simp [pieces]
  | n + 1, [] => by simp only [pieces]; exact Nat.pow_pos (by omega)
  | n + 1, c :: r => by
    have := pieces_lt n r
    simp only [pieces, Nat.pow_succ]
    omega

theorem vgo_run : ∀ (n i acc : Nat) (l : List UInt8), (∀ j, j < n → 128 ≤ (l.getD j 0).toNat) → i + n ≤ 9 → n < l.length → (l.getD n 0).toNat < 128 → (i + n = 9 → (l.getD n 0).toNat ≤ 1) →
    vgo i acc l = (acc + 128 ^ i * pieces (n + 1) l, i + n + 1, 0)
  | 0, i, acc, [], _, _, h, _, _ => by simp at h
  | 0, i, acc, c :: r, _, h1, _, h2, h3 => by
    simp at h2 h3
    rw [vgo, if_neg (by omega), if_pos h2]
    simp [pieces, Nat.mod_eq_of_lt h2, Nat.mul_comm]
  | n + 1, i, acc, [], _, _, h, _, _ => by simp at h
  | n + 1, i, acc, c :: r, h, h1, h2, h3, h4 => by
    have hc := h 0 (by omega)
    simp at hc h2 h3 h4
    rw [vgo, if_neg (by omega), if_neg (by omega), vgo_run n (i + 1) _ r (fun j hj => by simpa using h (j + 1) (by omega)) (by omega) h2 (by simpa using h3) (by intro e; simpa using h4 (by omega))]
    have e1 : c.toNat % 128 = c.toNat - 128 := by have := c.toNat_lt; omega
    have e3 : pieces (n + 1 + 1) (c :: r) = c.toNat % 128 + 128 * pieces (n + 1) r := rfl
    rw [e3, e1, Nat.pow_succ, Nat.mul_add]
    generalize pieces (n + 1) r = q
    have e2 : 128 ^ i * 128 * q = 128 ^ i * (128 * q) := Nat.mul_assoc _ _ _
    rw [e2, Nat.mul_comm (c.toNat - 128), Nat.add_assoc]
    refine Prod.ext rfl (Prod.ext ?_ rfl)
    show i + 1 + n + 1 = i + (n + 1) + 1
    omega

theorem vgo_short : ∀ (l : List UInt8) (i acc : Nat), (∀ j, j < l.length → 128 ≤ (l.getD j 0).toNat) → i + l.length ≤ 9 → vgo i acc l = (0, 0, 3)
  | [], _, _, _, _ => rfl
  | c :: r, i, acc, h, h1 => by
    have hc := h 0 (by simp)
    simp at hc h1
    rw [vgo, if_neg (by omega), if_neg (by omega)]
    exact vgo_short r (i + 1) _ (fun j hj => by simpa using h (j + 1) (by simp; omega)) (by omega)

theorem vgo_over : ∀ (n : Nat) (l : List UInt8) (i acc : Nat), (∀ j, j < n → 128 ≤ (l.getD j 0).toNat) → i + n = 9 → n < l.length → 1 < (l.getD n 0).toNat → vgo i acc l = (0, 0, 4)
  | 0, [], _, _, _, _, h, _ => by simp at h
  | 0, c :: r, i, acc, _, h1, _, h2 => by
    simp at h2
    rw [vgo, if_pos (by omega)]
  | n + 1, [], _, _, _, _, h, _ => by simp at h
  | n + 1, c :: r, i, acc, h, h1, h2, h3 => by
    have hc := h 0 (by omega)
    simp at hc h2 h3
    rw [vgo, if_neg (by omega), if_neg (by omega)]
    exact vgo_over n r (i + 1) _ (fun j hj => by simpa using h (j + 1) (by omega)) (by omega) h2 (by simpa using h3)

/-- Of what vread tells: codes, lengths, words. -/
theorem vgo_bounds : ∀ (l : List UInt8) (i acc : Nat), i ≤ 9 → acc < 128 ^ i →
    ((vgo i acc l).2.2 = 0 ∧ i < (vgo i acc l).2.1 ∧ (vgo i acc l).2.1 ≤ 10 ∧ (vgo i acc l).2.1 ≤ i + l.length ∧ (vgo i acc l).1 < 2 ^ 64) ∨
      ((vgo i acc l).1 = 0 ∧ (vgo i acc l).2.1 = 0 ∧ ((vgo i acc l).2.2 = 3 ∨ (vgo i acc l).2.2 = 4))
  | [], i, acc, _, _ => .inr ⟨rfl, rfl, .inl rfl⟩
  | c :: r, i, acc, hi, ha => by
    rw [vgo]
    split
    · exact .inr ⟨rfl, rfl, .inr rfl⟩
    · split
      · refine .inl ⟨rfl, by simp, by simp; omega, by simp, ?_⟩
        show acc + c.toNat * 128 ^ i < 2 ^ 64
        rename_i h9 h128
        have e9 : (128 : Nat) ^ 9 = 2 ^ 63 := by decide
        by_cases e : i = 9
        · subst e
          have : c.toNat * 128 ^ 9 ≤ 1 * 128 ^ 9 := Nat.mul_le_mul_right _ (by omega)
          omega
        · have h1 : c.toNat * 128 ^ i ≤ 127 * 128 ^ i := Nat.mul_le_mul_right _ (by omega)
          have h2 : (128 : Nat) ^ (i + 1) ≤ 128 ^ 9 := Nat.pow_le_pow_right (by omega) (by omega)
          rw [Nat.pow_succ] at h2
          omega
      · rename_i h9 h128
        have hi' : i + 1 ≤ 9 := by
          by_cases e : i = 9
          · subst e; omega
          · omega
        have ha' : acc + (c.toNat - 128) * 128 ^ i < 128 ^ (i + 1) := by
          have := c.toNat_lt
          have h1 : (c.toNat - 128) * 128 ^ i ≤ 127 * 128 ^ i := Nat.mul_le_mul_right _ (by omega)
          rw [Nat.pow_succ]
          omega
        rcases vgo_bounds r (i + 1) _ hi' ha' with ⟨a1, a2, a3, a4, a5⟩ | h
        · exact .inl ⟨a1, by omega, a3, by simp; omega, a5⟩
        · exact .inr h

/-- vread by its three outcomes. -/
theorem vread_cases (l : List UInt8) : (∃ w n, vread l = (w, n, 0) ∧ 0 < n ∧ n ≤ 10 ∧ n ≤ l.length ∧ w < 2 ^ 64) ∨ (∃ c, vread l = (0, 0, c) ∧ (c = 3 ∨ c = 4)) := by
  have h := vgo_bounds l 0 0 (by omega) (by simp)
  unfold vread
  generalize vgo 0 0 l = x at h ⊢
  obtain ⟨w, n, c⟩ := x
  simp at h
  rcases h with ⟨rfl, h1, h2, h3, h4⟩ | ⟨rfl, rfl, h⟩
  · exact .inl ⟨w, n, rfl, h1, h2, h3, h4⟩
  · exact .inr ⟨c, rfl, h⟩

theorem pieces_suffix : ∀ (m n : Nat) (l : List UInt8), m ≤ n → pieces (n - m) (l.drop m) ≤ pieces n l
  | 0, n, l, _ => by simp
  | m + 1, 0, l, h => by omega
  | m + 1, n + 1, [], _ => by
    simp [pieces]
    cases n - m <;> simp [pieces]
  | m + 1, n + 1, c :: r, h => by
    have := pieces_suffix m n r (by omega)
    have e : n + 1 - (m + 1) = n - m := by omega
    rw [e]
    simp only [pieces, List.drop_succ_cons]
    omega

theorem pieces_step (n : Nat) (l : List UInt8) (h : 0 < l.length) : pieces (n + 1) l = 128 * pieces n (l.drop 1) + (l.getD 0 0).toNat % 128 := by
  cases l with
  | nil => simp at h
  | cons c r => simp [pieces]; omega

end Go.Proofs.Ytgephhmkaonahaa
