/- Plain law: which bytes begin with a code point, and how many they are, told in two ways (by the head's bits; by each length's code point's own bytes). No program in sight. No condition. -/
import Init
namespace Go.Proofs.Ytgephhmkaonahaa

def uhead (c : Nat) : Nat × Nat :=
  if c < 128 then (1, c) else if 192 ≤ c ∧ c < 224 then (2, c % 32) else if 224 ≤ c ∧ c < 240 then (3, c % 16) else if 240 ≤ c ∧ c < 248 then (4, c % 8) else (0, 0)
def uleast (n : Nat) : Nat := if n ≤ 1 then 0 else if n = 2 then 128 else if n = 3 then 2048 else 65536
def ucont : Nat → Nat → List UInt8 → Option Nat
  | 0, r, _ => some r
  | _ + 1, _, [] => none
  | k + 1, r, c :: t => if 128 ≤ c.toNat ∧ c.toNat < 192 then ucont k (r * 64 + c.toNat % 64) t else none
def ubad (n r : Nat) : Bool := decide (r < uleast n ∨ 1114111 < r ∨ 55296 ≤ r ∧ r ≤ 57343)
/-- how many bytes the first code point has; 0: there is none -/
def unext (l : List UInt8) : Nat :=
  match l with
  | [] => 0
  | c :: t =>
    if (uhead c.toNat).1 = 0 ∨ l.length < (uhead c.toNat).1 then 0 else
    match ucont ((uhead c.toNat).1 - 1) (uhead c.toNat).2 t with
    | none => 0
    | some r => if ubad (uhead c.toNat).1 r then 0 else (uhead c.toNat).1

theorem uhead_le (c : Nat) : (uhead c).1 ≤ 4 := by
  unfold uhead
  repeat' split
  all_goals simp

theorem unext_le (l : List UInt8) : unext l ≤ l.length ∧ unext l ≤ 4 := by
  unfold unext
  split
  · exact ⟨Nat.le_refl _, by omega⟩
  · rename_i c t
    have := uhead_le c.toNat
    split
    · exact ⟨Nat.zero_le _, by omega⟩
    · split
      · exact ⟨Nat.zero_le _, by omega⟩
      · split
        · exact ⟨Nat.zero_le _, by omega⟩
        · exact ⟨by omega, this⟩

/-- how many bytes stand ahead of the first that is not right -/
def ugo : Nat → List UInt8 → Nat
  | 0, _ => 0
  | f + 1, l => if unext l = 0 then 0 else unext l + ugo f (l.drop (unext l))
def ufirst (l : List UInt8) : Nat := ugo l.length l

theorem ugo_more : ∀ (f g : Nat) (l : List UInt8), l.length ≤ f → f ≤ g → ugo g l = ugo f l
  | 0, g, l, h, _ => by
    obtain rfl : l = [] := List.eq_nil_of_length_eq_zero (by omega)
    cases g <;> simp [ugo, unext]
  | f + 1, 0, l, _, h => by omega
  | f + 1, g + 1, l, h, hg => by
    simp only [ugo]
    split
    · rfl
    · rw [ugo_more f g _ (by rw [List.length_drop]; omega) (by omega)]

theorem ufirst_step (l : List UInt8) : ufirst l = if unext l = 0 then 0 else unext l + ufirst (l.drop (unext l)) := by
  unfold ufirst
  cases h : l.length with
  | zero =>
    obtain rfl : l = [] := List.eq_nil_of_length_eq_zero h
    simp [ugo, unext]
  | succ f =>
    simp only [ugo]
    split
    · rfl
    · rename_i hne
      have := unext_le l
      rw [ugo_more (l.drop (unext l)).length f _ (Nat.le_refl _) (by rw [List.length_drop]; omega)]

theorem ugo_le : ∀ (f : Nat) (l : List UInt8), ugo f l ≤ l.length
  | 0, _ => Nat.zero_le _
  | f + 1, l => by
    simp only [ugo]
    split
    · exact Nat.zero_le _
    · have := ugo_le f (l.drop (unext l))
      have := unext_le l
      rw [List.length_drop] at *
      omega
theorem ufirst_le (l : List UInt8) : ufirst l ≤ l.length := ugo_le _ _

def b8 (n : Nat) : UInt8 := UInt8.ofNat n
/-- a code point's bytes -/
def uput (r : Nat) : List UInt8 :=
  if 1114111 < r ∨ 55296 ≤ r ∧ r ≤ 57343 then [] else
  if r < 128 then [b8 r] else
  if r < 2048 then [b8 (192 + r / 64), b8 (128 + r % 64)] else
  if r < 65536 then [b8 (224 + r / 4096), b8 (128 + r / 64 % 64), b8 (128 + r % 64)] else
  [b8 (240 + r / 262144), b8 (128 + r / 4096 % 64), b8 (128 + r / 64 % 64), b8 (128 + r % 64)]

def umod (n c : Nat) : Nat := if n ≤ 1 then c else if n = 2 then c % 32 else if n = 3 then c % 16 else c % 8
def ufold : Nat → List UInt8 → Nat
  | r, [] => r
  | r, c :: t => ufold (64 * r + c.toNat % 64) t
/-- the code point that the first n bytes would be -/
def uval (n : Nat) (l : List UInt8) : Nat := ufold (umod n (l.getD 0 0).toNat) ((l.take n).drop 1)

theorem b8_eq (n : Nat) (c : UInt8) (h : n < 256) : b8 n = c ↔ n = c.toNat := by
  constructor
  · rintro rfl; simp [b8]; omega
  · intro e; apply UInt8.toNat_inj.1; simp [b8]; omega

theorem uhead_cases (c : Nat) : (c < 128 ∧ uhead c = (1, c)) ∨ (192 ≤ c ∧ c < 224 ∧ uhead c = (2, c % 32)) ∨ (224 ≤ c ∧ c < 240 ∧ uhead c = (3, c % 16)) ∨ (240 ≤ c ∧ c < 248 ∧ uhead c = (4, c % 8)) ∨
    ((128 ≤ c ∧ c < 192 ∨ 248 ≤ c) ∧ uhead c = (0, 0)) := by
  unfold uhead
  by_cases h1 : c < 128
  · exact .inl ⟨h1, if_pos h1⟩
  · rw [if_neg h1]
    by_cases h2 : 192 ≤ c ∧ c < 224
    · exact .inr (.inl ⟨h2.1, h2.2, if_pos h2⟩)
    · rw [if_neg h2]
      by_cases h3 : 224 ≤ c ∧ c < 240
      · exact .inr (.inr (.inl ⟨h3.1, h3.2, if_pos h3⟩))
      · rw [if_neg h3]
        by_cases h4 : 240 ≤ c ∧ c < 248
        · exact .inr (.inr (.inr (.inl ⟨h4.1, h4.2, if_pos h4⟩)))
        · exact .inr (.inr (.inr (.inr ⟨by omega, if_neg h4⟩)))

def cont (c : UInt8) : Prop := 128 ≤ c.toNat ∧ c.toNat < 192

theorem unext1 (c : UInt8) (t : List UInt8) : unext (c :: t) = 1 ↔ c.toNat < 128 := by
  have hc := c.toNat_lt
  rcases uhead_cases c.toNat with ⟨h, e⟩ | ⟨h, h', e⟩ | ⟨h, h', e⟩ | ⟨h, h', e⟩ | ⟨h, e⟩
  · simp only [unext, e]
    have hb : ubad 1 c.toNat = false := by simp [ubad, uleast]; omega
    simp [ucont, hb, h]
  all_goals
    have hne : ¬ c.toNat < 128 := by omega
    simp only [hne, iff_false]
    simp only [unext, e]
    repeat' split
    all_goals omega

theorem unext2 (c d : UInt8) (t : List UInt8) : unext (c :: d :: t) = 2 ↔ 192 ≤ c.toNat ∧ c.toNat < 224 ∧ cont d ∧ 128 ≤ c.toNat % 32 * 64 + d.toNat % 64 := by
  have hc := c.toNat_lt
  rcases uhead_cases c.toNat with ⟨h, e⟩ | ⟨h, h', e⟩ | ⟨h, h', e⟩ | ⟨h, h', e⟩ | ⟨h, e⟩
  case inr.inl =>
    simp only [unext, e, ucont, cont]
    rw [if_neg (by simp)]
    by_cases hd : 128 ≤ d.toNat ∧ d.toNat < 192
    · simp only [hd, and_self, if_true, ubad, uleast]
      by_cases hr : 128 ≤ c.toNat % 32 * 64 + d.toNat % 64
      · rw [if_neg (by simp; omega)]
        simp [h, h', hr]
      · rw [if_pos (by simp; omega)]
        simp [hr]
    · simp [hd]
  all_goals
    have hne : ¬ (192 ≤ c.toNat ∧ c.toNat < 224 ∧ cont d ∧ 128 ≤ c.toNat % 32 * 64 + d.toNat % 64) := by omega
    simp only [hne, iff_false]
    simp only [unext, e]
    repeat' split
    all_goals omega

theorem unext3 (c d f : UInt8) (t : List UInt8) : unext (c :: d :: f :: t) = 3 ↔ 224 ≤ c.toNat ∧ c.toNat < 240 ∧ cont d ∧ cont f ∧
    2048 ≤ (c.toNat % 16 * 64 + d.toNat % 64) * 64 + f.toNat % 64 ∧ ¬ (55296 ≤ (c.toNat % 16 * 64 + d.toNat % 64) * 64 + f.toNat % 64 ∧ (c.toNat % 16 * 64 + d.toNat % 64) * 64 + f.toNat % 64 ≤ 57343) := by
  have hc := c.toNat_lt
  rcases uhead_cases c.toNat with ⟨h, e⟩ | ⟨h, h', e⟩ | ⟨h, h', e⟩ | ⟨h, h', e⟩ | ⟨h, e⟩
  case inr.inr.inl =>
    simp only [unext, e, ucont, cont]
    rw [if_neg (by simp)]
    by_cases hd : 128 ≤ d.toNat ∧ d.toNat < 192
    · by_cases hf : 128 ≤ f.toNat ∧ f.toNat < 192
      · simp only [hd, hf, and_self, if_true, ubad, uleast, true_and, h, h']
        by_cases hr : 2048 ≤ (c.toNat % 16 * 64 + d.toNat % 64) * 64 + f.toNat % 64 ∧ ¬ (55296 ≤ (c.toNat % 16 * 64 + d.toNat % 64) * 64 + f.toNat % 64 ∧ (c.toNat % 16 * 64 + d.toNat % 64) * 64 + f.toNat % 64 ≤ 57343)
        · rw [if_neg (by simp; omega)]
          simp only [hr, not_false_eq_true, and_self]
        · rw [if_pos (by simp; omega)]
          simp only [hr, iff_false]; omega
      · simp [hd, hf]
    · simp [hd]
  all_goals
    simp only [unext, e]
    repeat' split
    all_goals omega

theorem ubad4 (r : Nat) : ubad 4 r = decide (r < 65536 ∨ 1114111 < r) := by
  have e : uleast 4 = 65536 := rfl
  unfold ubad
  rw [e]
  congr 1
  apply propext
  omega

theorem unext4 (c d f g : UInt8) (t : List UInt8) : unext (c :: d :: f :: g :: t) = 4 ↔ 240 ≤ c.toNat ∧ c.toNat < 248 ∧ cont d ∧ cont f ∧ cont g ∧
    65536 ≤ ((c.toNat % 8 * 64 + d.toNat % 64) * 64 + f.toNat % 64) * 64 + g.toNat % 64 ∧ ((c.toNat % 8 * 64 + d.toNat % 64) * 64 + f.toNat % 64) * 64 + g.toNat % 64 ≤ 1114111 := by
  have hc := c.toNat_lt
  rcases uhead_cases c.toNat with ⟨h, e⟩ | ⟨h, h', e⟩ | ⟨h, h', e⟩ | ⟨h, h', e⟩ | ⟨h, e⟩
  case inr.inr.inr.inl =>
    simp only [unext, e, ucont, cont]
    rw [if_neg (by simp)]
    by_cases hd : 128 ≤ d.toNat ∧ d.toNat < 192
    · by_cases hf : 128 ≤ f.toNat ∧ f.toNat < 192
      · by_cases hg : 128 ≤ g.toNat ∧ g.toNat < 192
        · simp only [hd, hf, hg, and_self, if_true, ubad4, true_and, h, h']
          by_cases hr : 65536 ≤ ((c.toNat % 8 * 64 + d.toNat % 64) * 64 + f.toNat % 64) * 64 + g.toNat % 64 ∧ ((c.toNat % 8 * 64 + d.toNat % 64) * 64 + f.toNat % 64) * 64 + g.toNat % 64 ≤ 1114111
          · rw [if_neg (by simp; omega)]
            simp only [hr, and_self]
          · rw [if_pos (by simp; omega)]
            simp only [hr, iff_false]; omega
        · simp [hd, hf, hg]
      · simp [hd, hf]
    · simp [hd]
  all_goals
    simp only [unext, e]
    repeat' split
    all_goals omega

theorem uput_len (r : Nat) : (uput r).length = if 1114111 < r ∨ 55296 ≤ r ∧ r ≤ 57343 then 0 else if r < 128 then 1 else if r < 2048 then 2 else if r < 65536 then 3 else 4 := by
  unfold uput
  repeat' split
  all_goals simp

/-- the two ways tell the same -/
theorem uput_take (l : List UInt8) (n : Nat) (h1 : 1 ≤ n) (h4 : n ≤ 4) (hl : n ≤ l.length) : uput (uval n l) = l.take n ↔ unext l = n := by
  rcases (show n = 1 ∨ n = 2 ∨ n = 3 ∨ n = 4 by omega) with rfl | rfl | rfl | rfl
  · match l, hl with
    | c :: t, _ =>
      have hc := c.toNat_lt
      rw [unext1]
      have e : uval 1 (c :: t) = c.toNat := by simp [uval, ufold, umod]
      rw [e]
      by_cases h : c.toNat < 128
      · simp only [h, iff_true, uput]
        rw [if_neg (by omega), if_pos trivial]
        have : b8 c.toNat = c := (b8_eq _ _ (by omega)).2 rfl
        simp [this]
      · simp only [h, iff_false]
        intro e
        have := congrArg List.length e
        rw [uput_len, if_neg (by omega), if_neg (by omega), if_pos (by omega)] at this
        simp at this
  · match l, hl with
    | c :: d :: t, _ =>
      have hc := c.toNat_lt
      have hd := d.toNat_lt
      rw [unext2]
      have e : uval 2 (c :: d :: t) = c.toNat % 32 * 64 + d.toNat % 64 := by simp [uval, ufold, umod]; omega
      rw [e]
      generalize hr : c.toNat % 32 * 64 + d.toNat % 64 = r
      unfold cont
      by_cases h : 128 ≤ r
      · unfold uput
        rw [if_neg (by omega), if_neg (by omega), if_pos (by omega)]
        simp only [List.take_succ_cons, List.take_zero, List.cons.injEq, and_true]
        rw [b8_eq _ _ (by omega), b8_eq _ _ (by omega)]
        omega
      · have hne : ¬ (192 ≤ c.toNat ∧ c.toNat < 224 ∧ (128 ≤ d.toNat ∧ d.toNat < 192) ∧ 128 ≤ r) := by omega
        simp only [hne, iff_false]
        intro e
        have := congrArg List.length e
        rw [uput_len, if_neg (by omega), if_pos (by omega)] at this
        simp at this
  · match l, hl with
    | c :: d :: f :: t, _ =>
      have hc := c.toNat_lt
      have hd := d.toNat_lt
      have hf := f.toNat_lt
      rw [unext3]
      have e : uval 3 (c :: d :: f :: t) = (c.toNat % 16 * 64 + d.toNat % 64) * 64 + f.toNat % 64 := by simp [uval, ufold, umod]; omega
      rw [e]
      generalize hr : (c.toNat % 16 * 64 + d.toNat % 64) * 64 + f.toNat % 64 = r
      unfold cont
      by_cases h : 2048 ≤ r ∧ ¬ (55296 ≤ r ∧ r ≤ 57343)
      · unfold uput
        rw [if_neg (by omega), if_neg (by omega), if_neg (by omega), if_pos (by omega)]
        simp only [List.take_succ_cons, List.take_zero, List.cons.injEq, and_true]
        rw [b8_eq _ _ (by omega), b8_eq _ _ (by omega), b8_eq _ _ (by omega)]
        omega
      · constructor
        · intro e
          have := congrArg List.length e
          rw [uput_len] at this
          simp only [List.length_take, List.length_cons] at this
          repeat' split at this
          all_goals omega
        · omega
  · match l, hl with
    | c :: d :: f :: g :: t, _ =>
      have hc := c.toNat_lt
      have hd := d.toNat_lt
      have hf := f.toNat_lt
      have hg := g.toNat_lt
      rw [unext4]
      have e : uval 4 (c :: d :: f :: g :: t) = ((c.toNat % 8 * 64 + d.toNat % 64) * 64 + f.toNat % 64) * 64 + g.toNat % 64 := by simp [uval, ufold, umod]; omega
      rw [e]
      generalize hr : ((c.toNat % 8 * 64 + d.toNat % 64) * 64 + f.toNat % 64) * 64 + g.toNat % 64 = r
      unfold cont
      by_cases h : 65536 ≤ r ∧ r ≤ 1114111
      · unfold uput
        rw [if_neg (by omega), if_neg (by omega), if_neg (by omega), if_neg (by omega)]
        simp only [List.take_succ_cons, List.take_zero, List.cons.injEq, and_true]
        rw [b8_eq _ _ (by omega), b8_eq _ _ (by omega), b8_eq _ _ (by omega), b8_eq _ _ (by omega)]
        omega
      · constructor
        · intro e
          have := congrArg List.length e
          rw [uput_len] at this
          simp only [List.length_take, List.length_cons] at this
          repeat' split at this
          all_goals omega
        · omega

end Go.Proofs.Ytgephhmkaonahaa
