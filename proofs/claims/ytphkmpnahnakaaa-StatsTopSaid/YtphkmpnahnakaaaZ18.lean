/- Plain laws: what a message's records add to the rows of paths (evs); of bytes behind bytes, and how much these are. No condition. Maps of the call's own, told by their entries: a store at any key (putK). Masks, in plain words: ways of numbers, their order, what a mask of ways is (the least ways that lie under no other one, in order), and that there is just one. -/
import Derived.Test.YtphkmpnahnakaaaZ03
import Derived.Test.YtphkmpnahnakaaaZ16
import Derived.Test.YtphkmpnahnakaaaZ17
namespace Go.Proofs.Ytphkmpnahnakaaa
open Go.RowKit
structure SE where
  path : ByteArray
  bytes : Nat
  vals : Nat
def underS (p n : ByteArray) : ByteArray := if p.size = 0 then n else p ++ ⟨#[46]⟩ ++ n
def nameOf (fs : List Fld) (k : Int) : ByteArray := if k < 0 then ⟨#[63]⟩ else (fs.getD k.toNat .zero).name
def evA (sub : Int → List UInt8 → ByteArray → List SE) (fs : List Fld) (p : ByteArray) (x : AR) : List SE :=
  ⟨underS p (nameOf fs x.k), x.whole.length, x.val.length⟩ :: (if 0 ≤ x.k ∧ (fs.getD x.k.toNat .zero).kind = 17 then sub (fs.getD x.k.toNat .zero).of x.val (underS p (nameOf fs x.k)) else [])
def evsub (s : List Mes) : Nat → Int → List UInt8 → ByteArray → List SE
  | 0, _, _, _ => []
  | d + 1, m, l, p => (arecs (s.getD m.toNat .zero).fields l).flatMap (evA (evsub s d) (s.getD m.toNat .zero).fields p)
def cntE (t : List SE) (p : ByteArray) : Nat := (t.filter fun e => decide (e.path = p)).length
def bytE (t : List SE) (p : ByteArray) : Nat := ((t.filter fun e => decide (e.path = p)).map SE.bytes).sum
def valE (t : List SE) (p : ByteArray) : Nat := ((t.filter fun e => decide (e.path = p)).map SE.vals).sum
def SmallE (t : List SE) : Prop := t.length ≤ 1073741824 ∧ ∀ e ∈ t, e.bytes ≤ 1073741824 ∧ e.vals ≤ 1073741824
theorem cntE_app (a b : List SE) (p : ByteArray) : cntE (a ++ b) p = cntE a p + cntE b p := by unfold cntE; rw [List.filter_append, List.length_append]
theorem bytE_app (a b : List SE) (p : ByteArray) : bytE (a ++ b) p = bytE a p + bytE b p := by unfold bytE; rw [List.filter_append, List.map_append, List.sum_append]
theorem valE_app (a b : List SE) (p : ByteArray) : valE (a ++ b) p = valE a p + valE b p := by unfold valE; rw [List.filter_append, List.map_append, List.sum_append]
theorem one_E (e : SE) (p : ByteArray) : cntE [e] p = (if e.path = p then 1 else 0) ∧ bytE [e] p = (if e.path = p then e.bytes else 0) ∧ valE [e] p = (if e.path = p then e.vals else 0) := by
  unfold cntE bytE valE
  by_cases h : e.path = p
  · simp [h]
  · simp [h]
theorem none_E {t : List SE} {p : ByteArray} (h : ¬ ∃ e ∈ t, e.path = p) : cntE t p = 0 ∧ bytE t p = 0 ∧ valE t p = 0 := by
  have : t.filter (fun e => decide (e.path = p)) = [] := List.filter_eq_nil_iff.2 fun e he hp => h ⟨e, he, of_decide_eq_true hp⟩
  unfold cntE bytE valE
  rw [this]
  exact ⟨rfl, rfl, rfl⟩
theorem sum_le_mul : ∀ (l : List Nat) (B : Nat), (∀ x ∈ l, x ≤ B) → l.sum ≤ l.length * B
  | [], _, _ => by simp
  | x :: r, B, h => by
    have h1 := h x (by simp)
    have h2 := sum_le_mul r B fun y hy => h y (by simp [hy])
    rw [List.sum_cons, List.length_cons, Nat.add_mul, Nat.one_mul]
    omega
theorem small_le {t : List SE} (h : SmallE t) (p : ByteArray) : cntE t p ≤ 1073741824 ∧ bytE t p ≤ 1152921504606846976 ∧ valE t p ≤ 1152921504606846976 := by
  have hf : (t.filter fun e => decide (e.path = p)).length ≤ 1073741824 := Nat.le_trans (List.length_filter_le _ _) h.1
  refine ⟨hf, ?_, ?_⟩
  · have := sum_le_mul ((t.filter fun e => decide (e.path = p)).map SE.bytes) 1073741824 fun x hx => by
      obtain ⟨e, he, rfl⟩ := List.mem_map.1 hx
      exact (h.2 e (List.mem_filter.1 he).1).1
    rw [List.length_map] at this
    unfold bytE
    have h3 := Nat.mul_le_mul_right 1073741824 hf
    omega
  · have := sum_le_mul ((t.filter fun e => decide (e.path = p)).map SE.vals) 1073741824 fun x hx => by
      obtain ⟨e, he, rfl⟩ := List.mem_map.1 hx
      exact (h.2 e (List.mem_filter.1 he).1).2
    rw [List.length_map] at this
    unfold valE
    have h3 := Nat.mul_le_mul_right 1073741824 hf
    omega
theorem SmallE.left {a b : List SE} (h : SmallE (a ++ b)) : SmallE a := ⟨by have := h.1; rw [List.length_append] at this; omega, fun e he => h.2 e (List.mem_append_left _ he)⟩
/-- how much these are -/
theorem evsub_len (s : List Mes) : ∀ (d : Nat) (m : Int) (l : List UInt8) (p : ByteArray), (evsub s d m l p).length ≤ l.length ∧ ∀ e ∈ evsub s d m l p, e.bytes ≤ l.length ∧ e.vals ≤ l.length
  | 0, _, _, _ => by simp [evsub]
  | d + 1, m, l, p => by
    obtain ⟨fs, hfs⟩ : ∃ fs, fs = (s.getD m.toNat .zero).fields := ⟨_, rfl⟩
    obtain ⟨hs, ht⟩ := vall_sum fs l l.length 0 (Nat.zero_le _)
    have hp : ∀ i j : Nat, (part l i j).length ≤ j - i ∧ (part l i j).length ≤ l.length := fun i j => by
      unfold part
      rw [List.length_take, List.length_drop]
      omega
    have key : ∀ xs : List VW, (∀ x ∈ xs, Thin x) → ((xs.map (arOf l)).flatMap (evA (evsub s d) fs p)).length ≤ vsum xs ∧ ∀ e ∈ (xs.map (arOf l)).flatMap (evA (evsub s d) fs p), e.bytes ≤ l.length ∧ e.vals ≤ l.length := by
      intro xs
      induction xs with
      | nil => intro _; simp [vsum]
      | cons x r ih =>
        intro h
        obtain ⟨i1, i2⟩ := ih fun y hy => h y (by simp [hy])
        have hx : 1 + (x.r.to - x.r.at') ≤ vsize x := h x (by simp)
        have hv : (arOf l x).val.length ≤ x.r.to - x.r.at' ∧ (arOf l x).val.length ≤ l.length := hp _ _
        have hw : (arOf l x).whole.length ≤ l.length := (hp _ _).2
        have hone : (evA (evsub s d) fs p (arOf l x)).length ≤ vsize x ∧ ∀ e ∈ evA (evsub s d) fs p (arOf l x), e.bytes ≤ l.length ∧ e.vals ≤ l.length := by
          unfold evA
          by_cases hc : 0 ≤ (arOf l x).k ∧ (fs.getD (arOf l x).k.toNat .zero).kind = 17
          · rw [if_pos hc]
            obtain ⟨j1, j2⟩ := evsub_len s d (fs.getD (arOf l x).k.toNat .zero).of (arOf l x).val (underS p (nameOf fs (arOf l x).k))
            refine ⟨by rw [List.length_cons]; omega, fun e he => ?_⟩
            rcases List.mem_cons.1 he with rfl | he
            · exact ⟨hw, hv.2⟩
            · have := j2 e he
              omega
          · rw [if_neg hc]
            refine ⟨by rw [List.length_cons, List.length_nil]; omega, fun e he => ?_⟩
            rcases List.mem_cons.1 he with rfl | he
            · exact ⟨hw, hv.2⟩
            · cases he
        have e1 : vsum (x :: r) = vsize x + vsum r := by unfold vsum; rw [List.map_cons, List.sum_cons]
        rw [List.map_cons, List.flatMap_cons, e1]
        refine ⟨by rw [List.length_append]; omega, fun e he => ?_⟩
        rcases List.mem_append.1 he with he | he
        · exact hone.2 e he
        · exact i2 e he
    have hk := key (vall fs l).1 ht
    rw [evsub, ← hfs]
    unfold arecs
    have hs' : vsum (vall fs l).1 ≤ l.length := by unfold vall; omega
    exact ⟨Nat.le_trans hk.1 hs', hk.2⟩
theorem evsub_small (s : List Mes) (d : Nat) (m : Int) (l : List UInt8) (p : ByteArray) (h : l.length ≤ 1073741824) : SmallE (evsub s d m l p) :=
  ⟨Nat.le_trans (evsub_len s d m l p).1 h, fun e he => ⟨Nat.le_trans ((evsub_len s d m l p).2 e he).1 h, Nat.le_trans ((evsub_len s d m l p).2 e he).2 h⟩⟩
end Go.Proofs.Ytphkmpnahnakaaa
namespace Go.Proofs.Ytphkmpnahnakaaa
open Go.RowKit
variable {K : Type}
def setAt [DecidableEq K] (k : K) (v : Value) : List (K × Value) → List (K × Value)
  | [] => []
  | (k', u) :: r => if k = k' then (k', v) :: r else (k', u) :: setAt k v r
def putK [DecidableEq K] (k : K) (v : Value) (es : List (K × Value)) : List (K × Value) := if (getOf k es).isSome = true then setAt k v es else es ++ [(k, v)]
theorem setAt_get [DecidableEq K] (k : K) (v : Value) (k' : K) : ∀ es : List (K × Value), getOf k' (setAt k v es) = if k' = k then (if (getOf k es).isSome = true then some v else none) else getOf k' es
  | [] => by simp [setAt, getOf]
  | (q, u) :: r => by
    rw [setAt]
    by_cases h : k = q
    · subst h
      rw [if_pos rfl, getOf, getOf, getOf, if_pos rfl]
      by_cases h2 : k' = k
      · rw [if_pos h2, if_pos h2]; rfl
      · rw [if_neg h2, if_neg h2, if_neg h2]
    · rw [if_neg h, getOf, getOf, getOf, if_neg h, setAt_get k v k' r]
      by_cases h2 : k' = q
      · rw [if_pos h2, if_neg (by rintro rfl; exact h h2), if_pos h2]
      · rw [if_neg h2, if_neg h2]
theorem getOf_app2 [DecidableEq K] (k' : K) : ∀ (a b : List (K × Value)), getOf k' (a ++ b) = match getOf k' a with | some v => some v | none => getOf k' b
  | [], b => rfl
  | (q, u) :: r, b => by
    rw [List.cons_append, getOf, getOf]
    by_cases h : k' = q
    · rw [if_pos h, if_pos h]
    · rw [if_neg h, if_neg h]; exact getOf_app2 k' r b
theorem putK_get [DecidableEq K] (k : K) (v : Value) (es : List (K × Value)) (k' : K) : getOf k' (putK k v es) = if k' = k then some v else getOf k' es := by
  unfold putK
  by_cases h : (getOf k es).isSome = true
  · rw [if_pos h, setAt_get, if_pos h]
  · rw [if_neg h, getOf_app2]
    by_cases h2 : k' = k
    · subst h2
      rw [if_pos rfl]
      cases h3 : getOf k' es with
      | some u => rw [h3] at h; exact absurd rfl h
      | none => simp [getOf]
    · rw [if_neg h2]
      cases getOf k' es with
      | some u => rfl
      | none => simp only [getOf]; rw [if_neg h2]
end Go.Proofs.Ytphkmpnahnakaaa
namespace Go.Proofs.Ytphkmpnahnakaaa
/-- does a way come first? -/
def ltW : List Int → List Int → Bool
  | [], [] => false
  | [], _ :: _ => true
  | _ :: _, [] => false
  | x :: a, y :: b => if x = y then ltW a b else decide (x < y)
theorem ltW_irrefl : ∀ a, ltW a a = false
  | [] => rfl
  | x :: a => by simp [ltW, ltW_irrefl a]
theorem ltW_trans : ∀ a b c, ltW a b = true → ltW b c = true → ltW a c = true
  | [], b, [] => by cases b <;> simp [ltW]
  | [], _, _ :: _ => by simp [ltW]
  | _ :: _, [], _ => by simp [ltW]
  | _ :: _, _ :: _, [] => by simp [ltW]
  | x :: a, y :: b, z :: c => by
    have ih := ltW_trans a b c
    simp only [ltW]
    by_cases h1 : x = y
    · subst h1
      by_cases h2 : x = z
      · subst h2; simpa using ih
      · simp only [if_true, if_neg h2, decide_eq_true_eq]; intro _ h; exact h
    · by_cases h2 : y = z
      · subst h2
        simp only [if_true, if_neg h1, decide_eq_true_eq]
        intro h _; exact h
      · by_cases h3 : x = z
        · subst h3
          simp only [if_neg h1, if_neg h2, decide_eq_true_eq]
          intro h h'; omega
        · simp only [if_neg h1, if_neg h2, if_neg h3, decide_eq_true_eq]
          intro h h'; omega
/-- begins a way with another one? -/
def beginsW (way pre : List Int) : Bool := decide (pre.length ≤ way.length) && decide (way.take pre.length = pre)
theorem beginsW_iff (way pre : List Int) : beginsW way pre = true ↔ pre <+: way := by
  unfold beginsW
  rw [List.prefix_iff_eq_take]
  simp only [Bool.and_eq_true, decide_eq_true_eq]
  constructor
  · rintro ⟨_, h⟩; exact h.symm
  · intro h
    refine ⟨?_, h.symm⟩
    have h2 := congrArg List.length h
    simp at h2
    omega
/-- of ways, the ones that lie under no other one -/
def Least (l : List (List Int)) (w : List Int) : Prop := w ∈ l ∧ w ≠ [] ∧ ∀ u ∈ l, u ≠ [] → u <+: w → u = w
/-- a mask of ways -/
def IsMask (l o : List (List Int)) : Prop := o.Pairwise (fun a b => ltW a b = true) ∧ ∀ w, w ∈ o ↔ Least l w
theorem sorted_same : ∀ {a b : List (List Int)}, a.Pairwise (fun a b => ltW a b = true) → b.Pairwise (fun a b => ltW a b = true) → (∀ w, w ∈ a ↔ w ∈ b) → a = b
  | [], [], _, _, _ => rfl
  | [], y :: b, _, _, h => absurd ((h y).2 (by simp)) (by simp)
  | x :: a, [], _, _, h => absurd ((h x).1 (by simp)) (by simp)
  | x :: a, y :: b, ha, hb, h => by
    rw [List.pairwise_cons] at ha hb
    have hxy : x = y := by
      have h1 := (h x).1 (by simp)
      have h2 := (h y).2 (by simp)
      rcases List.mem_cons.1 h1 with e | h1
      · exact e
      rcases List.mem_cons.1 h2 with e | h2
      · exact e.symm
      have h3 := ltW_trans _ _ _ (ha.1 y h2) (hb.1 x h1)
      rw [ltW_irrefl] at h3
      cases h3
    subst hxy
    have hab : ∀ w, w ∈ a ↔ w ∈ b := fun w => by
      constructor
      · intro hw
        rcases List.mem_cons.1 ((h w).1 (by simp [hw])) with e | hb'
        · subst e
          have := ha.1 w hw
          rw [ltW_irrefl] at this; cases this
        · exact hb'
      · intro hw
        rcases List.mem_cons.1 ((h w).2 (by simp [hw])) with e | hb'
        · subst e
          have := hb.1 w hw
          rw [ltW_irrefl] at this; cases this
        · exact hb'
    rw [sorted_same ha.2 hb.2 hab]
theorem IsMask.one {l a b : List (List Int)} (ha : IsMask l a) (hb : IsMask l b) : a = b :=
  sorted_same ha.1 hb.1 fun w => (ha.2 w).trans (hb.2 w).symm
/-- is a way one of ways, or under one? -/
def hasW (l : List (List Int)) (w : List Int) : Bool := l.any fun u => decide (0 < u.length) && beginsW w u
theorem hasW_iff (l : List (List Int)) (w : List Int) : hasW l w = true ↔ ∃ u ∈ l, u ≠ [] ∧ u <+: w := by
  unfold hasW
  simp only [List.any_eq_true, Bool.and_eq_true, decide_eq_true_eq, beginsW_iff]
  constructor
  · rintro ⟨u, h1, h2, h3⟩; exact ⟨u, h1, fun e => by subst e; simp at h2, h3⟩
  · rintro ⟨u, h1, h2, h3⟩; exact ⟨u, h1, List.length_pos_iff.2 h2, h3⟩
/-- each way has a least one that begins it -/
theorem least_of (l : List (List Int)) : ∀ (n : Nat) (u : List Int), u.length ≤ n → u ∈ l → u ≠ [] → ∃ v, Least l v ∧ v <+: u
  | 0, u, h, _, hn => absurd (List.length_eq_zero_iff.1 (by omega)) hn
  | n + 1, u, h, hu, hn => by
    by_cases hx : ∃ v ∈ l, v ≠ [] ∧ v <+: u ∧ v ≠ u
    · obtain ⟨v, hv, hvn, hp, hne⟩ := hx
      have hlt : v.length < u.length := by
        have := hp.length_le
        rcases Nat.lt_or_ge v.length u.length with h | h
        · exact h
        · exact absurd (hp.eq_of_length_le h) hne
      obtain ⟨t, ht, htp⟩ := least_of l n v (by omega) hv hvn
      exact ⟨t, ht, htp.trans hp⟩
    · refine ⟨u, ⟨hu, hn, fun v hv hvn hp => ?_⟩, List.prefix_refl u⟩
      exact Classical.byContradiction fun hne => hx ⟨v, hv, hvn, hp, hne⟩
theorem IsMask.has {l o : List (List Int)} (h : IsMask l o) (w : List Int) : hasW o w = hasW l w := by
  rw [Bool.eq_iff_iff, hasW_iff, hasW_iff]
  constructor
  · rintro ⟨u, hu, hn, hp⟩; exact ⟨u, ((h.2 u).1 hu).1, hn, hp⟩
  · rintro ⟨u, hu, hn, hp⟩
    obtain ⟨v, hv, hvp⟩ := least_of l u.length u (Nat.le_refl _) hu hn
    exact ⟨v, (h.2 v).2 hv, hv.2.1, hvp.trans hp⟩
end Go.Proofs.Ytphkmpnahnakaaa
