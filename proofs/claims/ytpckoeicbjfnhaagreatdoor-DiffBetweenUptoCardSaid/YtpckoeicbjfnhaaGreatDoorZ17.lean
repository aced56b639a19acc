/- Plain laws: bytes behind bytes have the views of both, and are valid if both are; how many views. No condition. Plain laws: valid bytes behind valid bytes are valid. No condition. Plain laws: a record cut out of bytes reads as it did; read words are canonical. No condition. Plain laws: a field's value, of valid records, fits it. No condition. Plain laws: a right schema's numbers; the meaning of valid bytes is right (tof_right). No condition. Plain laws: the weight of the meaning of bytes (tof_weight). No condition. A []string of the call's own (StrsOwn): one more string appended. At most 2^40 strings. -/
import Derived.Test.YtpckoeicbjfnhaaGreatDoorZ07
import Derived.Test.YtpckoeicbjfnhaaGreatDoorZ09
import Derived.Test.YtpckoeicbjfnhaaGreatDoorZ11
import Derived.Test.YtpckoeicbjfnhaaGreatDoorZ16
namespace Go.Proofs.YtpckoeicbjfnhaaGreatDoor
open Go.RowKit
theorem vallGo_len (fs : List Fld) (l : List UInt8) : ∀ (n i : Nat), (vallGo fs l n i).1.length + i ≤ max l.length i
  | 0, i => by simp [vallGo]; omega
  | n + 1, i => by
    rw [vallGo]
    by_cases hi : l.length ≤ i
    · rw [if_pos hi]; simp; omega
    rw [if_neg hi]
    by_cases hc : (vlook fs l i).2.2.2 = 0
    · rw [if_neg (by omega)]
      have hto := vlook_to _ _ _ hc
      have ih := vallGo_len fs l n (vlook fs l i).1.to
      simp only
      split
      · simp; omega
      · simp; omega
    · rw [if_pos hc]; simp; omega
theorem vall_len (fs : List Fld) (l : List UInt8) : (vall fs l).1.length ≤ l.length := by
  have := vallGo_len fs l l.length 0
  unfold vall
  omega
theorem lastOf_sub {α : Type} (l : List α) {x : α} (h : x ∈ lastOf l) : x ∈ l := List.mem_of_mem_drop h
theorem lastOf_cases {α : Type} (l : List α) : (l = [] ∧ lastOf l = []) ∨ ∃ p x, l = p ++ [x] ∧ lastOf l = [x] := by
  rcases List.eq_nil_or_concat l with h | ⟨p, x, h⟩
  · subst h; exact .inl ⟨rfl, rfl⟩
  · rw [List.concat_eq_append] at h
    subst h
    exact .inr ⟨p, x, rfl, lastOf_snoc p x⟩
/-- of pieces of one each the last piece is the last one's -/
theorem lastOf_flat {α β : Type} (g : α → List β) (l : List α) (h : (∀ x ∈ l, (g x).length = 1) ∨ (∀ x ∈ l, g x = [])) : lastOf (l.flatMap g) = (lastOf l).flatMap g := by
  rcases lastOf_cases l with ⟨rfl, h2⟩ | ⟨p, x, rfl, h2⟩
  · rfl
  · rw [h2, List.flatMap_append]
    rcases h with h | h
    · have h1 := h x (by simp)
      obtain ⟨y, hy⟩ : ∃ y, g x = [y] := List.length_eq_one_iff.1 h1
      simp only [List.flatMap_cons, List.flatMap_nil, List.append_nil, hy]
      exact lastOf_snoc _ _
    · have h1 : (p.flatMap g) = [] := by
        rw [List.flatMap_eq_nil_iff]
        intro y hy
        exact h y (by simp [hy])
      rw [h1]
      simp [h x (by simp), lastOf]
end Go.Proofs.YtpckoeicbjfnhaaGreatDoor
namespace Go.Proofs.YtpckoeicbjfnhaaGreatDoor
open Go.RowKit
theorem vgo_app (r : List UInt8) : ∀ (l : List UInt8) (n w : Nat), (vgo n w l).2.2 = 0 → vgo n w (l ++ r) = vgo n w l
  | [], n, w, h => by simp [vgo] at h
  | c :: t, n, w, h => by
    rw [List.cons_append]
    rw [vgo] at h ⊢
    conv => rhs; rw [vgo]
    by_cases h1 : n = 9 ∧ 1 < c.toNat
    · rw [if_pos h1] at h; simp at h
    rw [if_neg h1] at h ⊢
    rw [if_neg h1]
    by_cases h2 : c.toNat < 128
    · rw [if_pos h2, if_pos h2]
    rw [if_neg h2] at h ⊢
    rw [if_neg h2]
    exact vgo_app r t _ _ h
theorem vread_app {l : List UInt8} (r : List UInt8) (h : (vread l).2.2 = 0) : vread (l ++ r) = vread l := vgo_app r l 0 0 h
theorem tread_app {l : List UInt8} (r : List UInt8) (h : (tread l).2.2.2 = 0) : tread (l ++ r) = tread l := by
  have h1 : (vread l).2.2 = 0 := by
    refine Decidable.byContradiction fun hn => ?_
    unfold tread at h
    rw [if_pos hn] at h
    exact hn h
  unfold tread
  rw [vread_app r h1]
theorem rsize_app (wire : Nat) {l : List UInt8} (r : List UInt8) (h : (rsize wire l).2.2 = 0) : rsize wire (l ++ r) = rsize wire l := by
  unfold rsize at h ⊢
  by_cases h0 : wire = 0
  · rw [if_pos h0] at h ⊢
    rw [if_pos h0, vread_app r h]
  rw [if_neg h0] at h ⊢
  rw [if_neg h0]
  by_cases h1 : wire = 1
  · rw [if_pos h1, if_pos h1]
  rw [if_neg h1] at h ⊢
  rw [if_neg h1]
  by_cases h5 : wire = 5
  · rw [if_pos h5, if_pos h5]
  rw [if_neg h5] at h ⊢
  rw [if_neg h5, vread_app r h]
theorem rnext_app {l : List UInt8} (r : List UInt8) {i : Nat} (h : (rnext l i).2 = 0) : rnext (l ++ r) i = rnext l i := by
  rcases rnext_cases l i with ⟨hi, er⟩ | ⟨hi, c, et, hc, er⟩ | ⟨hi, k, x, n, et, h1, h2, h3, h4, h5, h6, hcs⟩
  · rw [er] at h; simp at h
  · rw [er] at h; simp at h; omega
  · rcases hcs with ⟨a, m, c, es, hc, -, -, er⟩ | ⟨a, m, es, -, -, -, -, er⟩ | ⟨a, m, es, g1, g2, g3, er⟩
    · rw [er] at h; simp at h; omega
    · rw [er] at h; simp at h
    · rw [er]
      unfold rnext
      rw [if_neg (by rw [List.length_append]; omega)]
      have e1 : (l ++ r).drop i = l.drop i ++ r := List.drop_append_of_le_length (by omega)
      have e2 : (l ++ r).drop (i + n) = l.drop (i + n) ++ r := List.drop_append_of_le_length (by omega)
      rw [e1, tread_app r (by rw [et]), et]
      simp only
      rw [if_neg (by simp), e2, rsize_app x r (by rw [es]), es]
      simp only
      rw [if_neg (by simp), if_neg (by rw [List.length_append]; omega)]
theorem vlook_app (fs : List Fld) {l : List UInt8} (r : List UInt8) {i : Nat} (h : (vlook fs l i).2.2.2 = 0) : vlook fs (l ++ r) i = vlook fs l i := by
  have h1 := (vlook_ok h).2.2.2.1
  unfold vlook
  rw [rnext_app r h1]
def Rec.shift (n : Nat) (x : Rec) : Rec := ⟨x.number, x.wire, n + x.start, n + x.at', n + x.to⟩
theorem rnext_shift (p l : List UInt8) (i : Nat) : rnext (p ++ l) (p.length + i) = (if (rnext l i).2 = 0 then (Rec.shift p.length (rnext l i).1, 0) else (rnext l i)) := by
  have e1 : (p ++ l).drop (p.length + i) = l.drop i := by rw [List.drop_append]; simp
  rcases rnext_cases l i with ⟨hi, er⟩ | ⟨hi, c, et, hc, er⟩ | ⟨hi, k, x, n, et, h1, h2, h3, h4, h5, h6, hcs⟩
  · rw [er, if_neg (by simp)]
    unfold rnext
    rw [if_pos (by rw [List.length_append]; omega)]
  · rw [er, if_neg (by simp; omega)]
    unfold rnext
    rw [if_neg (by rw [List.length_append]; omega), e1, et]
    simp only
    rw [if_pos (by omega)]
  · have e2 : (p ++ l).drop (p.length + i + n) = l.drop (i + n) := by rw [Nat.add_assoc, List.drop_append]; simp
    rcases hcs with ⟨a, m, c, es, hc, -, -, er⟩ | ⟨a, m, es, g1, g2, g3, g4, er⟩ | ⟨a, m, es, g1, g2, g3, er⟩
    · rw [er, if_neg (by simp; omega)]
      unfold rnext
      rw [if_neg (by rw [List.length_append]; omega), e1, et]
      simp only
      rw [if_neg (by simp), e2, es]
      simp only
      rw [if_pos (by omega)]
    · rw [er, if_neg (by simp)]
      unfold rnext
      rw [if_neg (by rw [List.length_append]; omega), e1, et]
      simp only
      rw [if_neg (by simp), e2, es]
      simp only
      rw [if_neg (by simp), if_pos (by rw [List.length_append]; omega)]
    · rw [er, if_pos rfl]
      unfold rnext
      rw [if_neg (by rw [List.length_append]; omega), e1, et]
      simp only
      rw [if_neg (by simp), e2, es]
      simp only
      rw [if_neg (by simp), if_neg (by rw [List.length_append]; omega)]
      unfold Rec.shift
      simp only [Nat.add_assoc]
theorem part_app {l : List UInt8} (r : List UInt8) {i j : Nat} (h : j ≤ l.length) (hij : i ≤ j) : part (l ++ r) i j = part l i j := by
  unfold part
  rw [List.drop_append_of_le_length (by omega), List.take_append_of_le_length (by rw [List.length_drop]; omega)]
theorem part_shift (p l : List UInt8) (i j : Nat) : part (p ++ l) (p.length + i) (p.length + j) = part l i j := by
  unfold part
  have e1 : (p ++ l).drop (p.length + i) = l.drop i := by rw [List.drop_append]; simp
  rw [e1, Nat.add_sub_add_left]
theorem vlook_shift (fs : List Fld) (p l : List UInt8) {i : Nat} (h : (vlook fs l i).2.2.2 = 0) :
    vlook fs (p ++ l) (p.length + i) = (Rec.shift p.length (vlook fs l i).1, (vlook fs l i).2.1, (vlook fs l i).2.2.1, 0) := by
  have h1 := (vlook_ok h).2.2.2.1
  have hs := rnext_shift p l i
  rw [if_pos h1] at hs
  obtain ⟨r, er⟩ : ∃ r, rnext l i = (r, 0) := ⟨(rnext l i).1, by rw [← h1]⟩
  rw [er] at hs
  obtain ⟨r1, r2, r3, r4, r5⟩ := r
  have h2 : ∀ (L : List UInt8) (j : Nat) (q : Rec), rnext L j = (q, 0) → vlook fs L j = if fieldAt fs q.number < 0 then (q, -1, false, 0) else
      if ((fs.getD (fieldAt fs q.number).toNat .zero).rep && knumber (fs.getD (fieldAt fs q.number).toNat .zero).kind && decide (q.wire = 2)) = true then (q, fieldAt fs q.number, true, 0) else
      if kright (fs.getD (fieldAt fs q.number).toNat .zero).kind = false ∨ kwire (fs.getD (fieldAt fs q.number).toNat .zero).kind ≠ q.wire then (.none, 0, false, 6) else (q, fieldAt fs q.number, false, 0) := by
    intro L j q hq
    unfold vlook
    rw [hq]
    rfl
  rw [h2 _ _ _ er] at h ⊢
  rw [h2 _ _ _ hs]
  unfold Rec.shift
  simp only at h ⊢
  by_cases g1 : fieldAt fs r1 < 0
  · rw [if_pos g1, if_pos g1]
  rw [if_neg g1] at h ⊢
  rw [if_neg g1]
  by_cases g2 : ((fs.getD (fieldAt fs r1).toNat .zero).rep && knumber (fs.getD (fieldAt fs r1).toNat .zero).kind && decide (r2 = 2)) = true
  · rw [if_pos g2, if_pos g2]
  rw [if_neg g2] at h ⊢
  rw [if_neg g2]
  by_cases g3 : kright (fs.getD (fieldAt fs r1).toNat .zero).kind = false ∨ kwire (fs.getD (fieldAt fs r1).toNat .zero).kind ≠ r2
  · rw [if_pos g3] at h; simp at h
  · rw [if_neg g3, if_neg g3]
theorem vlook_bds {fs : List Fld} {l : List UInt8} {i : Nat} (h : (vlook fs l i).2.2.2 = 0) : (vlook fs l i).1.at' ≤ (vlook fs l i).1.to ∧ (vlook fs l i).1.to ≤ l.length := by
  rcases vlook_cases fs l i with ⟨c, hc, e, -⟩ | ⟨r, h1, h2, h3, h4, -, e | ⟨k, run, -, e, -⟩⟩
  · rw [e] at h; exact absurd h hc
  · rw [e]; exact ⟨h3, h4⟩
  · rw [e]; exact ⟨h3, h4⟩
/-- whether a record is right hangs on its value alone -/
theorem vval_code {rec : Nat → List UInt8 → Nat × Nat} {deep : Bool} {fs : List Fld} {l l' : List UInt8} {v v' : Rec × Int × Bool × Nat} (hk : v'.2.1 = v.2.1) (hr : v'.2.2.1 = v.2.2.1) (hp : part l' v'.1.at' v'.1.to = part l v.1.at' v.1.to) :
    (vval rec deep fs l' v').2 = (vval rec deep fs l v).2 := by
  unfold vval
  rw [hk, hr, hp]
  simp only
  repeat' split
  all_goals rfl
theorem vfrom_behind (s : List Mes) (d m : Nat) (p l : List UInt8) : ∀ (n i : Nat), l.length ≤ n + i → (vfrom s d m l i).2 = 0 → (vfrom s d m (p ++ l) (p.length + i)).2 = 0
  | 0, i, hn, _ => by rw [vfrom_at, if_pos (by rw [List.length_append]; omega)]
  | n + 1, i, hn, h => by
    rw [vfrom_at] at h ⊢
    by_cases hi : l.length ≤ i
    · rw [if_pos (by rw [List.length_append]; omega)]
    rw [if_neg hi] at h
    rw [if_neg (by rw [List.length_append]; omega)]
    by_cases hc : (vlook (s.getD m .zero).fields l i).2.2.2 = 0
    · rw [if_neg (by omega)] at h
      rw [vlook_shift _ p l hc]
      rw [if_neg (by simp)]
      have hv := vval_code (rec := vrec s d) (deep := decide (d = 0)) (fs := (s.getD m .zero).fields) (l := l) (l' := p ++ l) (v := vlook (s.getD m .zero).fields l i) (v' := (Rec.shift p.length (vlook (s.getD m .zero).fields l i).1, (vlook (s.getD m .zero).fields l i).2.1, (vlook (s.getD m .zero).fields l i).2.2.1, 0)) rfl rfl (part_shift p l _ _)
      by_cases hx : (vval (vrec s d) (decide (d = 0)) (s.getD m .zero).fields l (vlook (s.getD m .zero).fields l i)).2 = 0
      · rw [if_neg (by omega)] at h
        rw [hv, if_neg (by omega)]
        have hto := vlook_to _ _ _ hc
        exact vfrom_behind s d m p l n _ (by omega) h
      · rw [if_pos hx] at h; exact absurd h hx
    · rw [if_pos hc] at h; exact absurd h hc
theorem vfrom_ahead (s : List Mes) (d m : Nat) (p l : List UInt8) (hl : (vfrom s d m l 0).2 = 0) : ∀ (n i : Nat), p.length ≤ n + i → i ≤ p.length → (vfrom s d m p i).2 = 0 → (vfrom s d m (p ++ l) i).2 = 0
  | 0, i, hn, hi, _ => by
    obtain rfl : i = p.length := by omega
    have := vfrom_behind s d m p l l.length 0 (by omega) hl
    exact this
  | n + 1, i, hn, hi, h => by
    by_cases hi2 : p.length ≤ i
    · obtain rfl : i = p.length := by omega
      exact vfrom_behind s d m p l l.length 0 (by omega) hl
    rw [vfrom_at] at h ⊢
    rw [if_neg hi2] at h
    rw [if_neg (by rw [List.length_append]; omega)]
    by_cases hc : (vlook (s.getD m .zero).fields p i).2.2.2 = 0
    · rw [if_neg (by omega)] at h
      rw [vlook_app _ l hc]
      rw [if_neg (by omega)]
      have hb := vlook_bds hc
      have hv := vval_code (rec := vrec s d) (deep := decide (d = 0)) (fs := (s.getD m .zero).fields) (l := p) (l' := p ++ l) (v := vlook (s.getD m .zero).fields p i) (v' := vlook (s.getD m .zero).fields p i) rfl rfl (part_app l hb.2 hb.1)
      by_cases hx : (vval (vrec s d) (decide (d = 0)) (s.getD m .zero).fields p (vlook (s.getD m .zero).fields p i)).2 = 0
      · rw [if_neg (by omega)] at h
        rw [hv, if_neg (by omega)]
        have hto := vlook_to _ _ _ hc
        exact vfrom_ahead s d m p l hl n _ (by omega) hto.2 h
      · rw [if_pos hx] at h; exact absurd h hx
    · rw [if_pos hc] at h; exact absurd h hc
theorem vmsg_app {s : List Mes} {d m : Nat} {p l : List UInt8} (hp : (vmsg s d m p).2 = 0) (hl : (vmsg s d m l).2 = 0) : (vmsg s d m (p ++ l)).2 = 0 := by
  rw [vmsg_from] at *
  exact vfrom_ahead s d m p l hl p.length 0 (by omega) (by omega) hp
theorem vmsg_nil (s : List Mes) (d m : Nat) : (vmsg s d m []).2 = 0 := by
  rw [vmsg_from, vfrom_at, if_pos (by simp)]
theorem vmsg_flat {s : List Mes} {d m : Nat} : ∀ {ls : List (List UInt8)}, (∀ l ∈ ls, (vmsg s d m l).2 = 0) → (vmsg s d m ls.flatten).2 = 0
  | [], _ => vmsg_nil s d m
  | l :: r, h => by
    rw [List.flatten_cons]
    exact vmsg_app (h l (by simp)) (vmsg_flat fun x hx => h x (by simp [hx]))
end Go.Proofs.YtpckoeicbjfnhaaGreatDoor
namespace Go.Proofs.YtpckoeicbjfnhaaGreatDoor
open Go.RowKit
theorem vgo_take : ∀ (l : List UInt8) (i w x n m : Nat), vgo i w l = (x, i + n, 0) → n ≤ m → vgo i w (l.take m) = (x, i + n, 0)
  | [], i, w, x, n, m, h, _ => by simp [vgo] at h
  | c :: t, i, w, x, n, m, h, hm => by
    rw [vgo] at h
    by_cases h1 : i = 9 ∧ 1 < c.toNat
    · rw [if_pos h1] at h; simp at h
    rw [if_neg h1] at h
    have hn : 1 ≤ n := by
      by_cases h2 : c.toNat < 128
      · rw [if_pos h2] at h
        have := congrArg (fun z => z.2.1) h
        simp at this; omega
      · rw [if_neg h2] at h
        have hlt := vgo_grow t (i + 1) (w + (c.toNat - 128) * 128 ^ i) (by rw [h])
        rw [h] at hlt
        simp only at hlt
        omega
    obtain ⟨m', rfl⟩ : ∃ m', m = m' + 1 := ⟨m - 1, by omega⟩
    rw [List.take_succ_cons, vgo, if_neg h1]
    by_cases h2 : c.toNat < 128
    · rw [if_pos h2] at h ⊢; exact h
    rw [if_neg h2] at h ⊢
    have e : i + n = i + 1 + (n - 1) := by omega
    rw [e] at h ⊢
    exact vgo_take t (i + 1) _ x (n - 1) m' h (by omega)
where
  vgo_grow : ∀ (l : List UInt8) (i w : Nat), (vgo i w l).2.2 = 0 → i ≤ (vgo i w l).2.1
  | [], i, w, h => by simp [vgo] at h
  | c :: t, i, w, h => by
    rw [vgo] at h ⊢
    by_cases h1 : i = 9 ∧ 1 < c.toNat
    · rw [if_pos h1] at h; simp at h
    rw [if_neg h1] at h ⊢
    by_cases h2 : c.toNat < 128
    · rw [if_pos h2]; simp
    rw [if_neg h2] at h ⊢
    have := vgo_grow t _ _ h
    omega
theorem vread_take {l : List UInt8} {x n m : Nat} (h : vread l = (x, n, 0)) (hm : n ≤ m) : vread (l.take m) = (x, n, 0) := by
  have := vgo_take l 0 0 x n m (by rw [Nat.zero_add]; exact h) hm
  rwa [Nat.zero_add] at this
theorem tread_take {l : List UInt8} {k x n m : Nat} (h : tread l = (k, x, n, 0)) (hm : n ≤ m) : tread (l.take m) = (k, x, n, 0) := by
  unfold tread at h ⊢
  by_cases h0 : (vread l).2.2 = 0
  · rw [if_neg (by omega)] at h
    have hv : vread l = ((vread l).1, (vread l).2.1, 0) := by rw [← h0]
    by_cases h1 : 536870911 < (vread l).1 / 8 ∨ tagOk ((vread l).1 / 8 : Nat) ((vread l).1 % 8 : Nat) = false
    · rw [if_pos h1] at h; simp at h
    · rw [if_neg h1] at h
      have hn : (vread l).2.1 = n := congrArg (fun z => z.2.2.1) h
      rw [vread_take hv (by omega)]
      simp only
      rw [if_neg (by simp), if_neg h1]
      exact h
  · rw [if_pos h0] at h
    exact absurd (congrArg (fun z => z.2.2.2) h) h0
theorem rsize_take {wire : Nat} {l : List UInt8} {a m j : Nat} (h : rsize wire l = (a, m, 0)) (hj : a + m ≤ j) : rsize wire (l.take j) = (a, m, 0) := by
  unfold rsize at h ⊢
  by_cases h0 : wire = 0
  · rw [if_pos h0] at h ⊢
    have e1 : (vread l).2.2 = 0 := congrArg (fun z => z.2.2) h
    have e2 : (vread l).2.1 = m := congrArg (fun z => z.2.1) h
    have hv : vread l = ((vread l).1, (vread l).2.1, 0) := by rw [← e1]
    rw [vread_take hv (by omega)]
    rw [e1] at h; exact h
  rw [if_neg h0] at h ⊢
  by_cases h1 : wire = 1
  · rw [if_pos h1] at h ⊢; exact h
  rw [if_neg h1] at h ⊢
  by_cases h5 : wire = 5
  · rw [if_pos h5] at h ⊢; exact h
  rw [if_neg h5] at h ⊢
  have e1 : (vread l).2.2 = 0 := congrArg (fun z => z.2.2) h
  have e2 : (vread l).2.1 = a := congrArg (fun z => z.1) h
  have hv : vread l = ((vread l).1, (vread l).2.1, 0) := by rw [← e1]
  rw [vread_take hv (by omega)]
  rw [e1] at h; exact h
/-- a record cut out -/
theorem rnext_part {l : List UInt8} {i : Nat} {r : Rec} (h : rnext l i = (r, 0)) : ∃ r' : Rec, rnext (part l i r.to) 0 = (r', 0) ∧ r'.number = r.number ∧ r'.to = (part l i r.to).length := by
  rcases rnext_cases l i with ⟨hi, er⟩ | ⟨hi, c, et, hc, er⟩ | ⟨hi, k, x, n, et, h1, h2, h3, h4, h5, h6, hcs⟩
  · rw [er] at h; simp at h
  · rw [er] at h; simp at h; omega
  · rcases hcs with ⟨a, m, c, es, hc, -, -, er⟩ | ⟨a, m, es, -, -, -, -, er⟩ | ⟨a, m, es, g1, g2, g3, er⟩
    · rw [er] at h; simp at h; omega
    · rw [er] at h; simp at h
    · rw [er] at h
      injection h with h _
      subst h
      simp only
      have hlen : (part l i (i + n + a + m)).length = n + a + m := by rw [part_len _ _ _ (by omega) (by omega)]; omega
      have e1 : part l i (i + n + a + m) = (l.drop i).take (n + a + m) := by unfold part; congr 1; omega
      have et' : tread (part l i (i + n + a + m)) = (k, x, n, 0) := by rw [e1]; exact tread_take et (by omega)
      have e2 : (part l i (i + n + a + m)).drop n = (l.drop (i + n)).take (a + m) := by rw [e1, List.drop_take, List.drop_drop]; congr 1; omega
      have es' : rsize x ((part l i (i + n + a + m)).drop n) = (a, m, 0) := by rw [e2]; exact rsize_take es (by omega)
      refine ⟨⟨k, x, 0, n + a, n + a + m⟩, ?_, rfl, hlen.symm⟩
      unfold rnext
      rw [if_neg (by rw [hlen]; omega), List.drop_zero, et']
      simp only [Nat.zero_add]
      rw [if_neg (by simp), es']
      simp only
      rw [if_neg (by simp), hlen, if_neg (by omega)]
theorem kcanon_idem (k : Int) (x : Nat) : kcanon k (kcanon k x) = kcanon k x := by
  unfold kcanon
  by_cases h1 : k = 1 ∨ k = 8
  · rw [if_pos h1, if_pos h1]; unfold w32; (repeat' split) <;> omega
  rw [if_neg h1, if_neg h1]
  by_cases h2 : k = 7
  · rw [if_pos h2, if_pos h2]; (repeat' split) <;> omega
  rw [if_neg h2, if_neg h2]
  by_cases h3 : k = 3 ∨ k = 5 ∨ k = 9 ∨ k = 10 ∨ k = 11
  · rw [if_pos h3, if_pos h3]; omega
  rw [if_neg h3, if_neg h3]
theorem kread_canon (k : Int) (l : List UInt8) : kcanon k (kread k l).1 = (kread k l).1 := by
  unfold kread
  split
  · exact kcanon_idem _ _
  · show kcanon k 0 = 0
    unfold kcanon w32
    (repeat' split) <;> omega
end Go.Proofs.YtpckoeicbjfnhaaGreatDoor
namespace Go.Proofs.YtpckoeicbjfnhaaGreatDoor
open Go.RowKit
theorem counts_sub {α : Type} (f : Fld) (l : List α) {x : α} (h : x ∈ counts f l) : x ∈ l := by
  unfold counts at h
  split at h
  · exact h
  · exact lastOf_sub l h
theorem counts_len {α : Type} {f : Fld} (hf : f.rep = false) (l : List α) : (counts f l).length ≤ 1 := by
  unfold counts
  rw [if_neg (by simp [hf])]
  unfold lastOf
  rw [List.length_drop]; omega
theorem pieceW_len {f : Fld} {l : List UInt8} {x : VW} (h : x.run = false) : (pieceW f l x).length ≤ 1 := by
  unfold pieceW
  rw [if_neg (by simp [h])]
  split <;> simp
theorem pieceB_len {f : Fld} {l : List UInt8} {x : VW} : (pieceB f l x).length ≤ 1 := by
  unfold pieceB
  split <;> simp
theorem flat_len {α β : Type} (g : α → List β) : ∀ (l : List α), l.length ≤ 1 → (∀ x ∈ l, (g x).length ≤ 1) → (l.flatMap g).length ≤ 1
  | [], _, _ => by simp
  | [x], _, h => by simpa using h x (by simp)
  | _ :: _ :: _, h, _ => by simp at h
theorem words_canon {f : Fld} {l : List UInt8} {x : VW} {w : Nat} (h : w ∈ pieceW f l x) : kcanon f.kind w = w := by
  unfold pieceW at h
  split at h
  · unfold runWords at h
    split at h
    · unfold kwords at h
      obtain ⟨y, -, rfl⟩ := List.mem_map.1 h
      exact kread_canon _ _
    · simp at h
  · split at h
    · simp at h; subst h; exact kread_canon _ _
    · simp at h
theorem flat_nil {α β : Type} (g : α → List β) (l : List α) (h : ∀ x ∈ l, g x = []) : l.flatMap g = [] := by
  rw [List.flatMap_eq_nil_iff]; exact h
/-- what is asked of a field's records -/
structure FieldRecs (R : Int → List UInt8 → Prop) (f : Fld) (l : List UInt8) (xs : List VW) : Prop where
  kind : kright f.kind = true
  run : ∀ x ∈ xs, x.run = true → f.rep = true ∧ knumber f.kind = true
  text : f.kind = 15 → ∀ x ∈ xs, ufirst (vbytes l x) = (vbytes l x).length
  sub : f.kind = 17 → (∀ x ∈ xs, R f.of (vbytes l x)) ∧ (f.rep = false → xs ≠ [] → R f.of (xs.flatMap (vbytes l)))
theorem fieldV_fits {α : Type} {R : Int → List UInt8 → Prop} {B : Int → α → Bool} {sub : Int → List UInt8 → List α} {f : Fld} {l : List UInt8} {xs : List VW} (h : FieldRecs R f l xs)
    (hR : ∀ b, R f.of b → ∃ y, sub f.of b = [y] ∧ B f.of y = true) (hm : 0 < many (fieldV sub f l xs)) : fitsB B f (fieldV sub f l xs) = true := by
  have hrun : f.rep = false ∨ knumber f.kind = false → ∀ x ∈ xs, x.run = false := by
    intro h1 x hx
    cases hr : x.run with
    | false => rfl
    | true =>
      obtain ⟨h2, h3⟩ := h.run x hx hr
      rcases h1 with h1 | h1
      · rw [h2] at h1; cases h1
      · rw [h3] at h1; cases h1
  have hW : knumber f.kind = false → (fieldV sub f l xs).words = [] := by
    intro hk
    refine flat_nil _ _ fun x hx => ?_
    unfold pieceW
    rw [if_neg (by rw [hrun (.inr hk) x (counts_sub f xs hx)]; decide), if_neg (by rw [hk]; decide)]
  have hT : knumber f.kind = true ∨ f.kind = 17 → (fieldV sub f l xs).texts = [] := by
    intro hk
    unfold fieldV
    simp only
    by_cases h17 : f.kind = 17
    · rw [if_pos h17]
    · rw [if_neg h17]
      refine flat_nil _ _ fun x hx => ?_
      unfold pieceB
      rw [if_pos (.inr (by rcases hk with hk | hk; exact hk; exact absurd hk h17))]
  have hS : f.kind ≠ 17 → (fieldV sub f l xs).subs = [] := by
    intro hk
    unfold fieldV
    simp only
    rw [if_neg hk]
  have hone : f.rep = false → many (fieldV sub f l xs) ≤ 1 := by
    intro hr
    unfold many
    cases hk : knumber f.kind with
    | true =>
      have h17 : f.kind ≠ 17 := by intro e; rw [e] at hk; simp [knumber] at hk
      rw [hT (.inl hk), hS h17]
      have := flat_len (pieceW f l) (counts f xs) (counts_len hr xs) (fun x hx => pieceW_len (hrun (.inl hr) x (counts_sub f xs hx)))
      simpa [fieldV] using this
    | false =>
      rw [hW hk]
      by_cases h17 : f.kind = 17
      · rw [hT (.inr h17)]
        unfold fieldV
        simp only
        rw [if_pos h17, if_neg (by simp [hr])]
        split
        · simp
        · rename_i hx
          obtain ⟨y, e, -⟩ := hR _ ((h.sub h17).2 hr hx)
          rw [e]; simp
      · rw [hS h17]
        have := flat_len (pieceB f l) (counts f xs) (counts_len hr xs) (fun x _ => pieceB_len)
        unfold fieldV
        simp only
        rw [if_neg h17]
        simpa using this
  unfold fitsB
  have hmany : (fieldV sub f l xs).words.length + (fieldV sub f l xs).texts.length + (fieldV sub f l xs).subs.length = many (fieldV sub f l xs) := rfl
  rw [if_neg (by
    rw [hmany]
    rintro (h1 | ⟨h1, h2⟩)
    · omega
    · have := hone h2; omega)]
  cases hk : knumber f.kind with
  | true =>
    have h17 : f.kind ≠ 17 := by intro e; rw [e] at hk; simp [knumber] at hk
    rw [if_pos rfl, hT (.inl hk), hS h17]
    simp only [List.length_nil, and_self, decide_true, Bool.true_and, List.all_eq_true, decide_eq_true_eq]
    intro w hw
    obtain ⟨x, -, hx⟩ := List.mem_flatMap.1 (show w ∈ (counts f xs).flatMap (pieceW f l) from hw)
    exact words_canon hx
  | false =>
    rw [if_neg (by decide), hW hk]
    by_cases h17 : f.kind = 17
    · rw [if_pos h17, hT (.inr h17)]
      simp only [List.length_nil, and_self, decide_true, Bool.true_and, List.all_eq_true]
      intro y hy
      unfold fieldV at hy
      simp only at hy
      rw [if_pos h17] at hy
      split at hy
      · obtain ⟨x, hx, hxy⟩ := List.mem_flatMap.1 hy
        obtain ⟨z, e, hz⟩ := hR _ ((h.sub h17).1 x hx)
        rw [e] at hxy
        simp at hxy; subst hxy; exact hz
      · rename_i hr
        split at hy
        · simp at hy
        · rename_i hx
          obtain ⟨z, e, hz⟩ := hR _ ((h.sub h17).2 (by simpa using hr) hx)
          rw [e] at hy
          simp at hy; subst hy; exact hz
    · rw [if_neg h17, hS h17]
      by_cases h15 : f.kind = 15
      · rw [if_pos h15]
        simp only [List.length_nil, and_self, decide_true, Bool.true_and, List.all_eq_true, decide_eq_true_eq]
        intro t ht
        unfold fieldV at ht
        simp only at ht
        rw [if_neg h17] at ht
        obtain ⟨x, hx, hxt⟩ := List.mem_flatMap.1 ht
        unfold pieceB at hxt
        split at hxt
        · simp at hxt
        · simp at hxt; subst hxt
          exact h.text h15 x (counts_sub f xs hx)
      · rw [if_neg h15]
        have h16 : f.kind = 16 := by
          have h1 := h.kind
          unfold kright at h1
          unfold knumber at hk
          simp at h1 hk
          omega
        simp [h16]
end Go.Proofs.YtpckoeicbjfnhaaGreatDoor
namespace Go.Proofs.YtpckoeicbjfnhaaGreatDoor
open Go.RowKit
theorem fault_num {n : Nat} {nm nu : Bool} {f : Fld} (h : fieldFault n nm nu f = 0) : nu = false ∧ numOk f.number = true := by
  unfold fieldFault at h
  by_cases h1 : nameOk f.name = false
  · rw [if_pos h1] at h; cases h
  rw [if_neg h1] at h
  cases nm with
  | true => simp at h
  | false =>
    rw [if_neg (by decide)] at h
    cases h2 : numOk f.number with
    | false => rw [if_pos h2] at h; cases h
    | true =>
      rw [if_neg (by rw [h2]; decide)] at h
      cases nu with
      | true => simp at h
      | false => exact ⟨rfl, rfl⟩
theorem fault_at {n : Nat} {fs : List Fld} : ∀ (k j : Nat), j = fs.length - k → fieldsFault n (fs.take k) (fs.drop k) k = none → ∀ i, k ≤ i → i < fs.length → numMet (fs.take i) (fs.getD i .zero).number = false ∧ numOk (fs.getD i .zero).number = true
  | k, 0, hj, _, i, h1, h2 => by omega
  | k, j + 1, hj, h, i, h1, h2 => by
    rw [fieldsFault_at n fs k (by omega)] at h
    by_cases hc : fieldFault n (nameMet (fs.take k) (fs.getD k .zero).name) (numMet (fs.take k) (fs.getD k .zero).number) (fs.getD k .zero) = 0
    · rw [if_pos hc] at h
      by_cases hik : i = k
      · subst hik; exact fault_num hc
      · exact fault_at (k + 1) j (by omega) h i (by omega) h2
    · rw [if_neg hc] at h; cases h
theorem schema_nums {s : List Mes} (h : sright s = true) (m : Nat) (hm : m < s.length) (i : Nat) (hi : i < (s.getD m .zero).fields.length) :
    numMet ((s.getD m .zero).fields.take i) ((s.getD m .zero).fields.getD i .zero).number = false ∧ numOk ((s.getD m .zero).fields.getD i .zero).number = true := by
  have h0 : (scheck s).2.2 = 0 := of_decide_eq_true h
  unfold scheck at h0
  by_cases h1 : s.length = 0 ∨ 100 < s.length
  · rw [if_pos h1] at h0; simp at h0
  rw [if_neg h1] at h0
  have hmem : s.getD m .zero ∈ s := by
    have : s.getD m .zero = s[m] := by simp [List.getD, hm]
    rw [this]; exact List.getElem_mem hm
  obtain ⟨h2, -, -⟩ := scheckGo_ok s [] 0 h0 _ hmem
  exact fault_at 0 _ rfl (by simpa using h2) i (by omega) hi
theorem firstAt_first (p : Fld → Bool) (fs : List Fld) (q : Nat) (hq : q < fs.length) (hp : p (fs.getD q .zero) = true) (hb : ∀ j, j < q → p (fs.getD j .zero) = false) :
    ∀ (j k : Nat), k + j = q → firstAt p (fs.drop k) k = (q : Int)
  | 0, k, h => by
    obtain rfl : k = q := by omega
    rw [firstAt_at p fs k hq, hp, if_pos rfl]
  | j + 1, k, h => by
    rw [firstAt_at p fs k (by omega), hb k (by omega), if_neg (by decide)]
    exact firstAt_first p fs q hq hp hb j (k + 1) (by omega)
/-- numbers of a message of a right schema -/
structure Nums (fs : List Fld) : Prop where
  met : ∀ i, i < fs.length → numMet (fs.take i) (fs.getD i .zero).number = false
  pos : ∀ i, i < fs.length → 1 ≤ (fs.getD i .zero).number
theorem schema_Nums {s : List Mes} (h : sright s = true) (m : Nat) (hm : m < s.length) : Nums (s.getD m .zero).fields :=
  ⟨fun i hi => (schema_nums h m hm i hi).1, fun i hi => (of_decide_eq_true (schema_nums h m hm i hi).2).1⟩
theorem Nums.ne {fs : List Fld} (h : Nums fs) {i j : Nat} (hij : i < j) (hj : j < fs.length) : (fs.getD i .zero).number ≠ (fs.getD j .zero).number := by
  intro e
  have h1 := h.met j hj
  unfold numMet at h1
  rw [List.any_eq_false] at h1
  have hi : i < fs.length := by omega
  have h2 := h1 (fs.getD i .zero) (by
    have e2 : fs.getD i .zero = fs[i] := by simp [List.getD, hi]
    rw [e2]
    exact List.mem_take_iff_getElem.2 ⟨i, by omega, rfl⟩)
  exact h2 (decide_eq_true e)
theorem Nums.at {fs : List Fld} (h : Nums fs) {q : Nat} (hq : q < fs.length) : fieldAt fs (fs.getD q .zero).number = q := by
  have := firstAt_first (fun f => decide (f.number = (fs.getD q .zero).number)) fs q hq (decide_eq_true rfl) (fun j hj => decide_eq_false (h.ne hj hq)) q 0 (by omega)
  rw [List.drop_zero] at this
  exact this
theorem Nums.lt {fs : List Fld} (h : Nums fs) {i j : Int} (hi : 0 ≤ i ∧ i < fs.length) (hj : 0 ≤ j ∧ j < fs.length) (ha : Ahead fs i j) : numAt fs i < numAt fs j := by
  rcases ha with ha | ⟨h1, h2⟩
  · exact ha
  · exact absurd h1 (h.ne (i := i.toNat) (j := j.toNat) (by omega) (by omega))
theorem valsB_ok {α : Type} {F : Fld → Val α → Bool} {fs : List Fld} (h : Nums fs) {FV : Int → Val α} (hn : ∀ i, (FV i).num = numAt fs i) :
    ∀ (ords : List Int) (last : Int), (∀ i ∈ ords, (0 ≤ i ∧ i < fs.length) ∧ last < numAt fs i ∧ (0 < many (FV i) → F (fs.getD i.toNat .zero) (FV i) = true)) → ords.Pairwise (Ahead fs) →
      valsB F fs ((ords.map FV).filter fun v => decide (0 < many v)) last = true
  | [], _, _, _ => rfl
  | i :: r, last, h1, h2 => by
    obtain ⟨g1, g2, g3⟩ := h1 i (by simp)
    rw [List.pairwise_cons] at h2
    rw [List.map_cons, List.filter_cons]
    have ih : ∀ last', last' ≤ numAt fs i → valsB F fs ((r.map FV).filter fun v => decide (0 < many v)) last' = true := fun last' hl => by
      refine valsB_ok h hn r last' (fun j hj => ?_) h2.2
      obtain ⟨k1, k2, k3⟩ := h1 j (by simp [hj])
      have := h.lt g1 k1 (h2.1 j hj)
      exact ⟨k1, by omega, k3⟩
    by_cases hm : 0 < many (FV i)
    · rw [if_pos (by simpa using hm), valsB, hn]
      have hat : fieldAt fs (numAt fs i) = i := by
        unfold numAt
        rw [h.at (by omega)]; omega
      rw [hat, if_neg]
      · exact ih _ (Int.le_refl _)
      · rintro (e | e | e)
        · omega
        · omega
        · rw [g3 hm] at e; cases e
    · rw [if_neg (by simpa using hm)]
      exact ih _ (by omega)
theorem ViewOk.unknown {s : List Mes} {d m : Nat} {l : List UInt8} {x : VW} (h : ViewOk s d m l x) (hk : x.k < 0) : rnext l x.r.start = (x.r, 0) ∧ fieldAt (s.getD m .zero).fields x.r.number < 0 := by
  obtain ⟨j, hj⟩ := h.look
  rcases vlook_cases (s.getD m .zero).fields l j with ⟨c, hc, e, -⟩ | ⟨r, h1, h2, h3, h4, h5, e | ⟨k, run, hk', e, -, h6, h7⟩⟩
  · rw [e] at hj
    exact absurd (congrArg (fun t => t.2.2.2) hj) (by simpa using hc)
  · have e1 : r = x.r := by rw [e] at hj; exact congrArg Prod.fst hj
    subst e1
    rw [h1]
    refine ⟨h5, ?_⟩
    refine Decidable.byContradiction fun hn => ?_
    unfold vlook at e
    rw [h5, if_neg (by simp), if_neg hn] at e
    simp only at e
    split at e
    · have := congrArg (fun t => t.2.1) e; simp only at this; omega
    · split at e
      · have := congrArg (fun t => t.2.2.2) e; simp at this
      · have := congrArg (fun t => t.2.1) e; simp only at this; omega
  · rw [e] at hj
    have := congrArg (fun t => t.2.1) hj
    simp only at this
    omega
theorem viewsOf_mem {all : List VW} {i : Int} {x : VW} (h : x ∈ viewsOf all i) : x ∈ all ∧ x.k = i := by
  unfold viewsOf at h
  rw [List.mem_filter] at h
  exact ⟨h.1, of_decide_eq_true h.2⟩
/-- valid bytes of a message in a message at most d deep -/
def SubOk (s : List Mes) (d : Nat) (o : Int) (b : List UInt8) : Prop := ∃ d', d = d' + 1 ∧ (vmsg s d' o.toNat b).2 = 0
theorem field_recs {s : List Mes} (hs : sright s = true) {d m : Nat} {l : List UInt8} (hm : m < s.length) (h : (vmsg s d m l).2 = 0) {q : Nat} (hq : q < (s.getD m .zero).fields.length) :
    FieldRecs (SubOk s d) ((s.getD m .zero).fields.getD q .zero) l (viewsOf (vall (s.getD m .zero).fields l).1 q) := by
  have hv := (vall_ok h).2
  have hf := sright_field hs m hm _ (getD_mem (s.getD m .zero).fields .zero hq)
  have hx : ∀ x ∈ viewsOf (vall (s.getD m .zero).fields l).1 q, ViewOk s d m l x ∧ x.k = q := fun x hx => ⟨hv x (viewsOf_mem hx).1, (viewsOf_mem hx).2⟩
  refine ⟨hf.1, fun x h1 h2 => ?_, fun h15 x h1 => (hx x h1).1.text (hx x h1).2 h15, fun h17 => ⟨fun x h1 => (hx x h1).1.sub (hx x h1).2 h17, fun _ hne => ?_⟩⟩
  · obtain ⟨-, -, -, h3⟩ := (hx x h1).1.facts
    rcases h3 with ⟨-, h3⟩ | ⟨k, h3, -, h4, -⟩
    · rw [h3] at h2; cases h2
    · have : k = q := by have := (hx x h1).2; omega
      subst this
      exact h4 h2
  · obtain ⟨x0, hx0⟩ := List.exists_mem_of_ne_nil _ hne
    obtain ⟨d', rfl, -⟩ := (hx x0 hx0).1.sub (hx x0 hx0).2 h17
    refine ⟨d', rfl, ?_⟩
    rw [List.flatMap_def]
    refine vmsg_flat fun b hb => ?_
    obtain ⟨x, hx1, rfl⟩ := List.mem_map.1 hb
    obtain ⟨d2, e2, h2⟩ := (hx x hx1).1.sub (hx x hx1).2 h17
    obtain rfl : d2 = d' := by omega
    exact h2
theorem of_range {s : List Mes} (hs : sright s = true) {m : Nat} (hm : m < s.length) {q : Nat} (hq : q < (s.getD m .zero).fields.length) :
    0 ≤ ((s.getD m .zero).fields.getD q .zero).of ∧ ((s.getD m .zero).fields.getD q .zero).of < s.length := by
  obtain ⟨-, h1, h2, -⟩ := sright_field hs m hm _ (getD_mem (s.getD m .zero).fields .zero hq)
  by_cases h17 : ((s.getD m .zero).fields.getD q .zero).kind = 17
  · exact h1 h17
  · have := h2 h17
    have := (sright_len hs).1
    omega
theorem tof_right_step {s : List Mes} (hs : sright s = true) (d : Nat) (hrec : ∀ d', d = d' + 1 → ∀ (m : Nat) (l : List UInt8), m < s.length → (vmsg s d' m l).2 = 0 → rightB s (d' + 1) (m : Int) (tof s d' m l) = true)
    (m : Nat) (l : List UInt8) (hm : m < s.length) (h : (vmsg s d m l).2 = 0) : rightB s (d + 1) (m : Int) (tof s d m l) = true := by
  rw [tof_msg]
  show (if (m : Int) < 0 ∨ (s.length : Int) ≤ (m : Int) then false else valsB (fitsB (rightB s d)) (s.getD (m : Int).toNat .zero).fields (msgOf (tsub s d) (s.getD m .zero).fields l).vals 0 && (msgOf (tsub s d) (s.getD m .zero).fields l).unk.all (strangeB (s.getD (m : Int).toNat .zero).fields)) = true
  rw [if_neg (by omega), Int.toNat_natCast, Bool.and_eq_true]
  refine ⟨valsB_ok (schema_Nums hs m hm) (FV := fun i => fieldV (tsub s d) ((s.getD m .zero).fields.getD i.toNat .zero) l (viewsOf (vall (s.getD m .zero).fields l).1 i)) (fun i => rfl) (sortedF (s.getD m .zero).fields) 0 (fun i hi => ?_) (sortF_ok _ _).2, ?_⟩
  · have hb := sortedF_mem hi
    obtain ⟨q, rfl⟩ : ∃ q : Nat, i = q := ⟨i.toNat, by omega⟩
    have hq : q < (s.getD m .zero).fields.length := by omega
    refine ⟨hb, ?_, fun hmn => ?_⟩
    · have := (schema_Nums hs m hm).pos q hq
      unfold numAt
      rw [Int.toNat_natCast]; omega
    · simp only [Int.toNat_natCast] at hmn ⊢
      refine fieldV_fits (field_recs hs hm h hq) (fun b hb => ?_) hmn
      obtain ⟨d', rfl, hv⟩ := hb
      have hr := of_range hs hm hq
      refine ⟨_, rfl, ?_⟩
      have := hrec d' rfl ((s.getD m .zero).fields.getD q .zero).of.toNat b (by omega) hv
      rwa [Int.toNat_of_nonneg hr.1] at this
  · rw [List.all_eq_true]
    intro t ht
    obtain ⟨x, hx, rfl⟩ := List.mem_map.1 (show t ∈ ((vall (s.getD m .zero).fields l).1.filter fun x => decide (x.k < 0)).map fun x => part l x.r.start x.r.to from ht)
    rw [List.mem_filter] at hx
    obtain ⟨h1, h2⟩ := ((vall_ok h).2 x hx.1).unknown (of_decide_eq_true hx.2)
    obtain ⟨r', h3, h4, h5⟩ := rnext_part h1
    unfold strangeB
    rw [h3]
    simp only [true_and, Bool.and_eq_true, decide_eq_true_eq]
    exact ⟨h5, by rw [h4]; exact h2⟩
/-- the meaning of valid bytes is right -/
theorem tof_right {s : List Mes} (hs : sright s = true) : ∀ (d m : Nat) (l : List UInt8), m < s.length → (vmsg s d m l).2 = 0 → rightB s (d + 1) (m : Int) (tof s d m l) = true
  | 0 => tof_right_step hs 0 (fun _ h => by cases h)
  | d + 1 => tof_right_step hs (d + 1) (fun d' h => by
    obtain rfl : d = d' := by omega
    exact tof_right hs d)
end Go.Proofs.YtpckoeicbjfnhaaGreatDoor
namespace Go.Proofs.YtpckoeicbjfnhaaGreatDoor
open Go.RowKit
def vsize (x : VW) : Nat := x.r.to - x.r.start
def vsum (l : List VW) : Nat := (l.map vsize).sum
/-- a view's value is shorter than its record -/
def Thin (x : VW) : Prop := 1 + (x.r.to - x.r.at') ≤ vsize x
theorem vall_sum (fs : List Fld) (l : List UInt8) : ∀ (n i : Nat), i ≤ l.length → vsum (vallGo fs l n i).1 + i ≤ l.length ∧ ∀ x ∈ (vallGo fs l n i).1, Thin x
  | 0, i, hi => by simp [vallGo, vsum]; omega
  | n + 1, i, hi => by
    rw [vallGo]
    by_cases h : l.length ≤ i
    · rw [if_pos h]; simp [vsum]; omega
    rw [if_neg h]
    rcases vlook_cases fs l i with ⟨c, hc, e, -⟩ | ⟨r, h1, h2, h3, h4, -, hcase⟩
    · rw [e, if_pos hc]; simp [vsum]; omega
    · obtain ⟨k, run, e⟩ : ∃ k run, vlook fs l i = (r, k, run, 0) := by
        rcases hcase with e | ⟨k, run, -, e, -⟩
        · exact ⟨_, _, e⟩
        · exact ⟨_, _, e⟩
      rw [e, if_neg (by simp)]
      simp only
      obtain ⟨g1, g2⟩ := vall_sum fs l n r.to h4
      split
      · simp [vsum]; omega
      · refine ⟨?_, fun x hx => ?_⟩
        · unfold vsum at g1 ⊢
          rw [List.map_cons, List.sum_cons]
          have : vsize ⟨r, k, run⟩ = r.to - r.start := rfl
          omega
        · rcases List.mem_cons.1 hx with rfl | hx
          · unfold Thin vsize; simp only; omega
          · exact g2 x hx
theorem vsum_app (a b : List VW) : vsum (a ++ b) = vsum a + vsum b := by unfold vsum; rw [List.map_append, List.sum_append]
/-- a field's records, and the unknown ones, are no more than all -/
theorem vsum_split : ∀ (all : List VW) (ords : List Int), ords.Nodup → (∀ i ∈ ords, 0 ≤ i) → (ords.map fun i => vsum (viewsOf all i)).sum + vsum (all.filter fun x => decide (x.k < 0)) ≤ vsum all
  | [], ords, _, _ => by
    have : (ords.map fun i => vsum (viewsOf [] i)).sum = 0 := by
      rw [List.sum_eq_zero_iff_forall_eq_nat]
      intro y hy
      obtain ⟨i, -, rfl⟩ := List.mem_map.1 hy
      rfl
    rw [this]; simp [vsum]
  | x :: r, ords, hn, h0 => by
    have ih := vsum_split r ords hn h0
    have hx : (ords.map fun i => vsum (viewsOf (x :: r) i)).sum ≤ (ords.map fun i => vsum (viewsOf r i)).sum + (if x.k ∈ ords then vsize x else 0) := by
      clear ih h0
      induction ords with
      | nil => simp
      | cons i t iht =>
        rw [List.nodup_cons] at hn
        have := iht hn.2
        have hv : vsum (viewsOf (x :: r) i) = (if x.k = i then vsize x else 0) + vsum (viewsOf r i) := by
          unfold viewsOf
          rw [List.filter_cons]
          by_cases he : x.k = i
          · rw [if_pos (by simpa using he), if_pos he]; unfold vsum; rw [List.map_cons, List.sum_cons]
          · rw [if_neg (by simpa using he), if_neg he, Nat.zero_add]
        rw [List.map_cons, List.sum_cons, List.map_cons, List.sum_cons, hv]
        by_cases he : x.k = i
        · have hnt : x.k ∉ t := by rw [he]; exact hn.1
          rw [if_neg hnt] at this
          rw [if_pos he, if_pos (by simp [he])]
          omega
        · rw [if_neg he]
          by_cases ht : x.k ∈ t
          · rw [if_pos ht] at this
            rw [if_pos (by simp [ht])]; omega
          · rw [if_neg ht] at this
            rw [if_neg (by simp [he, ht])]; omega
    have hs : vsum (x :: r) = vsize x + vsum r := by unfold vsum; rw [List.map_cons, List.sum_cons]
    rw [List.filter_cons]
    by_cases hk : x.k < 0
    · rw [if_pos (by simpa using hk)]
      have hno : x.k ∉ ords := fun hm => by have := h0 _ hm; omega
      rw [if_neg hno] at hx
      have : vsum (x :: r.filter fun x => decide (x.k < 0)) = vsize x + vsum (r.filter fun x => decide (x.k < 0)) := by unfold vsum; rw [List.map_cons, List.sum_cons]
      omega
    · rw [if_neg (by simpa using hk)]
      by_cases hm : x.k ∈ ords
      · rw [if_pos hm] at hx; omega
      · rw [if_neg hm] at hx; omega
theorem vbytes_len (l : List UInt8) (x : VW) : (vbytes l x).length ≤ x.r.to - x.r.at' := by unfold vbytes part; rw [List.length_take]; omega
theorem flat_sum {α : Type} (g : VW → List α) (W : List α → Nat) (h0 : W [] = 0) (ha : ∀ a b, W (a ++ b) = W a + W b) : ∀ (xs : List VW), (∀ x ∈ xs, W (g x) ≤ vsize x) → W (xs.flatMap g) ≤ vsum xs
  | [], _ => by rw [List.flatMap_nil, h0]; exact Nat.zero_le _
  | x :: r, h => by
    have ih := flat_sum g W h0 ha r fun y hy => h y (by simp [hy])
    have h1 := h x (by simp)
    rw [List.flatMap_cons, ha]
    unfold vsum at ih ⊢
    rw [List.map_cons, List.sum_cons]
    omega
theorem twt_nil : twt [] = 0 := rfl
theorem twt_app (a b : List (List UInt8)) : twt (a ++ b) = twt a + twt b := by unfold twt; rw [List.map_append, List.sum_append]
theorem counts_sum (f : Fld) (xs : List VW) : vsum (counts f xs) ≤ vsum xs := by
  unfold counts
  split
  · exact Nat.le_refl _
  · unfold lastOf
    conv => rhs; rw [← List.take_append_drop (xs.length - 1) xs, vsum_app]
    omega
theorem piece_words {f : Fld} {l : List UInt8} {x : VW} (h : Thin x) : (pieceW f l x).length ≤ vsize x := by
  unfold Thin at h
  unfold pieceW
  split
  · unfold runWords
    split
    · have h1 := rpieces_len (kwire f.kind) _ (vbytes l x) (Nat.le_refl _)
      have h2 := vbytes_len l x
      simp only [kwords, List.length_map]
      omega
    · simp
  · split
    · simp; omega
    · simp
theorem piece_texts {f : Fld} {l : List UInt8} {x : VW} (h : Thin x) : twt (pieceB f l x) ≤ vsize x := by
  unfold Thin at h
  unfold pieceB
  split
  · rw [twt_nil]; omega
  · have h2 := vbytes_len l x
    simp [twt]; omega
theorem vsum_pos {xs : List VW} (ht : ∀ x ∈ xs, Thin x) : xs.length ≤ vsum xs := by
  induction xs with
  | nil => simp
  | cons x r ih =>
    have h1 := ht x (by simp)
    have h2 := ih fun y hy => ht y (by simp [hy])
    unfold Thin at h1
    unfold vsum at h2 ⊢
    rw [List.map_cons, List.sum_cons, List.length_cons]
    omega
/-- a field's value weighs at most four times its records -/
theorem fieldV_weight {α : Type} {F : α → Nat} {sub : Int → List UInt8 → List α} {f : Fld} {l : List UInt8} {xs : List VW} (hrun : f.kind = 17 → ∀ x ∈ xs, x.run = false) (ht : ∀ x ∈ xs, Thin x)
    (hs : ∀ b, ((sub f.of b).map F).sum ≤ 1 + 4 * b.length) (hm : 0 < many (fieldV sub f l xs)) : vwt F (fieldV sub f l xs) ≤ 4 * vsum xs := by
  have hne : xs ≠ [] := by
    rintro rfl
    unfold many fieldV counts lastOf at hm
    simp at hm
  have hpos := vsum_pos ht
  have hl : 0 < xs.length := List.length_pos_iff.2 hne
  have hc := counts_sum f xs
  have htc : ∀ x ∈ counts f xs, Thin x := fun x hx => ht x (counts_sub f xs hx)
  have hw := flat_sum (pieceW f l) List.length rfl (fun a b => List.length_append) (counts f xs) fun x hx => piece_words (htc x hx)
  have hx := flat_sum (pieceB f l) twt twt_nil twt_app (counts f xs) fun x hx => piece_texts (htc x hx)
  unfold vwt fieldV
  simp only
  by_cases h17 : f.kind = 17
  · rw [if_pos h17, if_pos h17, twt_nil]
    have hw0 : ((counts f xs).flatMap (pieceW f l)) = [] := by
      refine flat_nil _ _ fun x hx => ?_
      unfold pieceW
      rw [if_neg (by rw [hrun h17 x (counts_sub f xs hx)]; decide), if_neg (by rw [h17]; decide)]
    rw [hw0]
    have hsum : ∀ ys : List VW, (∀ x ∈ ys, Thin x) → ((ys.flatMap fun x => sub f.of (vbytes l x)).map F).sum + ys.length ≤ 4 * vsum ys := by
      intro ys
      induction ys with
      | nil => simp [vsum]
      | cons x r ih =>
        intro hy
        have h1 := hy x (by simp)
        have h2 := ih fun y h => hy y (by simp [h])
        have h3 := hs (vbytes l x)
        have h4 := vbytes_len l x
        unfold Thin at h1
        unfold vsum at h2 ⊢
        rw [List.flatMap_cons, List.map_append, List.sum_append, List.length_cons, List.map_cons, List.sum_cons]
        omega
    have hlen : ∀ ys : List VW, (∀ x ∈ ys, Thin x) → (ys.flatMap (vbytes l)).length + ys.length ≤ vsum ys := by
      intro ys
      induction ys with
      | nil => simp [vsum]
      | cons x r ih =>
        intro hy
        have h1 := hy x (by simp)
        have h2 := ih fun y h => hy y (by simp [h])
        have h4 := vbytes_len l x
        unfold Thin at h1
        unfold vsum at h2 ⊢
        rw [List.flatMap_cons, List.length_append, List.length_cons, List.map_cons, List.sum_cons]
        omega
    split
    · have := hsum xs ht
      simp only [List.length_nil]; omega
    · have h1 := hs (xs.flatMap (vbytes l))
      have h2 := hlen xs ht
      simp only [List.length_nil]; omega
  · rw [if_neg h17, if_neg h17]
    have hboth : ((counts f xs).flatMap (pieceW f l)).length + twt ((counts f xs).flatMap (pieceB f l)) ≤ 2 * vsum xs := by omega
    simp only [List.map_nil, List.sum_nil]
    omega
theorem sortedF_nodup (fs : List Fld) : (sortedF fs).Nodup := by
  have h := (sortF_ok fs fs.length).2
  refine List.Pairwise.imp (fun {a b} hab => ?_) h
  rintro rfl
  exact Ahead.asymm _ _ hab hab
theorem sum_filter_le {α : Type} (F G : α → Nat) (p : α → Bool) : ∀ (l : List α), (∀ x ∈ l, p x = true → F x ≤ G x) → ((l.filter p).map F).sum ≤ (l.map G).sum
  | [], _ => by simp
  | x :: r, h => by
    have ih := sum_filter_le F G p r fun y hy => h y (by simp [hy])
    rw [List.filter_cons, List.map_cons, List.sum_cons]
    by_cases hp : p x = true
    · rw [if_pos hp, List.map_cons, List.sum_cons]
      have := h x (by simp) hp
      omega
    · rw [if_neg hp]; omega
theorem vall_run (fs : List Fld) (l : List UInt8) : ∀ (n i : Nat), ∀ x ∈ (vallGo fs l n i).1, ∀ k : Nat, x.k = k → x.run = true → knumber (fs.getD k .zero).kind = true
  | 0, i => by simp [vallGo]
  | n + 1, i => by
    rw [vallGo]
    by_cases h : l.length ≤ i
    · rw [if_pos h]; simp
    rw [if_neg h]
    by_cases hc : (vlook fs l i).2.2.2 = 0
    · rw [if_neg (by omega)]
      have ih := vall_run fs l n (vlook fs l i).1.to
      simp only
      split
      · simp
      · intro x hx
        rcases List.mem_cons.1 hx with rfl | hx
        · intro k hk hr
          simp only at hk hr
          rcases vlook_cases fs l i with ⟨c, hc', e, -⟩ | ⟨r, h1, h2, h3, h4, -, e | ⟨k', run, -, e, -, h6, -⟩⟩
          · rw [e] at hc; exact absurd hc hc'
          · rw [e] at hr; simp at hr
          · rw [e] at hk hr
            simp only at hk hr
            obtain rfl : k' = k := by omega
            exact (h6 hr).2.1
        · exact ih x hx
    · rw [if_pos hc]; simp
theorem sum_four (g : Int → Nat) : ∀ (l : List Int), (l.map fun i => 4 * g i).sum = 4 * (l.map g).sum
  | [] => by simp
  | x :: r => by rw [List.map_cons, List.sum_cons, sum_four g r, List.map_cons, List.sum_cons]; omega
theorem msgOf_weight {α : Type} (F : α → Nat) {sub : Int → List UInt8 → List α} (fs : List Fld) (l : List UInt8) (hs : ∀ o b, ((sub o b).map F).sum ≤ 1 + 4 * b.length) :
    twt (msgOf sub fs l).unk + ((msgOf sub fs l).vals.map (vwt F)).sum ≤ 4 * l.length := by
  obtain ⟨h1, h2⟩ := vall_sum fs l l.length 0 (Nat.zero_le _)
  have h3 := vall_run fs l l.length 0
  have h4 := vsum_split (vall fs l).1 (sortedF fs) (sortedF_nodup fs) (fun i hi => (sortedF_mem hi).1)
  have hall : vsum (vall fs l).1 ≤ l.length := by unfold vall; omega
  have hunk : twt (msgOf sub fs l).unk ≤ 2 * vsum ((vall fs l).1.filter fun x => decide (x.k < 0)) := by
    unfold msgOf twt vsum
    simp only [List.map_map]
    have : ∀ (ys : List VW), (∀ x ∈ ys, Thin x) → (ys.map ((fun t => 1 + t.length) ∘ fun x => part l x.r.start x.r.to)).sum ≤ 2 * (ys.map vsize).sum := by
      intro ys
      induction ys with
      | nil => simp
      | cons x r ih =>
        intro hy
        have g1 := hy x (by simp)
        have g2 := ih fun y h => hy y (by simp [h])
        have g3 : (part l x.r.start x.r.to).length ≤ vsize x := by unfold part vsize; rw [List.length_take]; omega
        unfold Thin at g1
        rw [List.map_cons, List.sum_cons, List.map_cons, List.sum_cons]
        simp only [Function.comp]
        omega
    exact this _ fun x hx => h2 x (List.mem_filter.1 hx).1
  have hval : ((msgOf sub fs l).vals.map (vwt F)).sum ≤ 4 * ((sortedF fs).map fun i => vsum (viewsOf (vall fs l).1 i)).sum := by
    rw [← sum_four]
    unfold msgOf
    simp only
    rw [List.filter_map, List.map_map]
    refine sum_filter_le _ _ _ _ fun i hi hp => ?_
    simp only [Function.comp] at hp ⊢
    have hb := sortedF_mem hi
    obtain ⟨q, rfl⟩ : ∃ q : Nat, i = q := ⟨i.toNat, by omega⟩
    simp only [Int.toNat_natCast] at hp ⊢
    refine fieldV_weight (fun h17 x hx => ?_) (fun x hx => h2 x (viewsOf_mem hx).1) (fun b => hs _ b) (of_decide_eq_true hp)
    cases hr : x.run with
    | false => rfl
    | true =>
      have := h3 x (viewsOf_mem hx).1 q (viewsOf_mem hx).2 hr
      rw [h17] at this
      simp [knumber] at this
  omega
/-- the meaning of bytes weighs at most four times as much -/
theorem tof_weight (s : List Mes) : ∀ (d m : Nat) (l : List UInt8), mwt (d + 1) (tof s d m l) ≤ 1 + 4 * l.length
  | 0, m, l => by
    have := msgOf_weight (mwt 0) (sub := tsub s 0) (s.getD m .zero).fields l (fun o b => by show ([] : List Nat).sum ≤ _; simp)
    rw [tof_msg]
    show 1 + twt (msgOf (tsub s 0) (s.getD m .zero).fields l).unk + ((msgOf (tsub s 0) (s.getD m .zero).fields l).vals.map (vwt (mwt 0))).sum ≤ _
    omega
  | d + 1, m, l => by
    have := msgOf_weight (mwt (d + 1)) (sub := tsub s (d + 1)) (s.getD m .zero).fields l (fun o b => by
      have := tof_weight s d o.toNat b
      show ([mwt (d + 1) (tof s d o.toNat b)]).sum ≤ _
      simp; omega)
    rw [tof_msg]
    show 1 + twt (msgOf (tsub s (d + 1)) (s.getD m .zero).fields l).unk + ((msgOf (tsub s (d + 1)) (s.getD m .zero).fields l).vals.map (vwt (mwt (d + 1)))).sum ≤ _
    omega
end Go.Proofs.YtpckoeicbjfnhaaGreatDoor
namespace Go.Proofs.YtpckoeicbjfnhaaGreatDoor
open Go.RowKit
/-- A []string of the call's own. -/
def StrsOwn (w : World) (base : Nat) (v : Value) (l : List (List UInt8)) : Prop := w.ownsRow base 9 1 v l.length (l.map strV)
theorem info_string : (Tryz.prog.info? 9).map (fun i => (i.zero, i.size, i.bytes)) = some (some (.string ⟨#[]⟩), 1, 16) := by kernel_rfl
theorem under_strl : Tryz.prog.underlying 25 = some (.slice 9) := Tryz.underlying25
theorem StrsOwn.form {w : World} {base : Nat} {v : Value} {l : List (List UInt8)} (h : StrsOwn w base v l) : ∃ a c, v = .slice a l.length c := by
  rcases h.2 with ⟨h1, h2⟩ | ⟨g, cap, cur, hv, -⟩
  · exact ⟨none, 0, by rw [h1, h2]⟩
  · exact ⟨_, _, hv⟩
theorem StrsOwn.strs {w : World} {base : Nat} {v : Value} {l : List (List UInt8)} (h : StrsOwn w base v l) (hn : l.length ≤ 140737488355328) (hl : ∀ t ∈ l, t.length ≤ 140737488355328) : StrsAt w v l :=
  ⟨row_seg h hn, hl⟩
/-- one more string, laid in a block of its own ahead of the append -/
theorem StrsOwn.one {W : World} {base : Nat} {v : Value} {l : List (List UInt8)} (h : StrsOwn W base v l) (t : List UInt8) (hn : l.length + 1 ≤ 1099511627777) (hB : base ≤ W.heap.size) :
    ∃ v' w', (Builtin.append_ #[25, 25] 25 #[v, .slice (some ⟨W.heap.size, 0, none⟩) 1 1]).run Tryz.prog (W.alloc (.cells #[strV t] 9)) = .ok v' w' ∧ StrsOwn w' base v' (l ++ [t]) ∧ W.grownBy w' v.ownBlock := by
  have hA : Below W.heap.size W (W.alloc (.cells #[strV t] 9)) := (Below.refl _ _).alloc (Nat.le_refl _) _
  have hx : Seg (W.alloc (.cells #[strV t] 9)) (.slice (some ⟨W.heap.size, 0, none⟩) 1 1) 1 1 [strV t] := seg_blk (Blk.new W [strV t] _) 1 1 rfl (by omega)
  have h' : (W.alloc (.cells #[strV t] 9)).ownsRow base 9 1 v l.length (l.map strV) := row_keep h fun b _ _ he => hA.block b (Array.getElem?_eq_some_iff.1 he).1
  obtain ⟨v', w', h1, h2, h3, -⟩ := seg_append (P := Tryz.prog) _ base 25 25 9 (.string ⟨#[]⟩) 1 16 under_strl info_string rfl (by decide) v _ l.length 1 _ _ h' hx (by intro u hu; simp at hu; subst hu; rfl) (by omega) (by omega) (by simp; omega)
  refine ⟨v', w', h1, ?_, ?_⟩
  · unfold StrsOwn
    rw [List.length_append, List.map_append]
    exact h2
  · exact ⟨h3.os, h3.tape, h3.output, Nat.le_trans (by simp) h3.size, fun k hk hr => (h3.block k (by simp; omega) hr).trans (Below.heap_alloc W _ k hk)⟩
end Go.Proofs.YtpckoeicbjfnhaaGreatDoor
