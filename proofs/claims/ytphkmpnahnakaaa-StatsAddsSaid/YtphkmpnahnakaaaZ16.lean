/- Plain laws: the meaning of bytes (tof). No condition. Plain laws: bytes behind bytes have the views of both, and are valid if both are; how many views. No condition. Plain laws: valid bytes behind valid bytes are valid. No condition. Plain laws: the records of bytes, told apart from their places (arecs): of bytes behind bytes they are those of both; the meaning hangs on them alone (msgA). No condition. Plain laws: a record cut out of bytes reads as it did; read words are canonical. No condition. -/
import Derived.Test.YtphkmpnahnakaaaZ09
import Derived.Test.YtphkmpnahnakaaaZ13
import Derived.Test.YtphkmpnahnakaaaZ15
namespace Go.Proofs.Ytphkmpnahnakaaa
open Go.RowKit
def vbytes (l : List UInt8) (x : VW) : List UInt8 := part l x.r.at' x.r.to
/-- a view of valid bytes -/
structure ViewOk (s : List Mes) (d m : Nat) (l : List UInt8) (x : VW) : Prop where
  look : ∃ j, vlook (s.getD m .zero).fields l j = (x.r, x.k, x.run, 0)
  right : (vval (vrec s d) (decide (d = 0)) (s.getD m .zero).fields l (x.r, x.k, x.run, 0)).2 = 0
theorem views_ok (s : List Mes) (d m : Nat) (l : List UInt8) : ∀ (fuel i : Nat), l.length ≤ fuel + i → (vfrom s d m l i).2 = 0 →
    (vallGo (s.getD m .zero).fields l fuel i).2.2 = 0 ∧ ∀ x ∈ (vallGo (s.getD m .zero).fields l fuel i).1, ViewOk s d m l x
  | 0, i, _, _ => ⟨rfl, by simp [vallGo]⟩
  | n + 1, i, hn, h => by
    rw [vallGo]
    by_cases hi : l.length ≤ i
    · rw [if_pos hi]; exact ⟨rfl, by simp⟩
    rw [if_neg hi]
    rw [vfrom_at, if_neg hi] at h
    by_cases hc : (vlook (s.getD m .zero).fields l i).2.2.2 = 0
    · rw [if_neg (by omega)] at h ⊢
      by_cases hv : (vval (vrec s d) (decide (d = 0)) (s.getD m .zero).fields l (vlook (s.getD m .zero).fields l i)).2 = 0
      · rw [if_neg (by omega)] at h
        have hto := vlook_to _ _ _ hc
        obtain ⟨g1, g2⟩ := views_ok s d m l n _ (by omega) h
        have he : vlook (s.getD m .zero).fields l i = ((vlook (s.getD m .zero).fields l i).1, (vlook (s.getD m .zero).fields l i).2.1, (vlook (s.getD m .zero).fields l i).2.2.1, 0) := by rw [← hc]
        rw [he] at hv
        simp only
        rw [if_neg (by omega)]
        refine ⟨rfl, fun x hx => ?_⟩
        rcases List.mem_cons.1 hx with rfl | hx
        · exact ⟨⟨i, he⟩, hv⟩
        · exact g2 x hx
      · rw [if_pos hv] at h; exact absurd h hv
    · rw [if_pos hc] at h; exact absurd h hc
theorem vall_ok {s : List Mes} {d m : Nat} {l : List UInt8} (h : (vmsg s d m l).2 = 0) : (vall (s.getD m .zero).fields l).2.2 = 0 ∧ ∀ x ∈ (vall (s.getD m .zero).fields l).1, ViewOk s d m l x :=
  views_ok s d m l _ 0 (by omega) (by rw [← vmsg_from]; exact h)
/-- what is known of such a view -/
theorem ViewOk.facts {s : List Mes} {d m : Nat} {l : List UInt8} {x : VW} (h : ViewOk s d m l x) :
    x.r.start ≤ x.r.at' ∧ x.r.at' ≤ x.r.to ∧ x.r.to ≤ l.length ∧ (x.k = -1 ∧ x.run = false ∨ ∃ k : Nat, x.k = k ∧ k < (s.getD m .zero).fields.length ∧
      (x.run = true → ((s.getD m .zero).fields.getD k .zero).rep = true ∧ knumber ((s.getD m .zero).fields.getD k .zero).kind = true) ∧ kright ((s.getD m .zero).fields.getD k .zero).kind = true) := by
  obtain ⟨j, hj⟩ := h.look
  rcases vlook_cases (s.getD m .zero).fields l j with ⟨c, hc, e, -⟩ | ⟨r, h1, h2, h3, h4, h5, e | ⟨k, run, hk, e, -, h6, h7⟩⟩
  · rw [e] at hj
    exact absurd (congrArg (fun t => t.2.2.2) hj) (by simpa using hc)
  · rw [e] at hj
    injection hj with e1 e2
    injection e2 with e2 e3
    injection e3 with e3 e4
    subst e1
    exact ⟨by omega, h3, h4, .inl ⟨e2.symm, e3.symm⟩⟩
  · rw [e] at hj
    injection hj with e1 e2
    injection e2 with e2 e3
    injection e3 with e3 e4
    subst e1
    subst e3
    refine ⟨by omega, h3, h4, .inr ⟨k, e2.symm, hk, fun hr => ⟨(h6 hr).1, (h6 hr).2.1⟩, ?_⟩⟩
    cases hr : x.run with
    | true => exact kright_num (h6 hr).2.1
    | false => exact (h7 hr).1
theorem ViewOk.sub {s : List Mes} {d m : Nat} {l : List UInt8} {x : VW} (h : ViewOk s d m l x) {k : Nat} (hk : x.k = k) (h17 : ((s.getD m .zero).fields.getD k .zero).kind = 17) :
    ∃ d', d = d' + 1 ∧ (vmsg s d' ((s.getD m .zero).fields.getD k .zero).of.toNat (vbytes l x)).2 = 0 := by
  have h1 := h.right
  obtain ⟨-, -, -, h2⟩ := h.facts
  have hr : x.run ≠ true := by
    rintro hr
    rcases h2 with ⟨h2, -⟩ | ⟨k', h2, -, h3, -⟩
    · omega
    · have : k' = k := by omega
      subst this
      have := (h3 hr).2
      rw [h17] at this
      simp [knumber] at this
  unfold vval at h1
  simp only at h1
  rw [if_neg (by omega), if_neg hr, hk, Int.toNat_natCast, if_neg (by rw [h17]; decide), if_pos h17] at h1
  cases d with
  | zero => simp at h1
  | succ d' =>
    refine ⟨d', rfl, ?_⟩
    rw [if_neg (by simp)] at h1
    exact h1
theorem ViewOk.text {s : List Mes} {d m : Nat} {l : List UInt8} {x : VW} (h : ViewOk s d m l x) {k : Nat} (hk : x.k = k) (h15 : ((s.getD m .zero).fields.getD k .zero).kind = 15) :
    ufirst (vbytes l x) = (vbytes l x).length := by
  have h1 := h.right
  obtain ⟨-, -, -, h2⟩ := h.facts
  have hr : x.run ≠ true := by
    rintro hr
    rcases h2 with ⟨h2, -⟩ | ⟨k', h2, -, h3, -⟩
    · omega
    · have : k' = k := by omega
      subst this
      have := (h3 hr).2
      rw [h15] at this
      simp [knumber] at this
  unfold vval at h1
  simp only at h1
  rw [if_neg (by omega), if_neg hr, hk, Int.toNat_natCast, if_pos h15] at h1
  by_cases h3 : ufirst (vbytes l x) = (vbytes l x).length
  · exact h3
  · rw [if_neg (show ¬ (ufirst (part l x.r.at' x.r.to) = (part l x.r.at' x.r.to).length) from h3)] at h1
    simp at h1
theorem ViewOk.words {s : List Mes} {d m : Nat} {l : List UInt8} {x : VW} (h : ViewOk s d m l x) {k : Nat} (hk : x.k = k) (hr : x.run = true) :
    (runCount (kwire ((s.getD m .zero).fields.getD k .zero).kind) (vbytes l x)).2 = 0 := by
  have h1 := h.right
  unfold vval at h1
  simp only at h1
  rw [if_neg (by omega), if_pos hr, hk, Int.toNat_natCast] at h1
  exact h1
end Go.Proofs.Ytphkmpnahnakaaa
namespace Go.Proofs.Ytphkmpnahnakaaa
open Go.RowKit
theorem vallGo_len (fs : List Fld) (l : List UInt8) : ∀ (n i : Nat), (vallGo fs l n i).1.length + i ≤ max l.length i
  | 0, i => by simp [vallGo]; omega
  | n + 1, i => by
    rw [vallGo]
    by_cases hi : l.length ≤ i
    · rw [if_pos hi]; simp; omega
    rw [if_neg hi]
    by_cases hc : (vlook fs l i).2.2.2 = 0
    · rw [if_neg (by omega)]
      have hto := vlook_to _ _ _ hc
      have ih := vallGo_len fs l n (vlook fs l i).1.to
      simp only
      split
      · simp; omega
      · simp; omega
    · rw [if_pos hc]; simp; omega
theorem vall_len (fs : List Fld) (l : List UInt8) : (vall fs l).1.length ≤ l.length := by
  have := vallGo_len fs l l.length 0
  unfold vall
  omega
end Go.Proofs.Ytphkmpnahnakaaa
namespace Go.Proofs.Ytphkmpnahnakaaa
open Go.RowKit
theorem vgo_app (r : List UInt8) : ∀ (l : List UInt8) (n w : Nat), (vgo n w l).2.2 = 0 → vgo n w (l ++ r) = vgo n w l
  | [], n, w, h => by simp [vgo] at h
  | c :: t, n, w, h => by
    rw [List.cons_append]
    rw [vgo] at h ⊢
    conv => rhs; rw [vgo]
    by_cases h1 : n = 9 ∧ 1 < c.toNat
    · rw [if_pos h1] at h; simp at h
    rw [if_neg h1] at h ⊢
    rw [if_neg h1]
    by_cases h2 : c.toNat < 128
    · rw [if_pos h2, if_pos h2]
    rw [if_neg h2] at h ⊢
    rw [if_neg h2]
    exact vgo_app r t _ _ h
theorem vread_app {l : List UInt8} (r : List UInt8) (h : (vread l).2.2 = 0) : vread (l ++ r) = vread l := vgo_app r l 0 0 h
theorem tread_app {l : List UInt8} (r : List UInt8) (h : (tread l).2.2.2 = 0) : tread (l ++ r) = tread l := by
  have h1 : (vread l).2.2 = 0 := by
    refine Decidable.byContradiction fun hn => ?_
    unfold tread at h
    rw [if_pos hn] at h
    exact hn h
  unfold tread
  rw [vread_app r h1]
theorem rsize_app (wire : Nat) {l : List UInt8} (r : List UInt8) (h : (rsize wire l).2.2 = 0) : rsize wire (l ++ r) = rsize wire l := by
  unfold rsize at h ⊢
  by_cases h0 : wire = 0
  · rw [if_pos h0] at h ⊢
    rw [if_pos h0, vread_app r h]
  rw [if_neg h0] at h ⊢
  rw [if_neg h0]
  by_cases h1 : wire = 1
  · rw [if_pos h1, if_pos h1]
  rw [if_neg h1] at h ⊢
  rw [if_neg h1]
  by_cases h5 : wire = 5
  · rw [if_pos h5, if_pos h5]
  rw [if_neg h5] at h ⊢
  rw [if_neg h5, vread_app r h]
theorem rnext_app {l : List UInt8} (r : List UInt8) {i : Nat} (h : (rnext l i).2 = 0) : rnext (l ++ r) i = rnext l i := by
  rcases rnext_cases l i with ⟨hi, er⟩ | ⟨hi, c, et, hc, er⟩ | ⟨hi, k, x, n, et, h1, h2, h3, h4, h5, h6, hcs⟩
  · rw [er] at h; simp at h
  · rw [er] at h; simp at h; omega
  · rcases hcs with ⟨a, m, c, es, hc, -, -, er⟩ | ⟨a, m, es, -, -, -, -, er⟩ | ⟨a, m, es, g1, g2, g3, er⟩
    · rw [er] at h; simp at h; omega
    · rw [er] at h; simp at h
    · rw [er]
      unfold rnext
      rw [if_neg (by rw [List.length_append]; omega)]
      have e1 : (l ++ r).drop i = l.drop i ++ r := List.drop_append_of_le_length (by omega)
      have e2 : (l ++ r).drop (i + n) = l.drop (i + n) ++ r := List.drop_append_of_le_length (by omega)
      rw [e1, tread_app r (by rw [et]), et]
      simp only
      rw [if_neg (by simp), e2, rsize_app x r (by rw [es]), es]
      simp only
      rw [if_neg (by simp), if_neg (by rw [List.length_append]; omega)]
theorem vlook_app (fs : List Fld) {l : List UInt8} (r : List UInt8) {i : Nat} (h : (vlook fs l i).2.2.2 = 0) : vlook fs (l ++ r) i = vlook fs l i := by
  have h1 := (vlook_ok h).2.2.2.1
  unfold vlook
  rw [rnext_app r h1]
def Rec.shift (n : Nat) (x : Rec) : Rec := ⟨x.number, x.wire, n + x.start, n + x.at', n + x.to⟩
theorem rnext_shift (p l : List UInt8) (i : Nat) : rnext (p ++ l) (p.length + i) = (if (rnext l i).2 = 0 then (Rec.shift p.length (rnext l i).1, 0) else (rnext l i)) := by
  have e1 : (p ++ l).drop (p.length + i) = l.drop i := by rw [List.drop_append]; simp
  rcases rnext_cases l i with ⟨hi, er⟩ | ⟨hi, c, et, hc, er⟩ | ⟨hi, k, x, n, et, h1, h2, h3, h4, h5, h6, hcs⟩
  · rw [er, if_neg (by simp)]
    unfold rnext
    rw [if_pos (by rw [List.length_append]; omega)]
  · rw [er, if_neg (by simp; omega)]
    unfold rnext
    rw [if_neg (by rw [List.length_append]; omega), e1, et]
    simp only
    rw [if_pos (by omega)]
  · have e2 : (p ++ l).drop (p.length + i + n) = l.drop (i + n) := by rw [Nat.add_assoc, List.drop_append]; simp
    rcases hcs with ⟨a, m, c, es, hc, -, -, er⟩ | ⟨a, m, es, g1, g2, g3, g4, er⟩ | ⟨a, m, es, g1, g2, g3, er⟩
    · rw [er, if_neg (by simp; omega)]
      unfold rnext
      rw [if_neg (by rw [List.length_append]; omega), e1, et]
      simp only
      rw [if_neg (by simp), e2, es]
      simp only
      rw [if_pos (by omega)]
    · rw [er, if_neg (by simp)]
      unfold rnext
      rw [if_neg (by rw [List.length_append]; omega), e1, et]
      simp only
      rw [if_neg (by simp), e2, es]
      simp only
      rw [if_neg (by simp), if_pos (by rw [List.length_append]; omega)]
    · rw [er, if_pos rfl]
      unfold rnext
      rw [if_neg (by rw [List.length_append]; omega), e1, et]
      simp only
      rw [if_neg (by simp), e2, es]
      simp only
      rw [if_neg (by simp), if_neg (by rw [List.length_append]; omega)]
      unfold Rec.shift
      simp only [Nat.add_assoc]
theorem part_app {l : List UInt8} (r : List UInt8) {i j : Nat} (h : j ≤ l.length) (hij : i ≤ j) : part (l ++ r) i j = part l i j := by
  unfold part
  rw [List.drop_append_of_le_length (by omega), List.take_append_of_le_length (by rw [List.length_drop]; omega)]
theorem part_shift (p l : List UInt8) (i j : Nat) : part (p ++ l) (p.length + i) (p.length + j) = part l i j := by
  unfold part
  have e1 : (p ++ l).drop (p.length + i) = l.drop i := by rw [List.drop_append]; simp
  rw [e1, Nat.add_sub_add_left]
theorem vlook_shift (fs : List Fld) (p l : List UInt8) {i : Nat} (h : (vlook fs l i).2.2.2 = 0) :
    vlook fs (p ++ l) (p.length + i) = (Rec.shift p.length (vlook fs l i).1, (vlook fs l i).2.1, (vlook fs l i).2.2.1, 0) := by
  have h1 := (vlook_ok h).2.2.2.1
  have hs := rnext_shift p l i
  rw [if_pos h1] at hs
  obtain ⟨r, er⟩ : ∃ r, rnext l i = (r, 0) := ⟨(rnext l i).1, by rw [← h1]⟩
  rw [er] at hs
  obtain ⟨r1, r2, r3, r4, r5⟩ := r
  have h2 : ∀ (L : List UInt8) (j : Nat) (q : Rec), rnext L j = (q, 0) → vlook fs L j = if fieldAt fs q.number < 0 then (q, -1, false, 0) else
      if ((fs.getD (fieldAt fs q.number).toNat .zero).rep && knumber (fs.getD (fieldAt fs q.number).toNat .zero).kind && decide (q.wire = 2)) = true then (q, fieldAt fs q.number, true, 0) else
      if kright (fs.getD (fieldAt fs q.number).toNat .zero).kind = false ∨ kwire (fs.getD (fieldAt fs q.number).toNat .zero).kind ≠ q.wire then (.none, 0, false, 6) else (q, fieldAt fs q.number, false, 0) := by
    intro L j q hq
    unfold vlook
    rw [hq]
    rfl
  rw [h2 _ _ _ er] at h ⊢
  rw [h2 _ _ _ hs]
  unfold Rec.shift
  simp only at h ⊢
  by_cases g1 : fieldAt fs r1 < 0
  · rw [if_pos g1, if_pos g1]
  rw [if_neg g1] at h ⊢
  rw [if_neg g1]
  by_cases g2 : ((fs.getD (fieldAt fs r1).toNat .zero).rep && knumber (fs.getD (fieldAt fs r1).toNat .zero).kind && decide (r2 = 2)) = true
  · rw [if_pos g2, if_pos g2]
  rw [if_neg g2] at h ⊢
  rw [if_neg g2]
  by_cases g3 : kright (fs.getD (fieldAt fs r1).toNat .zero).kind = false ∨ kwire (fs.getD (fieldAt fs r1).toNat .zero).kind ≠ r2
  · rw [if_pos g3] at h; simp at h
  · rw [if_neg g3, if_neg g3]
theorem vlook_bds {fs : List Fld} {l : List UInt8} {i : Nat} (h : (vlook fs l i).2.2.2 = 0) : (vlook fs l i).1.at' ≤ (vlook fs l i).1.to ∧ (vlook fs l i).1.to ≤ l.length := by
  rcases vlook_cases fs l i with ⟨c, hc, e, -⟩ | ⟨r, h1, h2, h3, h4, -, e | ⟨k, run, -, e, -⟩⟩
  · rw [e] at h; exact absurd h hc
  · rw [e]; exact ⟨h3, h4⟩
  · rw [e]; exact ⟨h3, h4⟩
/-- whether a record is right hangs on its value alone -/
theorem vval_code {rec : Nat → List UInt8 → Nat × Nat} {deep : Bool} {fs : List Fld} {l l' : List UInt8} {v v' : Rec × Int × Bool × Nat} (hk : v'.2.1 = v.2.1) (hr : v'.2.2.1 = v.2.2.1) (hp : part l' v'.1.at' v'.1.to = part l v.1.at' v.1.to) :
    (vval rec deep fs l' v').2 = (vval rec deep fs l v).2 := by
  unfold vval
  rw [hk, hr, hp]
  simp only
  repeat' split
  all_goals rfl
theorem vfrom_behind (s : List Mes) (d m : Nat) (p l : List UInt8) : ∀ (n i : Nat), l.length ≤ n + i → (vfrom s d m l i).2 = 0 → (vfrom s d m (p ++ l) (p.length + i)).2 = 0
  | 0, i, hn, _ => by rw [vfrom_at, if_pos (by rw [List.length_append]; omega)]
  | n + 1, i, hn, h => by
    rw [vfrom_at] at h ⊢
    by_cases hi : l.length ≤ i
    · rw [if_pos (by rw [List.length_append]; omega)]
    rw [if_neg hi] at h
    rw [if_neg (by rw [List.length_append]; omega)]
    by_cases hc : (vlook (s.getD m .zero).fields l i).2.2.2 = 0
    · rw [if_neg (by omega)] at h
      rw [vlook_shift _ p l hc]
      rw [if_neg (by simp)]
      have hv := vval_code (rec := vrec s d) (deep := decide (d = 0)) (fs := (s.getD m .zero).fields) (l := l) (l' := p ++ l) (v := vlook (s.getD m .zero).fields l i) (v' := (Rec.shift p.length (vlook (s.getD m .zero).fields l i).1, (vlook (s.getD m .zero).fields l i).2.1, (vlook (s.getD m .zero).fields l i).2.2.1, 0)) rfl rfl (part_shift p l _ _)
      by_cases hx : (vval (vrec s d) (decide (d = 0)) (s.getD m .zero).fields l (vlook (s.getD m .zero).fields l i)).2 = 0
      · rw [if_neg (by omega)] at h
        rw [hv, if_neg (by omega)]
        have hto := vlook_to _ _ _ hc
        exact vfrom_behind s d m p l n _ (by omega) h
      · rw [if_pos hx] at h; exact absurd h hx
    · rw [if_pos hc] at h; exact absurd h hc
theorem vfrom_ahead (s : List Mes) (d m : Nat) (p l : List UInt8) (hl : (vfrom s d m l 0).2 = 0) : ∀ (n i : Nat), p.length ≤ n + i → i ≤ p.length → (vfrom s d m p i).2 = 0 → (vfrom s d m (p ++ l) i).2 = 0
  | 0, i, hn, hi, _ => by
    obtain rfl : i = p.length := by omega
    have := vfrom_behind s d m p l l.length 0 (by omega) hl
    exact this
  | n + 1, i, hn, hi, h => by
    by_cases hi2 : p.length ≤ i
    · obtain rfl : i = p.length := by omega
      exact vfrom_behind s d m p l l.length 0 (by omega) hl
    rw [vfrom_at] at h ⊢
    rw [if_neg hi2] at h
    rw [if_neg (by rw [List.length_append]; omega)]
    by_cases hc : (vlook (s.getD m .zero).fields p i).2.2.2 = 0
    · rw [if_neg (by omega)] at h
      rw [vlook_app _ l hc]
      rw [if_neg (by omega)]
      have hb := vlook_bds hc
      have hv := vval_code (rec := vrec s d) (deep := decide (d = 0)) (fs := (s.getD m .zero).fields) (l := p) (l' := p ++ l) (v := vlook (s.getD m .zero).fields p i) (v' := vlook (s.getD m .zero).fields p i) rfl rfl (part_app l hb.2 hb.1)
      by_cases hx : (vval (vrec s d) (decide (d = 0)) (s.getD m .zero).fields p (vlook (s.getD m .zero).fields p i)).2 = 0
      · rw [if_neg (by omega)] at h
        rw [hv, if_neg (by omega)]
        have hto := vlook_to _ _ _ hc
        exact vfrom_ahead s d m p l hl n _ (by omega) hto.2 h
      · rw [if_pos hx] at h; exact absurd h hx
    · rw [if_pos hc] at h; exact absurd h hc
theorem vmsg_app {s : List Mes} {d m : Nat} {p l : List UInt8} (hp : (vmsg s d m p).2 = 0) (hl : (vmsg s d m l).2 = 0) : (vmsg s d m (p ++ l)).2 = 0 := by
  rw [vmsg_from] at *
  exact vfrom_ahead s d m p l hl p.length 0 (by omega) (by omega) hp
end Go.Proofs.Ytphkmpnahnakaaa
namespace Go.Proofs.Ytphkmpnahnakaaa
open Go.RowKit
/-- a record: its field's place, whether it is a run, its value, all its bytes -/
structure AR where
  k : Int
  run : Bool
  val : List UInt8
  whole : List UInt8
def arOf (l : List UInt8) (x : VW) : AR := ⟨x.k, x.run, vbytes l x, part l x.r.start x.r.to⟩
def arecs (fs : List Fld) (l : List UInt8) : List AR := (vall fs l).1.map (arOf l)
theorem part_ahead {p : List UInt8} (l : List UInt8) {i j : Nat} (h : j ≤ p.length) : part (p ++ l) i j = part p i j := by
  by_cases hij : i ≤ j
  · exact part_app l h hij
  · unfold part
    rw [show j - i = 0 by omega, List.take_zero, List.take_zero]
theorem vallGo_end (fs : List Fld) (l : List UInt8) (n i : Nat) (h : l.length ≤ i) : vallGo fs l n i = ([], 0, 0) := by
  cases n with
  | zero => rfl
  | succ n => rw [vallGo, if_pos h]
theorem vallGo_next (fs : List Fld) (l : List UInt8) (n i : Nat) (h : ¬ l.length ≤ i) (hc : (vlook fs l i).2.2.2 = 0) : vallGo fs l (n + 1) i =
    if (vallGo fs l n (vlook fs l i).1.to).2.2 ≠ 0 then ([], (vallGo fs l n (vlook fs l i).1.to).2.1, (vallGo fs l n (vlook fs l i).1.to).2.2) else (⟨(vlook fs l i).1, (vlook fs l i).2.1, (vlook fs l i).2.2.1⟩ :: (vallGo fs l n (vlook fs l i).1.to).1, 0, 0) := by
  rw [vallGo, if_neg h, if_neg (by omega)]
theorem vallGo_behind (fs : List Fld) (p l : List UInt8) : ∀ (n i N : Nat), l.length ≤ n + i → l.length ≤ N + i → (vallGo fs l n i).2.2 = 0 →
    (vallGo fs (p ++ l) N (p.length + i)).2.2 = 0 ∧ (vallGo fs (p ++ l) N (p.length + i)).1.map (arOf (p ++ l)) = (vallGo fs l n i).1.map (arOf l)
  | 0, i, N, hn, hN, _ => by
    rw [vallGo_end fs (p ++ l) N _ (by rw [List.length_append]; omega), vallGo_end fs l 0 i (by omega)]
    exact ⟨rfl, rfl⟩
  | n + 1, i, N, hn, hN, h => by
    by_cases hi : l.length ≤ i
    · rw [vallGo_end fs (p ++ l) N _ (by rw [List.length_append]; omega), vallGo_end fs l (n + 1) i hi]
      exact ⟨rfl, rfl⟩
    obtain ⟨N, rfl⟩ : ∃ N', N = N' + 1 := ⟨N - 1, by omega⟩
    by_cases hc : (vlook fs l i).2.2.2 = 0
    · have hs := vlook_shift fs p l hc
      have hto := vlook_to fs l i hc
      rw [vallGo_next fs l n i hi hc] at h ⊢
      rw [vallGo_next fs (p ++ l) N _ (by rw [List.length_append]; omega) (by rw [hs])]
      by_cases h2 : (vallGo fs l n (vlook fs l i).1.to).2.2 = 0
      · obtain ⟨g1, g2⟩ := vallGo_behind fs p l n (vlook fs l i).1.to N (by omega) (by omega) h2
        rw [hs]
        have e : (Rec.shift p.length (vlook fs l i).1).to = p.length + (vlook fs l i).1.to := rfl
        simp only [e]
        rw [if_neg (by omega), if_neg (by omega)]
        refine ⟨rfl, ?_⟩
        simp only [List.map_cons]
        rw [g2]
        congr 1
        unfold arOf vbytes Rec.shift
        simp only
        rw [part_shift, part_shift]
      · rw [if_pos h2] at h; exact absurd h h2
    · rw [vallGo, if_neg hi, if_pos hc] at h
      exact absurd h hc
theorem vallGo_ahead (fs : List Fld) (p l : List UInt8) (hl : (vall fs l).2.2 = 0) : ∀ (n i N : Nat), p.length ≤ n + i → (p ++ l).length ≤ N + i → i ≤ p.length → (vallGo fs p n i).2.2 = 0 →
    (vallGo fs (p ++ l) N i).2.2 = 0 ∧ (vallGo fs (p ++ l) N i).1.map (arOf (p ++ l)) = (vallGo fs p n i).1.map (arOf p) ++ arecs fs l
  | n, i, N, hn, hN, hi, h => by
    by_cases hip : p.length ≤ i
    · obtain rfl : i = p.length := by omega
      rw [vallGo_end fs p n _ (Nat.le_refl _)]
      rw [List.length_append] at hN
      have := vallGo_behind fs p l l.length 0 N (by omega) (by omega) hl
      exact ⟨this.1, this.2⟩
    cases n with
    | zero => omega
    | succ n =>
      obtain ⟨N, rfl⟩ : ∃ N', N = N' + 1 := ⟨N - 1, by rw [List.length_append] at hN; omega⟩
      by_cases hc : (vlook fs p i).2.2.2 = 0
      · have hs := vlook_app fs l hc
        have hto := vlook_to fs p i hc
        have hb := vlook_bds hc
        rw [vallGo_next fs p n i hip hc] at h ⊢
        rw [vallGo_next fs (p ++ l) N i (by rw [List.length_append]; omega) (by rw [hs]; exact hc)]
        by_cases h2 : (vallGo fs p n (vlook fs p i).1.to).2.2 = 0
        · obtain ⟨g1, g2⟩ := vallGo_ahead fs p l hl n (vlook fs p i).1.to N (by omega) (by omega) hto.2 h2
          rw [hs, if_neg (by omega), if_neg (by omega)]
          refine ⟨rfl, ?_⟩
          simp only [List.map_cons, List.cons_append]
          rw [g2]
          congr 1
          unfold arOf vbytes
          simp only
          rw [part_ahead l hb.2, part_ahead l hb.2]
        · rw [if_pos h2] at h; exact absurd h h2
      · rw [vallGo, if_neg hip, if_pos hc] at h
        exact absurd h hc
/-- of bytes behind bytes -/
theorem arecs_app {fs : List Fld} {p l : List UInt8} (hp : (vall fs p).2.2 = 0) (hl : (vall fs l).2.2 = 0) : (vall fs (p ++ l)).2.2 = 0 ∧ arecs fs (p ++ l) = arecs fs p ++ arecs fs l := by
  have := vallGo_ahead fs p l hl p.length 0 (p ++ l).length (by omega) (by omega) (by omega) hp
  exact this
end Go.Proofs.Ytphkmpnahnakaaa
namespace Go.Proofs.Ytphkmpnahnakaaa
open Go.RowKit
end Go.Proofs.Ytphkmpnahnakaaa
