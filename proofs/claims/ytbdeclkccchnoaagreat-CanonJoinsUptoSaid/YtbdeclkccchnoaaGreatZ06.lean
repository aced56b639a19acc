/- The first place where a message's bytes are not right: plain functions; and what a right schema says of its fields. -/
import Derived.Test.YtbdeclkccchnoaaGreatZ05
namespace Go.Proofs.YtbdeclkccchnoaaGreat
open Go.RowKit
/-! A right schema -/
theorem fieldFault_of {n : Nat} {nm nu : Bool} {f : Fld} (h : fieldFault n nm nu f = 0) : kright f.kind = true ∧ (f.kind = 17 → 0 ≤ f.of ∧ f.of < n) ∧ (f.kind ≠ 17 → f.of = 0) ∧ (f.packed = true → f.rep = true ∧ knumber f.kind = true) := by
  obtain ⟨h1, rfl, h2, rfl⟩ := fieldFault_ok h
  unfold fieldFault at h
  rw [if_neg (by simp [h1]), if_neg (by decide), if_neg (by simp [h2]), if_neg (by decide)] at h
  by_cases h3 : kright f.kind = false
  · rw [if_pos h3] at h; omega
  rw [if_neg h3] at h
  by_cases h4 : f.packed = true ∧ (f.rep = false ∨ knumber f.kind = false)
  · rw [if_pos h4] at h; omega
  rw [if_neg h4] at h
  by_cases h5 : f.kind = 17 ∧ (f.of < 0 ∨ (n : Int) ≤ f.of) ∨ f.kind ≠ 17 ∧ f.of ≠ 0
  · rw [if_pos h5] at h; omega
  refine ⟨by simpa using h3, fun e => ?_, fun e => ?_, fun e => ?_⟩
  · constructor
    · exact Int.not_lt.1 fun hh => h5 (.inl ⟨e, .inl hh⟩)
    · exact Int.not_le.1 fun hh => h5 (.inl ⟨e, .inr hh⟩)
  · exact Decidable.byContradiction fun hh => h5 (.inr ⟨e, hh⟩)
  · constructor
    · cases hr : f.rep with
      | true => rfl
      | false => exact absurd ⟨e, .inl hr⟩ h4
    · cases hr : knumber f.kind with
      | true => rfl
      | false => exact absurd ⟨e, .inr hr⟩ h4
theorem fieldsFault_none {n : Nat} : ∀ (fs bf : List Fld) (k : Nat), fieldsFault n bf fs k = none → ∀ f ∈ fs, ∃ nm nu, fieldFault n nm nu f = 0
  | [], _, _, _ => by simp
  | g :: r, bf, k, h => by
    rw [fieldsFault] at h
    by_cases h0 : fieldFault n (nameMet bf g.name) (numMet bf g.number) g = 0
    · rw [if_pos h0] at h
      intro f hf
      rcases List.mem_cons.1 hf with rfl | hf
      · exact ⟨_, _, h0⟩
      · exact fieldsFault_none r _ _ h f hf
    · rw [if_neg h0] at h; cases h
theorem scheckGo_ok {n : Nat} : ∀ (s bm : List Mes) (i : Nat), (scheckGo n bm s i).2.2 = 0 → ∀ m ∈ s, fieldsFault n [] m.fields 0 = none ∧ m.fields.length ≤ 200 ∧ nameOk m.name = true
  | [], _, _, _ => by simp
  | g :: r, bm, i, h => by
    rw [scheckGo] at h
    by_cases h1 : nameOk g.name = false
    · rw [if_pos h1] at h; simp at h
    rw [if_neg h1] at h
    by_cases h2 : mesMet bm g.name = true
    · rw [if_pos h2] at h; simp at h
    rw [if_neg h2] at h
    by_cases h3 : 200 < g.fields.length
    · rw [if_pos h3] at h; simp at h
    rw [if_neg h3] at h
    cases h4 : fieldsFault n [] g.fields 0 with
    | some p =>
      rw [h4] at h
      obtain ⟨k, x⟩ := p
      have : x ≠ 0 := by
        rintro rfl
        exact fieldsFault_nz _ _ _ h4
      simp at h
      exact absurd h this
    | none =>
      rw [h4] at h
      intro m hm
      rcases List.mem_cons.1 hm with rfl | hm
      · exact ⟨h4, by omega, by simpa using h1⟩
      · exact scheckGo_ok r _ _ h m hm
where
  fieldsFault_nz {n : Nat} : ∀ (fs bf : List Fld) (k : Nat) {j : Nat}, fieldsFault n bf fs k ≠ some (j, 0)
  | [], _, _, _ => by simp [fieldsFault]
  | g :: r, bf, k, j => by
    rw [fieldsFault]
    by_cases h0 : fieldFault n (nameMet bf g.name) (numMet bf g.number) g = 0
    · rw [if_pos h0]; exact fieldsFault_nz r _ _
    · rw [if_neg h0]
      intro h
      injection h with h
      exact h0 (congrArg Prod.snd h)
theorem sright_field {s : List Mes} (h : sright s = true) (m : Nat) (hm : m < s.length) (f : Fld) (hf : f ∈ (s.getD m .zero).fields) :
    kright f.kind = true ∧ (f.kind = 17 → 0 ≤ f.of ∧ f.of < s.length) ∧ (f.kind ≠ 17 → f.of = 0) ∧ (f.packed = true → f.rep = true ∧ knumber f.kind = true) := by
  have h0 : (scheck s).2.2 = 0 := of_decide_eq_true h
  unfold scheck at h0
  by_cases h1 : s.length = 0 ∨ 100 < s.length
  · rw [if_pos h1] at h0; simp at h0
  rw [if_neg h1] at h0
  have hmem : s.getD m .zero ∈ s := by
    have : s.getD m .zero = s[m] := by simp [List.getD, hm]
    rw [this]; exact List.getElem_mem hm
  obtain ⟨h2, -, -⟩ := scheckGo_ok s [] 0 h0 _ hmem
  obtain ⟨nm, nu, h3⟩ := fieldsFault_none _ _ _ h2 f hf
  exact fieldFault_of h3
theorem sright_len {s : List Mes} (h : sright s = true) : 0 < s.length ∧ s.length ≤ 100 := by
  have h0 : (scheck s).2.2 = 0 := of_decide_eq_true h
  unfold scheck at h0
  by_cases h1 : s.length = 0 ∨ 100 < s.length
  · rw [if_pos h1] at h0; simp at h0
  omega
/-! A record, looked at -/
theorem fieldAt_cases (fs : List Fld) (n : Int) : fieldAt fs n = -1 ∨ ∃ k : Nat, k < fs.length ∧ fieldAt fs n = k ∧ (fs.getD k .zero).number = n := by
  have gen : ∀ (l : List Fld) (i : Nat), firstAt (fun f => decide (f.number = n)) l i = -1 ∨ ∃ k : Nat, k < l.length ∧ firstAt (fun f => decide (f.number = n)) l i = ((i + k : Nat) : Int) ∧ (l.getD k .zero).number = n := by
    intro l
    induction l with
    | nil => intro i; exact .inl rfl
    | cons f r ih =>
      intro i
      rw [firstAt]
      by_cases h : f.number = n
      · exact .inr ⟨0, by simp, by simp [h], by simpa using h⟩
      · rw [if_neg (by simpa using h)]
        rcases ih (i + 1) with h1 | ⟨k, h1, h2, h3⟩
        · exact .inl h1
        · exact .inr ⟨k + 1, by simpa using h1, by rw [h2]; congr 1; omega, by simpa using h3⟩
  rcases gen fs 0 with h | ⟨k, h1, h2, h3⟩
  · exact .inl h
  · exact .inr ⟨k, h1, by unfold fieldAt; rw [h2, Nat.zero_add], h3⟩
theorem vlook_cases (fs : List Fld) (l : List UInt8) (i : Nat) :
    (∃ c, c ≠ 0 ∧ vlook fs l i = (.none, 0, false, c) ∧ c < 256) ∨
    (∃ r : Rec, r.start = i ∧ i < r.at' ∧ r.at' ≤ r.to ∧ r.to ≤ l.length ∧ rnext l i = (r, 0) ∧
      (vlook fs l i = (r, -1, false, 0) ∨
      ∃ (k : Nat) (run : Bool), k < fs.length ∧ vlook fs l i = (r, (k : Int), run, 0) ∧ (fs.getD k .zero).number = r.number ∧
        (run = true → (fs.getD k .zero).rep = true ∧ knumber (fs.getD k .zero).kind = true ∧ r.wire = 2) ∧ (run = false → kright (fs.getD k .zero).kind = true ∧ kwire (fs.getD k .zero).kind = r.wire))) := by
  have hn : ∀ c, rnext l i = (.none, c) → c ≠ 0 → c < 256 → vlook fs l i = (.none, 0, false, c) := fun c h1 h2 _ => by
    unfold vlook
    rw [h1]
    simp [h2]
  rcases rnext_cases l i with ⟨hi, er⟩ | ⟨hi, c, et, hc, er⟩ | ⟨hi, k, x, n, et, h1, h2, h3, h4, h5, h6, hcs⟩
  · exact .inl ⟨2, by decide, hn _ er (by decide) (by decide), by decide⟩
  · exact .inl ⟨c, by omega, hn _ er (by omega) (by omega), by omega⟩
  · rcases hcs with ⟨a, m, c, es, hc, -, -, er⟩ | ⟨a, m, es, -, -, -, -, er⟩ | ⟨a, m, es, g1, g2, g3, er⟩
    · exact .inl ⟨c, by omega, hn _ er (by omega) (by omega), by omega⟩
    · exact .inl ⟨3, by decide, hn _ er (by decide) (by decide), by decide⟩
    · have hv : vlook fs l i = if fieldAt fs k < 0 then (⟨k, x, i, i + n + a, i + n + a + m⟩, -1, false, 0) else
          if ((fs.getD (fieldAt fs k).toNat .zero).rep && knumber (fs.getD (fieldAt fs k).toNat .zero).kind && decide (x = 2)) = true then (⟨k, x, i, i + n + a, i + n + a + m⟩, fieldAt fs k, true, 0) else
          if kright (fs.getD (fieldAt fs k).toNat .zero).kind = false ∨ kwire (fs.getD (fieldAt fs k).toNat .zero).kind ≠ x then (.none, 0, false, 6) else (⟨k, x, i, i + n + a, i + n + a + m⟩, fieldAt fs k, false, 0) := by
        unfold vlook
        rw [er]
        rfl
      rcases fieldAt_cases fs k with hf | ⟨j, hj, hf, hjn⟩
      · rw [hf, if_pos (by decide)] at hv
        exact .inr ⟨_, rfl, by simp; omega, by simp, by simp; omega, er, .inl hv⟩
      · rw [hf, if_neg (by omega)] at hv
        simp only [Int.toNat_natCast] at hv
        by_cases hrun : ((fs.getD j .zero).rep && knumber (fs.getD j .zero).kind && decide (x = 2)) = true
        · rw [if_pos hrun] at hv
          simp only [Bool.and_eq_true, decide_eq_true_eq] at hrun
          exact .inr ⟨_, rfl, by simp; omega, by simp, by simp; omega, er, .inr ⟨j, true, hj, hv, hjn, fun _ => ⟨hrun.1.1, hrun.1.2, hrun.2⟩, fun h => (by cases h)⟩⟩
        · rw [if_neg hrun] at hv
          by_cases hbad : kright (fs.getD j .zero).kind = false ∨ kwire (fs.getD j .zero).kind ≠ x
          · rw [if_pos hbad] at hv
            exact .inl ⟨6, by decide, hv, by decide⟩
          · rw [if_neg hbad] at hv
            have g4 : kright (fs.getD j .zero).kind = true := by
              cases h : kright (fs.getD j .zero).kind with
              | true => rfl
              | false => exact absurd (.inl h) hbad
            have g5 : kwire (fs.getD j .zero).kind = x := Decidable.byContradiction fun h => hbad (.inr h)
            exact .inr ⟨_, rfl, by simp; omega, by simp, by simp; omega, er, .inr ⟨j, false, hj, hv, hjn, fun h => (by cases h), fun _ => ⟨g4, g5⟩⟩⟩
/-! The first that is not right -/
def part (l : List UInt8) (i j : Nat) : List UInt8 := (l.drop i).take (j - i)
def vval (rec : Nat → List UInt8 → Nat × Nat) (deep : Bool) (fs : List Fld) (l : List UInt8) (v : Rec × Int × Bool × Nat) : Nat × Nat :=
  if v.2.1 < 0 then (0, 0) else
  let f := fs.getD v.2.1.toNat .zero
  if v.2.2.1 = true then (v.1.start, (runCount (kwire f.kind) (part l v.1.at' v.1.to)).2) else
  if f.kind = 15 then (if ufirst (part l v.1.at' v.1.to) = (part l v.1.at' v.1.to).length then (0, 0) else (v.1.start, 7)) else
  if f.kind = 17 then (if deep = true then (v.1.start, 8) else (v.1.at' + (rec f.of.toNat (part l v.1.at' v.1.to)).1, (rec f.of.toNat (part l v.1.at' v.1.to)).2)) else
  (0, 0)
def vloop (rec : Nat → List UInt8 → Nat × Nat) (deep : Bool) (fs : List Fld) (l : List UInt8) : Nat → Nat → Nat × Nat
  | 0, _ => (0, 0)
  | k + 1, i => if l.length ≤ i then (0, 0) else
    if (vlook fs l i).2.2.2 ≠ 0 then (i, (vlook fs l i).2.2.2) else
    if (vval rec deep fs l (vlook fs l i)).2 ≠ 0 then vval rec deep fs l (vlook fs l i) else vloop rec deep fs l k (vlook fs l i).1.to
def vmsg (s : List Mes) : Nat → Nat → List UInt8 → Nat × Nat
  | 0, m, l => vloop (fun _ _ => (0, 0)) true (s.getD m .zero).fields l l.length 0
  | d + 1, m, l => vloop (vmsg s d) false (s.getD m .zero).fields l l.length 0
def vrec (s : List Mes) : Nat → Nat → List UInt8 → Nat × Nat
  | 0 => fun _ _ => (0, 0)
  | d + 1 => vmsg s d
def vfrom (s : List Mes) (d m : Nat) (l : List UInt8) (i : Nat) : Nat × Nat := vloop (vrec s d) (decide (d = 0)) (s.getD m .zero).fields l l.length i
theorem vmsg_from (s : List Mes) (d m : Nat) (l : List UInt8) : vmsg s d m l = vfrom s d m l 0 := by cases d <;> rfl
theorem vlook_to (fs : List Fld) (l : List UInt8) (i : Nat) (h : (vlook fs l i).2.2.2 = 0) : i < (vlook fs l i).1.to ∧ (vlook fs l i).1.to ≤ l.length := by
  rcases vlook_cases fs l i with ⟨c, hc, e, -⟩ | ⟨r, h1, h2, h3, h4, -, e | ⟨k, run, -, e, -⟩⟩
  · rw [e] at h; exact absurd h hc
  · rw [e]; exact ⟨by show i < r.to; omega, h4⟩
  · rw [e]; exact ⟨by show i < r.to; omega, h4⟩
theorem vloop_fuel (rec : Nat → List UInt8 → Nat × Nat) (deep : Bool) (fs : List Fld) (l : List UInt8) : ∀ (k m i : Nat), l.length ≤ k + i → l.length ≤ m + i → vloop rec deep fs l k i = vloop rec deep fs l m i
  | 0, 0, _, _, _ => rfl
  | 0, m + 1, i, h, _ => by rw [vloop, vloop, if_pos (by omega)]
  | k + 1, 0, i, _, h => by rw [vloop, vloop, if_pos (by omega)]
  | k + 1, m + 1, i, h1, h2 => by
    rw [vloop, vloop]
    by_cases hi : l.length ≤ i
    · rw [if_pos hi, if_pos hi]
    rw [if_neg hi, if_neg hi]
    by_cases hc : (vlook fs l i).2.2.2 = 0
    · obtain ⟨g1, g2⟩ := vlook_to fs l i hc
      rw [vloop_fuel rec deep fs l k m (vlook fs l i).1.to (by omega) (by omega)]
    · rw [if_pos hc, if_pos hc]
theorem vfrom_at (s : List Mes) (d m : Nat) (l : List UInt8) (i : Nat) : vfrom s d m l i =
    if l.length ≤ i then (0, 0) else
    if (vlook (s.getD m .zero).fields l i).2.2.2 ≠ 0 then (i, (vlook (s.getD m .zero).fields l i).2.2.2) else
    if (vval (vrec s d) (decide (d = 0)) (s.getD m .zero).fields l (vlook (s.getD m .zero).fields l i)).2 ≠ 0 then vval (vrec s d) (decide (d = 0)) (s.getD m .zero).fields l (vlook (s.getD m .zero).fields l i) else
    vfrom s d m l (vlook (s.getD m .zero).fields l i).1.to := by
  unfold vfrom
  by_cases hi : l.length ≤ i
  · rw [if_pos hi]
    cases hl : l.length with
    | zero => rfl
    | succ k => rw [vloop, if_pos hi]
  · rw [if_neg hi]
    obtain ⟨k, hk⟩ : ∃ k, l.length = k + 1 := ⟨l.length - 1, by omega⟩
    conv => lhs; rw [hk, vloop, if_neg hi]
    by_cases hc : (vlook (s.getD m .zero).fields l i).2.2.2 = 0
    · obtain ⟨g1, g2⟩ := vlook_to (s.getD m .zero).fields l i hc
      rw [vloop_fuel _ _ _ l k l.length _ (by omega) (by omega)]
    · rw [if_pos hc, if_pos hc]
theorem part_len (l : List UInt8) (i j : Nat) (hij : i ≤ j) (hj : j ≤ l.length) : (part l i j).length = j - i := by
  unfold part; rw [List.length_take, List.length_drop]; omega
end Go.Proofs.YtbdeclkccchnoaaGreat
