/- What run.size returns: runSize. No condition beyond that the bytes read as data. The values of a run: how many, or the code of the first that is not there. Plain lists, no program in sight. Plain law: which bytes begin with a code point, and how many they are, told in two ways (by the head's bits; by each length's code point's own bytes). No program in sight. No condition. The first place where a message's bytes are not right: plain functions; and what a right schema says of its fields. -/
import Derived.Test.YtpckoeicbjfnhaaGreatDoorZ07
import Init
namespace Go.Proofs.YtpckoeicbjfnhaaGreatDoor
open Go.RowKit
/-- length of the first value of a run and the code -/
def runSize (wire : Nat) (l : List UInt8) : Nat × Nat :=
  if wire = 0 then ((vread l).2.1, (vread l).2.2) else
  if l.length < (if wire = 1 then 8 else 4) then (0, 3) else (if wire = 1 then 8 else 4, 0)
set_option maxRecDepth 100000 in
set_option maxHeartbeats 2000000 in
theorem run_size {w : World} {v : Value} {l : List UInt8} (h : Bytes w v l) (wire : Nat) :
    Calls Tryz.prog 240 #[.int .i64 wire, v] w fun e w' => e = .returned (.tuple #[.int .i64 (runSize wire l).1, .int .u8 (runSize wire l).2]) ∧ w = w' := by
  obtain ⟨hlen, a, cap, rfl, -, -, -, hcell⟩ := h.open
  obtain ⟨n, HN⟩ : ∃ n, Hid (n = l.length) := ⟨_, rfl⟩
  obtain ⟨x, HX⟩ : ∃ x, Hid (x = runSize wire l) := ⟨_, rfl⟩
  rw [← HX.out]
  unfold runSize at HX
  rw [← HN.out] at HX hlen hcell h ⊢
  clear hcell
  by_cases h0 : wire = 0
  · subst h0
    obtain rfl : x = ((vread l).2.1, (vread l).2.2) := by rw [HX.out, if_pos rfl]
    go_enter Tryz.func240, Tryz.ntmps240
    go_wp2_with (go_at_call 221; refine (varint_Skip h).mono ?_; rintro e w' ⟨rfl, rfl⟩)
    go_ret2
    exact ⟨rfl, rfl⟩
  · by_cases h1 : wire = 1
    · subst h1
      by_cases hs : n < 8
      · obtain rfl : x = (0, 3) := by rw [HX.out, if_neg (by decide), if_pos (by simpa using hs)]
        go_enter Tryz.func240, Tryz.ntmps240
        go_wp2
        go_ret2
        exact ⟨rfl, rfl⟩
      · obtain rfl : x = (8, 0) := by rw [HX.out, if_neg (by decide), if_neg (by simpa using hs)]; rfl
        go_enter Tryz.func240, Tryz.ntmps240
        go_wp2
        go_ret2
        exact ⟨rfl, rfl⟩
    · have e0 : ((wire : Int) == 0) = false := by simp; omega
      have e1 : ((wire : Int) == 1) = false := by simp; omega
      have HI1 := hid h1
      have HI0 := hid h0
      clear h0 h1
      by_cases hs : n < 4
      · obtain rfl : x = (0, 3) := by rw [HX.out, if_neg HI0.out, if_pos (by rw [if_neg HI1.out]; exact hs)]
        go_enter Tryz.func240, Tryz.ntmps240
        go_wp2
        go_ret2
        exact ⟨rfl, rfl⟩
      · obtain rfl : x = (4, 0) := by rw [HX.out, if_neg HI0.out, if_neg (by rw [if_neg HI1.out]; exact hs), if_neg HI1.out]
        go_enter Tryz.func240, Tryz.ntmps240
        go_wp2
        go_ret2
        exact ⟨rfl, rfl⟩
end Go.Proofs.YtpckoeicbjfnhaaGreatDoor
namespace Go.Proofs.YtpckoeicbjfnhaaGreatDoor
open Go.RowKit
theorem runSize_cases (wire : Nat) (l : List UInt8) : (∃ n, runSize wire l = (n, 0) ∧ 0 < n ∧ n ≤ 10 ∧ n ≤ l.length) ∨ (∃ c, runSize wire l = (0, c) ∧ (c = 3 ∨ c = 4)) := by
  unfold runSize
  by_cases h0 : wire = 0
  · rw [if_pos h0]
    rcases vread_cases l with ⟨x, n, e, h1, h2, h3, -⟩ | ⟨c, e, hc⟩
    · exact .inl ⟨n, by rw [e], h1, h2, h3⟩
    · exact .inr ⟨c, by rw [e], hc⟩
  · rw [if_neg h0]
    by_cases h1 : l.length < (if wire = 1 then 8 else 4)
    · rw [if_pos h1]; exact .inr ⟨3, rfl, .inl rfl⟩
    · rw [if_neg h1]
      refine .inl ⟨_, rfl, ?_, ?_, by omega⟩ <;> split <;> omega
def runGo (wire : Nat) : Nat → List UInt8 → Nat × Nat
  | 0, _ => (0, 0)
  | k + 1, l => if l = [] then (0, 0) else
      if (runSize wire l).2 ≠ 0 then (0, (runSize wire l).2) else
      if (runGo wire k (l.drop (runSize wire l).1)).2 ≠ 0 then (0, (runGo wire k (l.drop (runSize wire l).1)).2) else
      ((runGo wire k (l.drop (runSize wire l).1)).1 + 1, 0)
/-- how many, the code -/
def runCount (wire : Nat) (l : List UInt8) : Nat × Nat := runGo wire l.length l
theorem runGo_fuel (wire : Nat) : ∀ (k m : Nat) (l : List UInt8), l.length ≤ k → l.length ≤ m → runGo wire k l = runGo wire m l
  | 0, 0, _, _, _ => rfl
  | 0, m + 1, l, h, _ => by
    have : l = [] := List.length_eq_zero_iff.1 (by omega)
    subst this
    simp [runGo]
  | k + 1, 0, l, _, h => by
    have : l = [] := List.length_eq_zero_iff.1 (by omega)
    subst this
    simp [runGo]
  | k + 1, m + 1, l, h1, h2 => by
    by_cases hl : l = []
    · simp [runGo, hl]
    · rcases runSize_cases wire l with ⟨n, e, h3, -, h4⟩ | ⟨c, e, hc⟩
      · have := runGo_fuel wire k m (l.drop n) (by simp; omega) (by simp; omega)
        simp only [runGo, e, this]
      · have hc' : c ≠ 0 := by omega
        simp only [runGo, e, if_neg hl, if_pos hc']
theorem runCount_bad (wire : Nat) (l : List UInt8) (hl : l ≠ []) (c : Nat) (hc : c ≠ 0) (e : (runSize wire l).2 = c) : runCount wire l = (0, c) := by
  obtain ⟨k, hk⟩ : ∃ k, l.length = k + 1 := ⟨l.length - 1, by have := List.length_pos_iff.2 hl; omega⟩
  unfold runCount
  rw [hk]
  simp only [runGo, if_neg hl, e, if_pos hc]
theorem runCount_step (wire : Nat) (l : List UInt8) (hl : l ≠ []) (n : Nat) (e : runSize wire l = (n, 0)) :
    runCount wire l = if (runCount wire (l.drop n)).2 ≠ 0 then (0, (runCount wire (l.drop n)).2) else ((runCount wire (l.drop n)).1 + 1, 0) := by
  obtain ⟨k, hk⟩ : ∃ k, l.length = k + 1 := ⟨l.length - 1, by have := List.length_pos_iff.2 hl; omega⟩
  have hn : 0 < n := by
    rcases runSize_cases wire l with ⟨n', e', h3, -, h4⟩ | ⟨c, e', hc⟩
    · rw [e] at e'; cases e'; exact h3
    · rw [e] at e'; cases e'; omega
  have hf := runGo_fuel wire k (l.drop n).length (l.drop n) (by simp; omega) (Nat.le_refl _)
  unfold runCount
  rw [hk]
  simp only [runGo, if_neg hl, e, hf]
  simp
/-! the values themselves -/
def rpiecesGo (wire : Nat) : Nat → List UInt8 → List (List UInt8)
  | 0, _ => []
  | k + 1, l => if l = [] then [] else if (runSize wire l).2 ≠ 0 then [] else l.take (runSize wire l).1 :: rpiecesGo wire k (l.drop (runSize wire l).1)
/-- the values of a run, up to the first that is not there -/
def rpieces (wire : Nat) (l : List UInt8) : List (List UInt8) := rpiecesGo wire l.length l
theorem rpiecesGo_fuel (wire : Nat) : ∀ (k m : Nat) (l : List UInt8), l.length ≤ k → l.length ≤ m → rpiecesGo wire k l = rpiecesGo wire m l
  | 0, 0, _, _, _ => rfl
  | 0, m + 1, l, h, _ => by
    have : l = [] := List.length_eq_zero_iff.1 (by omega)
    subst this
    simp [rpiecesGo]
  | k + 1, 0, l, _, h => by
    have : l = [] := List.length_eq_zero_iff.1 (by omega)
    subst this
    simp [rpiecesGo]
  | k + 1, m + 1, l, h1, h2 => by
    by_cases hl : l = []
    · simp [rpiecesGo, hl]
    · rcases runSize_cases wire l with ⟨n, e, h3, -, h4⟩ | ⟨c, e, hc⟩
      · have := rpiecesGo_fuel wire k m (l.drop n) (by simp; omega) (by simp; omega)
        simp only [rpiecesGo, e, this]
      · have hc' : c ≠ 0 := by omega
        simp only [rpiecesGo, e, if_neg hl, if_pos hc']
theorem rpieces_nil (wire : Nat) : rpieces wire [] = [] := rfl
theorem rpieces_bad (wire : Nat) (l : List UInt8) (c : Nat) (hc : c ≠ 0) (e : (runSize wire l).2 = c) : rpieces wire l = [] := by
  unfold rpieces
  cases hk : l.length with
  | zero => rfl
  | succ k =>
    have hl : l ≠ [] := by rintro rfl; simp at hk
    simp only [rpiecesGo, if_neg hl, e, if_pos hc]
theorem rpieces_step (wire : Nat) (l : List UInt8) (hl : l ≠ []) (n : Nat) (e : runSize wire l = (n, 0)) : rpieces wire l = l.take n :: rpieces wire (l.drop n) := by
  obtain ⟨k, hk⟩ : ∃ k, l.length = k + 1 := ⟨l.length - 1, by have := List.length_pos_iff.2 hl; omega⟩
  have hn : 0 < n := by
    rcases runSize_cases wire l with ⟨n', e', h3, -, h4⟩ | ⟨c, e', hc⟩
    · rw [e] at e'; cases e'; exact h3
    · rw [e] at e'; cases e'; omega
  have hf := rpiecesGo_fuel wire k (l.drop n).length (l.drop n) (by simp; omega) (Nat.le_refl _)
  unfold rpieces
  rw [hk]
  simp only [rpiecesGo, if_neg hl, e, hf]
  simp
theorem rpieces_len (wire : Nat) : ∀ (m : Nat) (l : List UInt8), l.length ≤ m → (rpieces wire l).length ≤ l.length
  | 0, l, h => by
    obtain rfl : l = [] := List.length_eq_zero_iff.1 (by omega)
    exact Nat.le_refl _
  | m + 1, l, h => by
    by_cases hl : l = []
    · subst hl; exact Nat.le_refl _
    rcases runSize_cases wire l with ⟨n, e, h3, -, h4⟩ | ⟨c, e, hc⟩
    · have ih := rpieces_len wire m (l.drop n) (by simp; omega)
      rw [rpieces_step wire l hl n e]
      simp at ih ⊢; omega
    · rw [rpieces_bad wire l c (by omega) (by rw [e])]; simp
theorem runCount_len (wire : Nat) : ∀ (m : Nat) (l : List UInt8), l.length ≤ m → (runCount wire l).1 = if (runCount wire l).2 = 0 then (rpieces wire l).length else 0
  | 0, l, h => by
    obtain rfl : l = [] := List.length_eq_zero_iff.1 (by omega)
    rfl
  | m + 1, l, h => by
    by_cases hl : l = []
    · subst hl; rfl
    rcases runSize_cases wire l with ⟨n, e, h3, -, h4⟩ | ⟨c, e, hc⟩
    · have ih := runCount_len wire m (l.drop n) (by simp; omega)
      rw [runCount_step wire l hl n e, rpieces_step wire l hl n e]
      by_cases h0 : (runCount wire (l.drop n)).2 = 0
      · simp only [h0, ne_eq, not_true_eq_false, if_false, if_true, List.length_cons] at ih ⊢
        rw [ih]
      · simp [h0]
    · rw [runCount_bad wire l hl c (by omega) (by rw [e]), if_neg (show (0, c).2 ≠ 0 by show c ≠ 0; omega)]
end Go.Proofs.YtpckoeicbjfnhaaGreatDoor
namespace Go.Proofs.YtpckoeicbjfnhaaGreatDoor
def uhead (c : Nat) : Nat × Nat :=
  if c < 128 then (1, c) else if 192 ≤ c ∧ c < 224 then (2, c % 32) else if 224 ≤ c ∧ c < 240 then (3, c % 16) else if 240 ≤ c ∧ c < 248 then (4, c % 8) else (0, 0)
def uleast (n : Nat) : Nat := if n ≤ 1 then 0 else if n = 2 then 128 else if n = 3 then 2048 else 65536
def ucont : Nat → Nat → List UInt8 → Option Nat
  | 0, r, _ => some r
  | _ + 1, _, [] => none
  | k + 1, r, c :: t => if 128 ≤ c.toNat ∧ c.toNat < 192 then ucont k (r * 64 + c.toNat % 64) t else none
def ubad (n r : Nat) : Bool := decide (r < uleast n ∨ 1114111 < r ∨ 55296 ≤ r ∧ r ≤ 57343)
/-- how many bytes the first code point has; 0: there is none -/
def unext (l : List UInt8) : Nat :=
  match l with
  | [] => 0
  | c :: t =>
    if (uhead c.toNat).1 = 0 ∨ l.length < (uhead c.toNat).1 then 0 else
    match ucont ((uhead c.toNat).1 - 1) (uhead c.toNat).2 t with
    | none => 0
    | some r => if ubad (uhead c.toNat).1 r then 0 else (uhead c.toNat).1
theorem uhead_le (c : Nat) : (uhead c).1 ≤ 4 := by
  unfold uhead
  repeat' split
  all_goals simp
theorem unext_le (l : List UInt8) : unext l ≤ l.length ∧ unext l ≤ 4 := by
  unfold unext
  split
  · exact ⟨Nat.le_refl _, by omega⟩
  · rename_i c t
    have := uhead_le c.toNat
    split
    · exact ⟨Nat.zero_le _, by omega⟩
    · split
      · exact ⟨Nat.zero_le _, by omega⟩
      · split
        · exact ⟨Nat.zero_le _, by omega⟩
        · exact ⟨by omega, this⟩
/-- how many bytes stand ahead of the first that is not right -/
def ugo : Nat → List UInt8 → Nat
  | 0, _ => 0
  | f + 1, l => if unext l = 0 then 0 else unext l + ugo f (l.drop (unext l))
def ufirst (l : List UInt8) : Nat := ugo l.length l
theorem ugo_more : ∀ (f g : Nat) (l : List UInt8), l.length ≤ f → f ≤ g → ugo g l = ugo f l
  | 0, g, l, h, _ => by
    obtain rfl : l = [] := List.eq_nil_of_length_eq_zero (by omega)
    cases g <;> simp [ugo, unext]
  | f + 1, 0, l, _, h => by omega
  | f + 1, g + 1, l, h, hg => by
    simp only [ugo]
    split
    · rfl
    · rw [ugo_more f g _ (by rw [List.length_drop]; omega) (by omega)]
theorem ufirst_step (l : List UInt8) : ufirst l = if unext l = 0 then 0 else unext l + ufirst (l.drop (unext l)) := by
  unfold ufirst
  cases h : l.length with
  | zero =>
    obtain rfl : l = [] := List.eq_nil_of_length_eq_zero h
    simp [ugo, unext]
  | succ f =>
    simp only [ugo]
    split
    · rfl
    · rename_i hne
      have := unext_le l
      rw [ugo_more (l.drop (unext l)).length f _ (Nat.le_refl _) (by rw [List.length_drop]; omega)]
theorem uhead_cases (c : Nat) : (c < 128 ∧ uhead c = (1, c)) ∨ (192 ≤ c ∧ c < 224 ∧ uhead c = (2, c % 32)) ∨ (224 ≤ c ∧ c < 240 ∧ uhead c = (3, c % 16)) ∨ (240 ≤ c ∧ c < 248 ∧ uhead c = (4, c % 8)) ∨
    ((128 ≤ c ∧ c < 192 ∨ 248 ≤ c) ∧ uhead c = (0, 0)) := by
  unfold uhead
  by_cases h1 : c < 128
  · exact .inl ⟨h1, if_pos h1⟩
  · rw [if_neg h1]
    by_cases h2 : 192 ≤ c ∧ c < 224
    · exact .inr (.inl ⟨h2.1, h2.2, if_pos h2⟩)
    · rw [if_neg h2]
      by_cases h3 : 224 ≤ c ∧ c < 240
      · exact .inr (.inr (.inl ⟨h3.1, h3.2, if_pos h3⟩))
      · rw [if_neg h3]
        by_cases h4 : 240 ≤ c ∧ c < 248
        · exact .inr (.inr (.inr (.inl ⟨h4.1, h4.2, if_pos h4⟩)))
        · exact .inr (.inr (.inr (.inr ⟨by omega, if_neg h4⟩)))
end Go.Proofs.YtpckoeicbjfnhaaGreatDoor
namespace Go.Proofs.YtpckoeicbjfnhaaGreatDoor
open Go.RowKit
/-! A right schema -/
theorem fieldFault_of {n : Nat} {nm nu : Bool} {f : Fld} (h : fieldFault n nm nu f = 0) : kright f.kind = true ∧ (f.kind = 17 → 0 ≤ f.of ∧ f.of < n) ∧ (f.kind ≠ 17 → f.of = 0) ∧ (f.packed = true → f.rep = true ∧ knumber f.kind = true) := by
  obtain ⟨h1, rfl, h2, rfl⟩ := fieldFault_ok h
  unfold fieldFault at h
  rw [if_neg (by simp [h1]), if_neg (by decide), if_neg (by simp [h2]), if_neg (by decide)] at h
  by_cases h3 : kright f.kind = false
  · rw [if_pos h3] at h; omega
  rw [if_neg h3] at h
  by_cases h4 : f.packed = true ∧ (f.rep = false ∨ knumber f.kind = false)
  · rw [if_pos h4] at h; omega
  rw [if_neg h4] at h
  by_cases h5 : f.kind = 17 ∧ (f.of < 0 ∨ (n : Int) ≤ f.of) ∨ f.kind ≠ 17 ∧ f.of ≠ 0
  · rw [if_pos h5] at h; omega
  refine ⟨by simpa using h3, fun e => ?_, fun e => ?_, fun e => ?_⟩
  · constructor
    · exact Int.not_lt.1 fun hh => h5 (.inl ⟨e, .inl hh⟩)
    · exact Int.not_le.1 fun hh => h5 (.inl ⟨e, .inr hh⟩)
  · exact Decidable.byContradiction fun hh => h5 (.inr ⟨e, hh⟩)
  · constructor
    · cases hr : f.rep with
      | true => rfl
      | false => exact absurd ⟨e, .inl hr⟩ h4
    · cases hr : knumber f.kind with
      | true => rfl
      | false => exact absurd ⟨e, .inr hr⟩ h4
theorem fieldsFault_none {n : Nat} : ∀ (fs bf : List Fld) (k : Nat), fieldsFault n bf fs k = none → ∀ f ∈ fs, ∃ nm nu, fieldFault n nm nu f = 0
  | [], _, _, _ => by simp
  | g :: r, bf, k, h => by
    rw [fieldsFault] at h
    by_cases h0 : fieldFault n (nameMet bf g.name) (numMet bf g.number) g = 0
    · rw [if_pos h0] at h
      intro f hf
      rcases List.mem_cons.1 hf with rfl | hf
      · exact ⟨_, _, h0⟩
      · exact fieldsFault_none r _ _ h f hf
    · rw [if_neg h0] at h; cases h
theorem scheckGo_ok {n : Nat} : ∀ (s bm : List Mes) (i : Nat), (scheckGo n bm s i).2.2 = 0 → ∀ m ∈ s, fieldsFault n [] m.fields 0 = none ∧ m.fields.length ≤ 200 ∧ nameOk m.name = true
  | [], _, _, _ => by simp
  | g :: r, bm, i, h => by
    rw [scheckGo] at h
    by_cases h1 : nameOk g.name = false
    · rw [if_pos h1] at h; simp at h
    rw [if_neg h1] at h
    by_cases h2 : mesMet bm g.name = true
    · rw [if_pos h2] at h; simp at h
    rw [if_neg h2] at h
    by_cases h3 : 200 < g.fields.length
    · rw [if_pos h3] at h; simp at h
    rw [if_neg h3] at h
    cases h4 : fieldsFault n [] g.fields 0 with
    | some p =>
      rw [h4] at h
      obtain ⟨k, x⟩ := p
      have : x ≠ 0 := by
        rintro rfl
        exact fieldsFault_nz _ _ _ h4
      simp at h
      exact absurd h this
    | none =>
      rw [h4] at h
      intro m hm
      rcases List.mem_cons.1 hm with rfl | hm
      · exact ⟨h4, by omega, by simpa using h1⟩
      · exact scheckGo_ok r _ _ h m hm
where
  fieldsFault_nz {n : Nat} : ∀ (fs bf : List Fld) (k : Nat) {j : Nat}, fieldsFault n bf fs k ≠ some (j, 0)
  | [], _, _, _ => by simp [fieldsFault]
  | g :: r, bf, k, j => by
    rw [fieldsFault]
    by_cases h0 : fieldFault n (nameMet bf g.name) (numMet bf g.number) g = 0
    · rw [if_pos h0]; exact fieldsFault_nz r _ _
    · rw [if_neg h0]
      intro h
      injection h with h
      exact h0 (congrArg Prod.snd h)
/-- what a right schema says of a field of a message -/
theorem sright_field {s : List Mes} (h : sright s = true) (m : Nat) (hm : m < s.length) (f : Fld) (hf : f ∈ (s.getD m .zero).fields) :
    kright f.kind = true ∧ (f.kind = 17 → 0 ≤ f.of ∧ f.of < s.length) ∧ (f.kind ≠ 17 → f.of = 0) ∧ (f.packed = true → f.rep = true ∧ knumber f.kind = true) := by
  have h0 : (scheck s).2.2 = 0 := of_decide_eq_true h
  unfold scheck at h0
  by_cases h1 : s.length = 0 ∨ 100 < s.length
  · rw [if_pos h1] at h0; simp at h0
  rw [if_neg h1] at h0
  have hmem : s.getD m .zero ∈ s := by
    have : s.getD m .zero = s[m] := by simp [List.getD, hm]
    rw [this]; exact List.getElem_mem hm
  obtain ⟨h2, -, -⟩ := scheckGo_ok s [] 0 h0 _ hmem
  obtain ⟨nm, nu, h3⟩ := fieldsFault_none _ _ _ h2 f hf
  exact fieldFault_of h3
theorem sright_len {s : List Mes} (h : sright s = true) : 0 < s.length ∧ s.length ≤ 100 := by
  have h0 : (scheck s).2.2 = 0 := of_decide_eq_true h
  unfold scheck at h0
  by_cases h1 : s.length = 0 ∨ 100 < s.length
  · rw [if_pos h1] at h0; simp at h0
  omega
/-! A record, looked at -/
theorem fieldAt_cases (fs : List Fld) (n : Int) : fieldAt fs n = -1 ∨ ∃ k : Nat, k < fs.length ∧ fieldAt fs n = k ∧ (fs.getD k .zero).number = n := by
  have gen : ∀ (l : List Fld) (i : Nat), firstAt (fun f => decide (f.number = n)) l i = -1 ∨ ∃ k : Nat, k < l.length ∧ firstAt (fun f => decide (f.number = n)) l i = ((i + k : Nat) : Int) ∧ (l.getD k .zero).number = n := by
    intro l
    induction l with
    | nil => intro i; exact .inl rfl
    | cons f r ih =>
      intro i
      rw [firstAt]
      by_cases h : f.number = n
      · exact .inr ⟨0, by simp, by simp [h], by simpa using h⟩
      · rw [if_neg (by simpa using h)]
        rcases ih (i + 1) with h1 | ⟨k, h1, h2, h3⟩
        · exact .inl h1
        · exact .inr ⟨k + 1, by simpa using h1, by rw [h2]; congr 1; omega, by simpa using h3⟩
  rcases gen fs 0 with h | ⟨k, h1, h2, h3⟩
  · exact .inl h
  · exact .inr ⟨k, h1, by unfold fieldAt; rw [h2, Nat.zero_add], h3⟩
/-- Every outcome of vlook: none, an unknown field, a field. -/
theorem vlook_cases (fs : List Fld) (l : List UInt8) (i : Nat) :
    (∃ c, c ≠ 0 ∧ vlook fs l i = (.none, 0, false, c) ∧ c < 256) ∨
    (∃ r : Rec, r.start = i ∧ i < r.at' ∧ r.at' ≤ r.to ∧ r.to ≤ l.length ∧ rnext l i = (r, 0) ∧
      (vlook fs l i = (r, -1, false, 0) ∨
      ∃ (k : Nat) (run : Bool), k < fs.length ∧ vlook fs l i = (r, (k : Int), run, 0) ∧ (fs.getD k .zero).number = r.number ∧
        (run = true → (fs.getD k .zero).rep = true ∧ knumber (fs.getD k .zero).kind = true ∧ r.wire = 2) ∧ (run = false → kright (fs.getD k .zero).kind = true ∧ kwire (fs.getD k .zero).kind = r.wire))) := by
  have hn : ∀ c, rnext l i = (.none, c) → c ≠ 0 → c < 256 → vlook fs l i = (.none, 0, false, c) := fun c h1 h2 _ => by
    unfold vlook
    rw [h1]
    simp [h2]
  rcases rnext_cases l i with ⟨hi, er⟩ | ⟨hi, c, et, hc, er⟩ | ⟨hi, k, x, n, et, h1, h2, h3, h4, h5, h6, hcs⟩
  · exact .inl ⟨2, by decide, hn _ er (by decide) (by decide), by decide⟩
  · exact .inl ⟨c, by omega, hn _ er (by omega) (by omega), by omega⟩
  · rcases hcs with ⟨a, m, c, es, hc, -, -, er⟩ | ⟨a, m, es, -, -, -, -, er⟩ | ⟨a, m, es, g1, g2, g3, er⟩
    · exact .inl ⟨c, by omega, hn _ er (by omega) (by omega), by omega⟩
    · exact .inl ⟨3, by decide, hn _ er (by decide) (by decide), by decide⟩
    · have hv : vlook fs l i = if fieldAt fs k < 0 then (⟨k, x, i, i + n + a, i + n + a + m⟩, -1, false, 0) else
          if ((fs.getD (fieldAt fs k).toNat .zero).rep && knumber (fs.getD (fieldAt fs k).toNat .zero).kind && decide (x = 2)) = true then (⟨k, x, i, i + n + a, i + n + a + m⟩, fieldAt fs k, true, 0) else
          if kright (fs.getD (fieldAt fs k).toNat .zero).kind = false ∨ kwire (fs.getD (fieldAt fs k).toNat .zero).kind ≠ x then (.none, 0, false, 6) else (⟨k, x, i, i + n + a, i + n + a + m⟩, fieldAt fs k, false, 0) := by
        unfold vlook
        rw [er]
        rfl
      rcases fieldAt_cases fs k with hf | ⟨j, hj, hf, hjn⟩
      · rw [hf, if_pos (by decide)] at hv
        exact .inr ⟨_, rfl, by simp; omega, by simp, by simp; omega, er, .inl hv⟩
      · rw [hf, if_neg (by omega)] at hv
        simp only [Int.toNat_natCast] at hv
        by_cases hrun : ((fs.getD j .zero).rep && knumber (fs.getD j .zero).kind && decide (x = 2)) = true
        · rw [if_pos hrun] at hv
          simp only [Bool.and_eq_true, decide_eq_true_eq] at hrun
          exact .inr ⟨_, rfl, by simp; omega, by simp, by simp; omega, er, .inr ⟨j, true, hj, hv, hjn, fun _ => ⟨hrun.1.1, hrun.1.2, hrun.2⟩, fun h => (by cases h)⟩⟩
        · rw [if_neg hrun] at hv
          by_cases hbad : kright (fs.getD j .zero).kind = false ∨ kwire (fs.getD j .zero).kind ≠ x
          · rw [if_pos hbad] at hv
            exact .inl ⟨6, by decide, hv, by decide⟩
          · rw [if_neg hbad] at hv
            have g4 : kright (fs.getD j .zero).kind = true := by
              cases h : kright (fs.getD j .zero).kind with
              | true => rfl
              | false => exact absurd (.inl h) hbad
            have g5 : kwire (fs.getD j .zero).kind = x := Decidable.byContradiction fun h => hbad (.inr h)
            exact .inr ⟨_, rfl, by simp; omega, by simp, by simp; omega, er, .inr ⟨j, false, hj, hv, hjn, fun h => (by cases h), fun _ => ⟨g4, g5⟩⟩⟩
/-! The first that is not right -/
def part (l : List UInt8) (i j : Nat) : List UInt8 := (l.drop i).take (j - i)
/-- place, code (0: right) of a record that was looked at -/
def vval (rec : Nat → List UInt8 → Nat × Nat) (deep : Bool) (fs : List Fld) (l : List UInt8) (v : Rec × Int × Bool × Nat) : Nat × Nat :=
  if v.2.1 < 0 then (0, 0) else
  let f := fs.getD v.2.1.toNat .zero
  if v.2.2.1 = true then (v.1.start, (runCount (kwire f.kind) (part l v.1.at' v.1.to)).2) else
  if f.kind = 15 then (if ufirst (part l v.1.at' v.1.to) = (part l v.1.at' v.1.to).length then (0, 0) else (v.1.start, 7)) else
  if f.kind = 17 then (if deep = true then (v.1.start, 8) else (v.1.at' + (rec f.of.toNat (part l v.1.at' v.1.to)).1, (rec f.of.toNat (part l v.1.at' v.1.to)).2)) else
  (0, 0)
def vloop (rec : Nat → List UInt8 → Nat × Nat) (deep : Bool) (fs : List Fld) (l : List UInt8) : Nat → Nat → Nat × Nat
  | 0, _ => (0, 0)
  | k + 1, i => if l.length ≤ i then (0, 0) else
    if (vlook fs l i).2.2.2 ≠ 0 then (i, (vlook fs l i).2.2.2) else
    if (vval rec deep fs l (vlook fs l i)).2 ≠ 0 then vval rec deep fs l (vlook fs l i) else vloop rec deep fs l k (vlook fs l i).1.to
/-- .. in a message's bytes, at most d deep -/
def vmsg (s : List Mes) : Nat → Nat → List UInt8 → Nat × Nat
  | 0, m, l => vloop (fun _ _ => (0, 0)) true (s.getD m .zero).fields l l.length 0
  | d + 1, m, l => vloop (vmsg s d) false (s.getD m .zero).fields l l.length 0
def vrec (s : List Mes) : Nat → Nat → List UInt8 → Nat × Nat
  | 0 => fun _ _ => (0, 0)
  | d + 1 => vmsg s d
/-- from place i on -/
def vfrom (s : List Mes) (d m : Nat) (l : List UInt8) (i : Nat) : Nat × Nat := vloop (vrec s d) (decide (d = 0)) (s.getD m .zero).fields l l.length i
theorem vmsg_from (s : List Mes) (d m : Nat) (l : List UInt8) : vmsg s d m l = vfrom s d m l 0 := by cases d <;> rfl
theorem vlook_to (fs : List Fld) (l : List UInt8) (i : Nat) (h : (vlook fs l i).2.2.2 = 0) : i < (vlook fs l i).1.to ∧ (vlook fs l i).1.to ≤ l.length := by
  rcases vlook_cases fs l i with ⟨c, hc, e, -⟩ | ⟨r, h1, h2, h3, h4, -, e | ⟨k, run, -, e, -⟩⟩
  · rw [e] at h; exact absurd h hc
  · rw [e]; exact ⟨by show i < r.to; omega, h4⟩
  · rw [e]; exact ⟨by show i < r.to; omega, h4⟩
theorem vloop_fuel (rec : Nat → List UInt8 → Nat × Nat) (deep : Bool) (fs : List Fld) (l : List UInt8) : ∀ (k m i : Nat), l.length ≤ k + i → l.length ≤ m + i → vloop rec deep fs l k i = vloop rec deep fs l m i
  | 0, 0, _, _, _ => rfl
  | 0, m + 1, i, h, _ => by rw [vloop, vloop, if_pos (by omega)]
  | k + 1, 0, i, _, h => by rw [vloop, vloop, if_pos (by omega)]
  | k + 1, m + 1, i, h1, h2 => by
    rw [vloop, vloop]
    by_cases hi : l.length ≤ i
    · rw [if_pos hi, if_pos hi]
    rw [if_neg hi, if_neg hi]
    by_cases hc : (vlook fs l i).2.2.2 = 0
    · obtain ⟨g1, g2⟩ := vlook_to fs l i hc
      rw [vloop_fuel rec deep fs l k m (vlook fs l i).1.to (by omega) (by omega)]
    · rw [if_pos hc, if_pos hc]
/-- one step -/
theorem vfrom_at (s : List Mes) (d m : Nat) (l : List UInt8) (i : Nat) : vfrom s d m l i =
    if l.length ≤ i then (0, 0) else
    if (vlook (s.getD m .zero).fields l i).2.2.2 ≠ 0 then (i, (vlook (s.getD m .zero).fields l i).2.2.2) else
    if (vval (vrec s d) (decide (d = 0)) (s.getD m .zero).fields l (vlook (s.getD m .zero).fields l i)).2 ≠ 0 then vval (vrec s d) (decide (d = 0)) (s.getD m .zero).fields l (vlook (s.getD m .zero).fields l i) else
    vfrom s d m l (vlook (s.getD m .zero).fields l i).1.to := by
  unfold vfrom
  by_cases hi : l.length ≤ i
  · rw [if_pos hi]
    cases hl : l.length with
    | zero => rfl
    | succ k => rw [vloop, if_pos hi]
  · rw [if_neg hi]
    obtain ⟨k, hk⟩ : ∃ k, l.length = k + 1 := ⟨l.length - 1, by omega⟩
    conv => lhs; rw [hk, vloop, if_neg hi]
    by_cases hc : (vlook (s.getD m .zero).fields l i).2.2.2 = 0
    · obtain ⟨g1, g2⟩ := vlook_to (s.getD m .zero).fields l i hc
      rw [vloop_fuel _ _ _ l k l.length _ (by omega) (by omega)]
    · rw [if_pos hc, if_pos hc]
theorem part_len (l : List UInt8) (i j : Nat) (hij : i ≤ j) (hj : j ≤ l.length) : (part l i j).length = j - i := by
  unfold part; rw [List.length_take, List.length_drop]; omega
/-- codes fit into a byte -/
theorem runCount_lt (wire : Nat) (l : List UInt8) : (runCount wire l).2 = 0 ∨ (runCount wire l).2 = 3 ∨ (runCount wire l).2 = 4 := by
  have : ∀ (m : Nat) (l : List UInt8), l.length ≤ m → (runCount wire l).2 = 0 ∨ (runCount wire l).2 = 3 ∨ (runCount wire l).2 = 4 := by
    intro m
    induction m with
    | zero => intro l h; obtain rfl : l = [] := List.length_eq_zero_iff.1 (by omega); exact .inl rfl
    | succ m ih =>
      intro l h
      by_cases hl : l = []
      · subst hl; exact .inl rfl
      rcases runSize_cases wire l with ⟨n, e, h3, -, h4⟩ | ⟨c, e, hc⟩
      · rw [runCount_step wire l hl n e]
        have := ih (l.drop n) (by simp; omega)
        by_cases h0 : (runCount wire (l.drop n)).2 = 0
        · simp [h0]
        · rw [if_pos h0]; exact this
      · rw [runCount_bad wire l hl c (by omega) (by rw [e])]; exact .inr hc
  exact this _ l (Nat.le_refl _)
end Go.Proofs.YtpckoeicbjfnhaaGreatDoor
