/- What package kind's functions, and the document's, return of any number: kwire, kright, knumber. No condition. -/
import Derived.Test.YtgephhmkaonahaaMap
namespace Go.Proofs.Ytgephhmkaonahaa
open Go.RowKit

def kright (k : Int) : Bool := decide (1 ≤ k ∧ k ≤ 17)
def kwire (k : Int) : Nat := if k < 1 ∨ 17 < k then 0 else if 15 ≤ k then 2 else if 12 ≤ k then 1 else if 9 ≤ k then 5 else 0
def knumber (k : Int) : Bool := decide (1 ≤ k ∧ k ≤ 14)
def kbits (k : Int) : Nat := if k < 1 ∨ 17 < k then 0 else if 15 ≤ k then 0 else if 12 ≤ k then 64 else if k = 2 ∨ k = 4 ∨ k = 6 then 64 else if k = 7 then 1 else 32

def formsL : List (Int × Value) := [
(1, .agg #[.string ⟨#[105, 110, 116, 51, 50]⟩, .int .i64 0, .int .i64 32]),
  (2, .agg #[.string ⟨#[105, 110, 116, 54, 52]⟩, .int .i64 0, .int .i64 64]),
  (3, .agg #[.string ⟨#[117, 105, 110, 116, 51, 50]⟩, .int .i64 0, .int .i64 32]),
  (4, .agg #[.string ⟨#[117, 105, 110, 116, 54, 52]⟩, .int .i64 0, .int .i64 64]),
  (5, .agg #[.string ⟨#[115, 105, 110, 116, 51, 50]⟩, .int .i64 0, .int .i64 32]),
  (6, .agg #[.string ⟨#[115, 105, 110, 116, 54, 52]⟩, .int .i64 0, .int .i64 64]),
  (7, .agg #[.string ⟨#[98, 111, 111, 108]⟩, .int .i64 0, .int .i64 1]),
  (8, .agg #[.string ⟨#[101, 110, 117, 109]⟩, .int .i64 0, .int .i64 32]),
  (9, .agg #[.string ⟨#[102, 105, 120, 101, 100, 51, 50]⟩, .int .i64 5, .int .i64 32]),
  (10, .agg #[.string ⟨#[115, 102, 105, 120, 101, 100, 51, 50]⟩, .int .i64 5, .int .i64 32]),
  (11, .agg #[.string ⟨#[102, 108, 111, 97, 116]⟩, .int .i64 5, .int .i64 32]),
  (12, .agg #[.string ⟨#[102, 105, 120, 101, 100, 54, 52]⟩, .int .i64 1, .int .i64 64]),
  (13, .agg #[.string ⟨#[115, 102, 105, 120, 101, 100, 54, 52]⟩, .int .i64 1, .int .i64 64]),
  (14, .agg #[.string ⟨#[100, 111, 117, 98, 108, 101]⟩, .int .i64 1, .int .i64 64]),
  (15, .agg #[.string ⟨#[115, 116, 114, 105, 110, 103]⟩, .int .i64 2, .int .i64 0]),
  (16, .agg #[.string ⟨#[98, 121, 116, 101, 115]⟩, .int .i64 2, .int .i64 0]),
  (17, .agg #[.string ⟨#[109, 101, 115, 115, 97, 103, 101]⟩, .int .i64 2, .int .i64 0])
]
def intK (k : Int) : Value := .int .i64 k
theorem intK_ok : KeyOk Try.prog 3 intK := keyOk_now Try.underlying3 (fun k => by simp [intK, MapKept.IsKey]) (fun k k' => by simp [intK, Instr.sameNow]; rfl)

def formsE (j : Nat) : Array MapEntry := (entL intK (formsL.take j) 0).toArray
theorem forms_step (w : World) (j : Nat) (hj : j < 17) (k : Int) (v : Value) (he : formsL[j]? = some (k, v)) (hk : getOf k (formsL.take j) = none) :
    (Instr.mapUpdate 204 (.map (some w.heap.size)) (.int .i64 k) v).run Try.prog (w.alloc (.map (formsE j) j)) = .ok () (w.alloc (.map (formsE (j + 1)) (j + 1))) := by
  have hl : (formsL.take j).length = j := by rw [List.length_take]; show min j 17 = j; omega
  have hl2 : (formsL.take (j + 1)).length = j + 1 := by rw [List.length_take]; show min (j + 1) 17 = j + 1; omega
  have hm : MapIs (w.alloc (.map (formsE j) j)) w.heap.size intK (formsL.take j) := by
    unfold MapIs
    rw [heap_alloc_new, hl]; rfl
  have := map_insert (P := Try.prog) intK_ok Try.underlying204 hm k v hk
  have e : formsL.take j ++ [(k, v)] = formsL.take (j + 1) := by rw [List.take_add_one, he]; rfl
  rw [e] at this
  have e2 := putMap_alloc (w := w) (kv := intK) (es := formsL.take j) (fs := formsL.take (j + 1))
  rw [hl, hl2] at e2
  exact this.trans (by rw [show (w.alloc (.map (formsE j) j)) = w.alloc (.map (entL intK (formsL.take j) 0).toArray j) from rfl, e2]; rfl)

set_option maxRecDepth 100000 in
theorem kind_forms (w : World) :
    Calls Try.prog 121 #[] w fun e w' => ∃ r, MapIs w' r intK formsL ∧ r < w'.heap.size ∧ Below w.heap.size w w' ∧ e = .returned (.map (some r)) := by
  have hmm := @run_makeMap Try.prog
  have h0 := forms_step w 0 (by omega) 1 (.agg #[.string ⟨#[105, 110, 116, 51, 50]⟩, .int .i64 0, .int .i64 32]) rfl rfl
  have h1 := forms_step w 1 (by omega) 2 (.agg #[.string ⟨#[105, 110, 116, 54, 52]⟩, .int .i64 0, .int .i64 64]) rfl rfl
  have h2 := forms_step w 2 (by omega) 3 (.agg #[.string ⟨#[117, 105, 110, 116, 51, 50]⟩, .int .i64 0, .int .i64 32]) rfl rfl
  have h3 := forms_step w 3 (by omega) 4 (.agg #[.string ⟨#[117, 105, 110, 116, 54, 52]⟩, .int .i64 0, .int .i64 64]) rfl rfl
  have h4 := forms_step w 4 (by omega) 5 (.agg #[.string ⟨#[115, 105, 110, 116, 51, 50]⟩, .int .i64 0, .int .i64 32]) rfl rfl
  have h5 := forms_step w 5 (by omega) 6 (.agg #[.string ⟨#[115, 105, 110, 116, 54, 52]⟩, .int .i64 0, .int .i64 64]) rfl rfl
  have h6 := forms_step w 6 (by omega) 7 (.agg #[.string ⟨#[98, 111, 111, 108]⟩, .int .i64 0, .int .i64 1]) rfl rfl
  have h7 := forms_step w 7 (by omega) 8 (.agg #[.string ⟨#[101, 110, 117, 109]⟩, .int .i64 0, .int .i64 32]) rfl rfl
  have h8 := forms_step w 8 (by omega) 9 (.agg #[.string ⟨#[102, 105, 120, 101, 100, 51, 50]⟩, .int .i64 5, .int .i64 32]) rfl rfl
  have h9 := forms_step w 9 (by omega) 10 (.agg #[.string ⟨#[115, 102, 105, 120, 101, 100, 51, 50]⟩, .int .i64 5, .int .i64 32]) rfl rfl
  have h10 := forms_step w 10 (by omega) 11 (.agg #[.string ⟨#[102, 108, 111, 97, 116]⟩, .int .i64 5, .int .i64 32]) rfl rfl
  have h11 := forms_step w 11 (by omega) 12 (.agg #[.string ⟨#[102, 105, 120, 101, 100, 54, 52]⟩, .int .i64 1, .int .i64 64]) rfl rfl
  have h12 := forms_step w 12 (by omega) 13 (.agg #[.string ⟨#[115, 102, 105, 120, 101, 100, 54, 52]⟩, .int .i64 1, .int .i64 64]) rfl rfl
  have h13 := forms_step w 13 (by omega) 14 (.agg #[.string ⟨#[100, 111, 117, 98, 108, 101]⟩, .int .i64 1, .int .i64 64]) rfl rfl
  have h14 := forms_step w 14 (by omega) 15 (.agg #[.string ⟨#[115, 116, 114, 105, 110, 103]⟩, .int .i64 2, .int .i64 0]) rfl rfl
  have h15 := forms_step w 15 (by omega) 16 (.agg #[.string ⟨#[98, 121, 116, 101, 115]⟩, .int .i64 2, .int .i64 0]) rfl rfl
  have h16 := forms_step w 16 (by omega) 17 (.agg #[.string ⟨#[109, 101, 115, 115, 97, 103, 101]⟩, .int .i64 2, .int .i64 0]) rfl rfl
  have e0 : formsE 0 = #[] := rfl
  rw [e0] at h0
  clear e0
  simp only [Nat.zero_add, Nat.reduceAdd] at *
  go_enter Try.func121, Try.ntmps121
  go_wp2
  go_ret
  refine ⟨w.heap.size, ?_, by simp, by (repeat (first | with_reducible exact Below.refl _ _ | with_reducible refine Below.setCell ?_ (by first | omega | (simp; omega) | (simp; done)) _ | with_reducible refine Below.alloc ?_ (by first | omega | (simp; omega) | (simp; done)) _ | with_reducible refine below_drewN ?_ _ | with_reducible refine Below.drew ?_)), rfl⟩
  unfold MapIs
  rw [heap_alloc_new]; rfl

def kname (k : Int) : ByteArray := 
  if k = 1 then ⟨#[105, 110, 116, 51, 50]⟩ else if k = 2 then ⟨#[105, 110, 116, 54, 52]⟩ else if k = 3 then ⟨#[117, 105, 110, 116, 51, 50]⟩ else if k = 4 then ⟨#[117, 105, 110, 116, 54, 52]⟩ else if k = 5 then ⟨#[115, 105, 110, 116, 51, 50]⟩ else if k = 6 then ⟨#[115, 105, 110, 116, 54, 52]⟩ else if k = 7 then ⟨#[98, 111, 111, 108]⟩ else if k = 8 then ⟨#[101, 110, 117, 109]⟩ else if k = 9 then ⟨#[102, 105, 120, 101, 100, 51, 50]⟩ else if k = 10 then ⟨#[115, 102, 105, 120, 101, 100, 51, 50]⟩ else if k = 11 then ⟨#[102, 108, 111, 97, 116]⟩ else if k = 12 then ⟨#[102, 105, 120, 101, 100, 54, 52]⟩ else if k = 13 then ⟨#[115, 102, 105, 120, 101, 100, 54, 52]⟩ else if k = 14 then ⟨#[100, 111, 117, 98, 108, 101]⟩ else if k = 15 then ⟨#[115, 116, 114, 105, 110, 103]⟩ else if k = 16 then ⟨#[98, 121, 116, 101, 115]⟩ else if k = 17 then ⟨#[109, 101, 115, 115, 97, 103, 101]⟩ else ⟨#[]⟩

theorem getOf_forms (k : Int) : getOf k formsL = if kright k then some (.agg #[.string (kname k), .int .i64 (kwire k), .int .i64 (kbits k)]) else none := by
  by_cases h : 1 ≤ k ∧ k ≤ 17
  · rcases (show k = 1 ∨ k = 2 ∨ k = 3 ∨ k = 4 ∨ k = 5 ∨ k = 6 ∨ k = 7 ∨ k = 8 ∨ k = 9 ∨ k = 10 ∨ k = 11 ∨ k = 12 ∨ k = 13 ∨ k = 14 ∨ k = 15 ∨ k = 16 ∨ k = 17 by omega) with rfl | rfl | rfl | rfl | rfl | rfl | rfl | rfl | rfl | rfl | rfl | rfl | rfl | rfl | rfl | rfl | rfl
    all_goals rfl
  · have hr : kright k = false := by simp [kright]; omega
    rw [hr]
    simp only [formsL, getOf]
    simp only [Bool.false_eq_true, if_false]
    repeat (rw [if_neg (by omega)])

theorem form_zero (w : World) : (zeroValue 203).run Try.prog w = .ok (.agg #[.string ⟨#[]⟩, .int .i64 0, .int .i64 0]) w := by kernel_rfl

set_option maxRecDepth 100000 in
theorem kind_Wire (k : Int) (w : World) :
    Calls Try.prog 91 #[.int .i64 k] w fun e w' => e = .returned (.tuple #[.int .i64 (kwire k), .int .u8 (if kright k then 0 else 2)]) ∧ Below w.heap.size w w' := by
  by_cases h : kright k = true
  · rw [if_pos h]
    go_enter Try.func91, Try.ntmps91
    go_wp2_with fail
    refine (kind_forms _).mono ?_
    rintro e w1 ⟨r, hm, hr, hb, rfl⟩
    have hz : w.heap.size ≤ w1.heap.size := hb.size
    have hl := map_lookup (P := Try.prog) intK_ok Try.underlying204 form_zero hm k true
    rw [getOf_forms, if_pos h] at hl
    simp only [if_true, Option.getD_some, Option.isSome_some, intK] at hl
    go_wp2
    go_ret2
    exact ⟨rfl, by (repeat (first | with_reducible exact Below.refl _ _ | with_reducible refine Below.setCell ?_ (by first | omega | (simp; omega) | (simp; done)) _ | with_reducible refine Below.alloc ?_ (by first | omega | (simp; omega) | (simp; done)) _ | with_reducible refine below_drewN ?_ _ | with_reducible refine Below.drew ?_)); exact below_step (Below.refl _ _) hb (Nat.le_refl _)⟩
  · have hk : kwire k = 0 := by
      have : ¬ (1 ≤ k ∧ k ≤ 17) := fun e => h (by simp [kright, e])
      unfold kwire
      rw [if_pos (by omega)]
    rw [if_neg h, hk]
    clear hk
    go_enter Try.func91, Try.ntmps91
    go_wp2_with fail
    refine (kind_forms _).mono ?_
    rintro e w1 ⟨r, hm, hr, hb, rfl⟩
    have hz : w.heap.size ≤ w1.heap.size := hb.size
    have hl := map_lookup (P := Try.prog) intK_ok Try.underlying204 form_zero hm k true
    rw [getOf_forms, if_neg h] at hl
    simp only [if_true, Option.getD_none, Option.isSome_none, intK] at hl
    go_wp2
    go_ret2
    exact ⟨rfl, by (repeat (first | with_reducible exact Below.refl _ _ | with_reducible refine Below.setCell ?_ (by first | omega | (simp; omega) | (simp; done)) _ | with_reducible refine Below.alloc ?_ (by first | omega | (simp; omega) | (simp; done)) _ | with_reducible refine below_drewN ?_ _ | with_reducible refine Below.drew ?_)); exact below_step (Below.refl _ _) hb (Nat.le_refl _)⟩

theorem knumber_eq (k : Int) : knumber k = (kright k && decide (kwire k ≠ 2)) := by
  unfold knumber kright kwire
  by_cases h : k < 1 ∨ 17 < k
  · rw [if_pos h, decide_eq_false (by omega), decide_eq_false (show ¬ (1 ≤ k ∧ k ≤ 17) by omega)]; rfl
  · rw [if_neg h]
    by_cases h15 : 15 ≤ k
    · rw [if_pos h15, decide_eq_false (by omega)]; simp
    · rw [if_neg h15, decide_eq_true (show 1 ≤ k ∧ k ≤ 14 by omega), decide_eq_true (show 1 ≤ k ∧ k ≤ 17 by omega)]
      split
      · rfl
      · split <;> rfl

set_option maxRecDepth 100000 in
theorem kind_Number (k : Int) (w : World) :
    Calls Try.prog 82 #[.int .i64 k] w fun e w' => e = .returned (.bool (knumber k)) ∧ Below w.heap.size w w' := by
  rw [knumber_eq]
  obtain ⟨x, HX⟩ : ∃ x, Hid (x = kwire k) := ⟨_, rfl⟩
  rw [← HX.out]
  cases h : kright k with
  | false =>
    have H := hid h
    clear h
    go_enter Try.func82, Try.ntmps82
    go_wp2_with (go_at_call 91; refine (kind_Wire _ _).mono ?_; rintro e w' ⟨rfl, hb⟩; rw [H.out, ← HX.out])
    go_ret
    exact ⟨rfl, hb⟩
  | true =>
    have H := hid h
    clear h
    go_enter Try.func82, Try.ntmps82
    go_wp2_with (go_at_call 91; refine (kind_Wire _ _).mono ?_; rintro e w' ⟨rfl, hb⟩; rw [H.out, ← HX.out])
    go_ret
    refine ⟨ret1 ?_, hb⟩
    show Value.bool ((x : Int) != 2) = _
    congr 1
    rw [Bool.eq_iff_iff]
    simp
    omega

set_option maxRecDepth 100000 in
theorem kind_Right (k : Int) (w : World) :
    Calls Try.prog 148 #[.int .i64 k] w fun e w' => e = .returned (.bool (kright k)) ∧ w = w' := by
  have H : Hid (kright k = (decide (1 ≤ k) && decide (k ≤ 17))) := by simp [Hid, kright]
  by_cases h1 : 1 ≤ k
  all_goals
    go_enter Try.func148, Try.ntmps148
    go_wp2
    go_ret
    refine ⟨ret1 ?_, rfl⟩
    rw [H.out]
    simp [h1] <;> omega

set_option maxRecDepth 100000 in
theorem ref06_Right (k : Int) (w : World) :
    Calls Try.prog 55 #[.int .i64 k] w fun e w' => e = .returned (.bool (kright k)) ∧ w = w' := by
  have H : Hid (kright k = (decide (1 ≤ k) && decide (k ≤ 17))) := by simp [Hid, kright]
  by_cases h1 : 1 ≤ k
  all_goals
    go_enter Try.func55, Try.ntmps55
    go_wp2
    go_ret
    refine ⟨ret1 ?_, rfl⟩
    rw [H.out]
    simp [h1] <;> omega

set_option maxRecDepth 100000 in
theorem ref06_Number (k : Int) (w : World) :
    Calls Try.prog 56 #[.int .i64 k] w fun e w' => e = .returned (.bool (knumber k)) ∧ w = w' := by
  have H : Hid (knumber k = (decide (1 ≤ k) && decide (k ≤ 14))) := by simp [Hid, knumber]
  by_cases h1 : 1 ≤ k
  all_goals
    go_enter Try.func56, Try.ntmps56
    go_wp2
    go_ret
    refine ⟨ret1 ?_, rfl⟩
    rw [H.out]
    simp [h1] <;> omega

set_option maxRecDepth 100000 in
theorem ref06_Wire (k : Int) (hk : kright k = true) (w : World) :
    Calls Try.prog 61 #[.int .i64 k] w fun e w' => e = .returned (.int .i64 (kwire k)) ∧ w = w' := by
  have hk' : 1 ≤ k ∧ k ≤ 17 := of_decide_eq_true hk
  by_cases h15 : 15 ≤ k
  · have H : Hid (kwire k = 2) := by unfold Hid kwire; rw [if_neg (by omega), if_pos h15]
    clear hk
    go_enter Try.func61, Try.ntmps61
    go_wp2
    go_ret
    rw [H.out]
    exact ⟨rfl, rfl⟩
  · by_cases h12 : 12 ≤ k
    · have H : Hid (kwire k = 1) := by unfold Hid kwire; rw [if_neg (by omega), if_neg h15, if_pos h12]
      clear hk
      go_enter Try.func61, Try.ntmps61
      go_wp2
      go_ret
      rw [H.out]
      exact ⟨rfl, rfl⟩
    · by_cases h9 : 9 ≤ k
      · have H : Hid (kwire k = 5) := by unfold Hid kwire; rw [if_neg (by omega), if_neg h15, if_neg h12, if_pos h9]
        clear hk
        go_enter Try.func61, Try.ntmps61
        go_wp2
        go_ret
        rw [H.out]
        exact ⟨rfl, rfl⟩
      · have H : Hid (kwire k = 0) := by unfold Hid kwire; rw [if_neg (by omega), if_neg h15, if_neg h12, if_neg h9]
        clear hk
        go_enter Try.func61, Try.ntmps61
        go_wp2
        go_ret
        rw [H.out]
        exact ⟨rfl, rfl⟩

end Go.Proofs.Ytgephhmkaonahaa
