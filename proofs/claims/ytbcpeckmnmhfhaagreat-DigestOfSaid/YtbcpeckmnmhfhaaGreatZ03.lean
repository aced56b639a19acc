/- What the document's Next record returns on any bytes: rnext. The place is a natural number. -/
import Derived.Test.YtbcpeckmnmhfhaaGreatZ02
namespace Go.Proofs.YtbcpeckmnmhfhaaGreat
open Go.RowKit
theorem ref02_Read_at {w : World} {v : Value} {l : List UInt8} (h : Bytes w v l) (z : Int) (i : Nat) (hz : z = i) (hi : i ≤ l.length) :
    Calls Tryz.prog 51 #[v, .int .i64 z] w fun e w' => e = .returned (.tuple #[.int .u64 (vread (l.drop i)).1, .int .i64 (vread (l.drop i)).2.1, .int .i64 (vread (l.drop i)).2.2]) ∧ w = w' := by
  subst hz
  exact ref02_Read h i hi
theorem rsize0 (l : List UInt8) (a m c : Nat) (h : rsize 0 l = (a, m, c)) : a = 0 ∧ ∃ x, vread l = (x, m, c) := by
  simp only [rsize, if_pos] at h
  obtain ⟨rfl, rfl, rfl⟩ := (by simpa using h : 0 = a ∧ (vread l).2.1 = m ∧ (vread l).2.2 = c)
  exact ⟨rfl, _, rfl⟩
theorem rsize2 (l : List UInt8) (a m c : Nat) (h : rsize 2 l = (a, m, c)) : vread l = (m, a, c) := by
  obtain ⟨rfl, rfl, rfl⟩ := (by simpa [rsize] using h : (vread l).2.1 = a ∧ (vread l).1 = m ∧ (vread l).2.2 = c)
  rfl
theorem rsize1 (l : List UInt8) (a m c : Nat) (h : rsize 1 l = (a, m, c)) : a = 0 ∧ m = 8 ∧ c = 0 := by
  obtain ⟨rfl, rfl, rfl⟩ := (by simpa [rsize] using h : 0 = a ∧ 8 = m ∧ 0 = c)
  exact ⟨rfl, rfl, rfl⟩
theorem rsize5 (l : List UInt8) (a m c : Nat) (h : rsize 5 l = (a, m, c)) : a = 0 ∧ m = 4 ∧ c = 0 := by
  obtain ⟨rfl, rfl, rfl⟩ := (by simpa [rsize] using h : 0 = a ∧ 4 = m ∧ 0 = c)
  exact ⟨rfl, rfl, rfl⟩
set_option maxRecDepth 100000 in
theorem r5_out {w : World} {a : Option Addr} {cap n : Nat} {l : List UInt8} (_h : Bytes w (.slice a n cap) l) (_HN : Hid (n = l.length)) (_hlen : n ≤ 140737488355328) (i : Nat) (hi : n ≤ i) :
    Calls Tryz.prog 64 #[.slice a n cap, .int .i64 i] w fun e w' => e = .returned (.tuple #[Rec.none.val, .int .i64 2]) ∧ Below w.heap.size w w' := by
  go_enter Tryz.func64, Tryz.ntmps64
  go_wp2
  refine bodyPost_ret (v := .tuple #[Rec.none.val, .int .i64 2]) ?_ rfl ⟨rfl, ?_⟩
  · simp [results, Tryz.results64, go_sem, Rec.none, Rec.val]
  · (repeat (first | with_reducible exact Below.refl _ _ | with_reducible refine Below.setCell ?_ (by first | omega | (simp; omega) | (simp; done)) _ | with_reducible refine Below.alloc ?_ (by first | omega | (simp; omega) | (simp; done)) _ | with_reducible refine below_drewN ?_ _ | with_reducible refine Below.drew ?_))
set_option maxRecDepth 100000 in
theorem r5_tag {w : World} {a : Option Addr} {cap n : Nat} {l : List UInt8} (h : Bytes w (.slice a n cap) l) (HN : Hid (n = l.length)) (_hlen : n ≤ 140737488355328) (i : Nat) (hi : i < n) (c : Nat) (ET : Hid (tread (l.drop i) = (0, 0, 0, c))) (hc0 : ((c : Int) == 0) = false) :
    Calls Tryz.prog 64 #[.slice a n cap, .int .i64 i] w fun e w' => e = .returned (.tuple #[Rec.none.val, .int .i64 c]) ∧ Below w.heap.size w w' := by
  go_enter Tryz.func64, Tryz.ntmps64
  go_wp2_with fail
  refine (ref03_Read (h.below ((Below.refl _ _).alloc (Nat.le_refl _) _)) i (by rw [← HN.out]; omega)).mono ?_
  rintro e w' ⟨rfl, rfl⟩
  rw [ET.out]
  go_wp2
  refine bodyPost_ret (v := .tuple #[Rec.none.val, .int .i64 c]) ?_ rfl ⟨rfl, ?_⟩
  · simp [results, Tryz.results64, go_sem, Rec.none, Rec.val]
  · (repeat (first | with_reducible exact Below.refl _ _ | with_reducible refine Below.setCell ?_ (by first | omega | (simp; omega) | (simp; done)) _ | with_reducible refine Below.alloc ?_ (by first | omega | (simp; omega) | (simp; done)) _ | with_reducible refine below_drewN ?_ _ | with_reducible refine Below.drew ?_))
set_option maxRecDepth 100000 in
theorem r5_0_err {w : World} {a : Option Addr} {cap n : Nat} {l : List UInt8} (h : Bytes w (.slice a n cap) l) (HN : Hid (n = l.length)) (hlen : n ≤ 140737488355328) (i : Nat) (hi : i < n) (k m : Nat) (ET : Hid (tread (l.drop i) = (k, 0, m, 0))) (hm : m ≤ 10) (him : i + m ≤ n) (_a' m' c : Nat) (x : Nat) (EV : Hid (vread (l.drop (i + m)) = (x, m', c))) (hc0 : ((c : Int) == 0) = false) :
    Calls Tryz.prog 64 #[.slice a n cap, .int .i64 i] w fun e w' => e = .returned (.tuple #[Rec.none.val, .int .i64 c]) ∧ Below w.heap.size w w' := by
  go_enter Tryz.func64, Tryz.ntmps64
  go_wp2_with fail
  refine (ref03_Read (h.below ((Below.refl _ _).alloc (Nat.le_refl _) _)) i (by rw [← HN.out]; omega)).mono ?_
  rintro e w' ⟨rfl, rfl⟩
  rw [ET.out]
  go_wp2_with fail
  refine (ref02_Read_at (h.below (Below.alloc ((Below.refl _ _).alloc (Nat.le_refl _) _) (by simp) _)) _ (i + m) (by omega) (by rw [← HN.out]; omega)).mono ?_
  rintro e w' ⟨rfl, rfl⟩
  rw [EV.out]
  go_wp2
  refine bodyPost_ret (v := .tuple #[Rec.none.val, .int .i64 c]) ?_ rfl ⟨rfl, ?_⟩
  · simp [results, Tryz.results64, go_sem, Rec.none, Rec.val]
  · (repeat (first | with_reducible exact Below.refl _ _ | with_reducible refine Below.setCell ?_ (by first | omega | (simp; omega) | (simp; done)) _ | with_reducible refine Below.alloc ?_ (by first | omega | (simp; omega) | (simp; done)) _ | with_reducible refine below_drewN ?_ _ | with_reducible refine Below.drew ?_))
set_option maxRecDepth 100000 in
theorem r5_0_short {w : World} {a : Option Addr} {cap n : Nat} {l : List UInt8} (h : Bytes w (.slice a n cap) l) (HN : Hid (n = l.length)) (hlen : n ≤ 140737488355328) (i : Nat) (hi : i < n) (k m : Nat) (ET : Hid (tread (l.drop i) = (k, 0, m, 0))) (hm : m ≤ 10) (him : i + m ≤ n) (m' : Nat) (x : Nat) (EV : Hid (vread (l.drop (i + m)) = (x, m', 0)))  (hm' : n - (i + m) < m')  :
    Calls Tryz.prog 64 #[.slice a n cap, .int .i64 i] w fun e w' => e = .returned (.tuple #[Rec.none.val, .int .i64 3]) ∧ Below w.heap.size w w' := by
  go_enter Tryz.func64, Tryz.ntmps64
  go_wp2_with fail
  refine (ref03_Read (h.below ((Below.refl _ _).alloc (Nat.le_refl _) _)) i (by rw [← HN.out]; omega)).mono ?_
  rintro e w' ⟨rfl, rfl⟩
  rw [ET.out]
  go_wp2_with fail
  refine (ref02_Read_at (h.below (Below.alloc ((Below.refl _ _).alloc (Nat.le_refl _) _) (by simp) _)) _ (i + m) (by omega) (by rw [← HN.out]; omega)).mono ?_
  rintro e w' ⟨rfl, rfl⟩
  rw [EV.out]
  go_wp2
  refine bodyPost_ret (v := .tuple #[Rec.none.val, .int .i64 3]) ?_ rfl ⟨rfl, ?_⟩
  · simp [results, Tryz.results64, go_sem, Rec.none, Rec.val]
  · (repeat (first | with_reducible exact Below.refl _ _ | with_reducible refine Below.setCell ?_ (by first | omega | (simp; omega) | (simp; done)) _ | with_reducible refine Below.alloc ?_ (by first | omega | (simp; omega) | (simp; done)) _ | with_reducible refine below_drewN ?_ _ | with_reducible refine Below.drew ?_))
set_option maxRecDepth 100000 in
theorem r5_0_ok {w : World} {a : Option Addr} {cap n : Nat} {l : List UInt8} (h : Bytes w (.slice a n cap) l) (HN : Hid (n = l.length)) (hlen : n ≤ 140737488355328) (i : Nat) (hi : i < n) (k m : Nat) (ET : Hid (tread (l.drop i) = (k, 0, m, 0))) (hm : m ≤ 10) (him : i + m ≤ n) (m' : Nat) (x : Nat) (EV : Hid (vread (l.drop (i + m)) = (x, m', 0)))  (hm' : m' ≤ n - (i + m)) :
    Calls Tryz.prog 64 #[.slice a n cap, .int .i64 i] w fun e w' => e = .returned (.tuple #[(⟨k, 0, i, i + m, i + m + m'⟩ : Rec).val, .int .i64 0]) ∧ Below w.heap.size w w' := by
  go_enter Tryz.func64, Tryz.ntmps64
  go_wp2_with fail
  refine (ref03_Read (h.below ((Below.refl _ _).alloc (Nat.le_refl _) _)) i (by rw [← HN.out]; omega)).mono ?_
  rintro e w' ⟨rfl, rfl⟩
  rw [ET.out]
  go_wp2_with fail
  refine (ref02_Read_at (h.below (Below.alloc ((Below.refl _ _).alloc (Nat.le_refl _) _) (by simp) _)) _ (i + m) (by omega) (by rw [← HN.out]; omega)).mono ?_
  rintro e w' ⟨rfl, rfl⟩
  rw [EV.out]
  go_wp2
  refine bodyPost_ret (v := .tuple #[(⟨k, 0, i, i + m, i + m + m'⟩ : Rec).val, .int .i64 0]) ?_ rfl ⟨rfl, ?_⟩
  · simp [results, Tryz.results64, go_sem, Rec.val]
  · (repeat (first | with_reducible exact Below.refl _ _ | with_reducible refine Below.setCell ?_ (by first | omega | (simp; omega) | (simp; done)) _ | with_reducible refine Below.alloc ?_ (by first | omega | (simp; omega) | (simp; done)) _ | with_reducible refine below_drewN ?_ _ | with_reducible refine Below.drew ?_))
set_option maxRecDepth 100000 in
theorem r5_2_err {w : World} {a : Option Addr} {cap n : Nat} {l : List UInt8} (h : Bytes w (.slice a n cap) l) (HN : Hid (n = l.length)) (hlen : n ≤ 140737488355328) (i : Nat) (hi : i < n) (k m : Nat) (ET : Hid (tread (l.drop i) = (k, 2, m, 0))) (hm : m ≤ 10) (him : i + m ≤ n) (a' m' c : Nat) (EV : Hid (vread (l.drop (i + m)) = (m', a', c))) (hc0 : ((c : Int) == 0) = false) :
    Calls Tryz.prog 64 #[.slice a n cap, .int .i64 i] w fun e w' => e = .returned (.tuple #[Rec.none.val, .int .i64 c]) ∧ Below w.heap.size w w' := by
  go_enter Tryz.func64, Tryz.ntmps64
  go_wp2_with fail
  refine (ref03_Read (h.below ((Below.refl _ _).alloc (Nat.le_refl _) _)) i (by rw [← HN.out]; omega)).mono ?_
  rintro e w' ⟨rfl, rfl⟩
  rw [ET.out]
  go_wp2_with fail
  refine (ref02_Read_at (h.below (Below.alloc ((Below.refl _ _).alloc (Nat.le_refl _) _) (by simp) _)) _ (i + m) (by omega) (by rw [← HN.out]; omega)).mono ?_
  rintro e w' ⟨rfl, rfl⟩
  rw [EV.out]
  go_wp2
  refine bodyPost_ret (v := .tuple #[Rec.none.val, .int .i64 c]) ?_ rfl ⟨rfl, ?_⟩
  · simp [results, Tryz.results64, go_sem, Rec.none, Rec.val]
  · (repeat (first | with_reducible exact Below.refl _ _ | with_reducible refine Below.setCell ?_ (by first | omega | (simp; omega) | (simp; done)) _ | with_reducible refine Below.alloc ?_ (by first | omega | (simp; omega) | (simp; done)) _ | with_reducible refine below_drewN ?_ _ | with_reducible refine Below.drew ?_))
set_option maxRecDepth 100000 in
theorem r5_2_short {w : World} {a : Option Addr} {cap n : Nat} {l : List UInt8} (h : Bytes w (.slice a n cap) l) (HN : Hid (n = l.length)) (hlen : n ≤ 140737488355328) (i : Nat) (hi : i < n) (k m : Nat) (ET : Hid (tread (l.drop i) = (k, 2, m, 0))) (hm : m ≤ 10) (him : i + m ≤ n) (a' m' : Nat) (EV : Hid (vread (l.drop (i + m)) = (m', a', 0))) (ha : i + m + a' ≤ n) (ha' : a' ≤ 10) (hm' : n - (i + m + a') < m')  :
    Calls Tryz.prog 64 #[.slice a n cap, .int .i64 i] w fun e w' => e = .returned (.tuple #[Rec.none.val, .int .i64 3]) ∧ Below w.heap.size w w' := by
  go_enter Tryz.func64, Tryz.ntmps64
  go_wp2_with fail
  refine (ref03_Read (h.below ((Below.refl _ _).alloc (Nat.le_refl _) _)) i (by rw [← HN.out]; omega)).mono ?_
  rintro e w' ⟨rfl, rfl⟩
  rw [ET.out]
  go_wp2_with fail
  refine (ref02_Read_at (h.below (Below.alloc ((Below.refl _ _).alloc (Nat.le_refl _) _) (by simp) _)) _ (i + m) (by omega) (by rw [← HN.out]; omega)).mono ?_
  rintro e w' ⟨rfl, rfl⟩
  rw [EV.out]
  go_wp2
  refine bodyPost_ret (v := .tuple #[Rec.none.val, .int .i64 3]) ?_ rfl ⟨rfl, ?_⟩
  · simp [results, Tryz.results64, go_sem, Rec.none, Rec.val]
  · (repeat (first | with_reducible exact Below.refl _ _ | with_reducible refine Below.setCell ?_ (by first | omega | (simp; omega) | (simp; done)) _ | with_reducible refine Below.alloc ?_ (by first | omega | (simp; omega) | (simp; done)) _ | with_reducible refine below_drewN ?_ _ | with_reducible refine Below.drew ?_))
set_option maxRecDepth 100000 in
theorem r5_2_ok {w : World} {a : Option Addr} {cap n : Nat} {l : List UInt8} (h : Bytes w (.slice a n cap) l) (HN : Hid (n = l.length)) (hlen : n ≤ 140737488355328) (i : Nat) (hi : i < n) (k m : Nat) (ET : Hid (tread (l.drop i) = (k, 2, m, 0))) (hm : m ≤ 10) (him : i + m ≤ n) (a' m' : Nat) (EV : Hid (vread (l.drop (i + m)) = (m', a', 0))) (ha : i + m + a' ≤ n) (ha' : a' ≤ 10) (hm' : m' ≤ n - (i + m + a')) :
    Calls Tryz.prog 64 #[.slice a n cap, .int .i64 i] w fun e w' => e = .returned (.tuple #[(⟨k, 2, i, i + m + a', i + m + a' + m'⟩ : Rec).val, .int .i64 0]) ∧ Below w.heap.size w w' := by
  go_enter Tryz.func64, Tryz.ntmps64
  go_wp2_with fail
  refine (ref03_Read (h.below ((Below.refl _ _).alloc (Nat.le_refl _) _)) i (by rw [← HN.out]; omega)).mono ?_
  rintro e w' ⟨rfl, rfl⟩
  rw [ET.out]
  go_wp2_with fail
  refine (ref02_Read_at (h.below (Below.alloc ((Below.refl _ _).alloc (Nat.le_refl _) _) (by simp) _)) _ (i + m) (by omega) (by rw [← HN.out]; omega)).mono ?_
  rintro e w' ⟨rfl, rfl⟩
  rw [EV.out]
  go_wp2
  refine bodyPost_ret (v := .tuple #[(⟨k, 2, i, i + m + a', i + m + a' + m'⟩ : Rec).val, .int .i64 0]) ?_ rfl ⟨rfl, ?_⟩
  · simp [results, Tryz.results64, go_sem, Rec.val]
  · (repeat (first | with_reducible exact Below.refl _ _ | with_reducible refine Below.setCell ?_ (by first | omega | (simp; omega) | (simp; done)) _ | with_reducible refine Below.alloc ?_ (by first | omega | (simp; omega) | (simp; done)) _ | with_reducible refine below_drewN ?_ _ | with_reducible refine Below.drew ?_))
set_option maxRecDepth 100000 in
theorem r5_1_short {w : World} {a : Option Addr} {cap n : Nat} {l : List UInt8} (h : Bytes w (.slice a n cap) l) (HN : Hid (n = l.length)) (hlen : n ≤ 140737488355328) (i : Nat) (hi : i < n) (k m : Nat) (ET : Hid (tread (l.drop i) = (k, 1, m, 0))) (hm : m ≤ 10) (him : i + m ≤ n) (hm' : n - (i + m) < 8) :
    Calls Tryz.prog 64 #[.slice a n cap, .int .i64 i] w fun e w' => e = .returned (.tuple #[Rec.none.val, .int .i64 3]) ∧ Below w.heap.size w w' := by
  go_enter Tryz.func64, Tryz.ntmps64
  go_wp2_with fail
  refine (ref03_Read (h.below ((Below.refl _ _).alloc (Nat.le_refl _) _)) i (by rw [← HN.out]; omega)).mono ?_
  rintro e w' ⟨rfl, rfl⟩
  rw [ET.out]
  go_wp2
  refine bodyPost_ret (v := .tuple #[Rec.none.val, .int .i64 3]) ?_ rfl ⟨rfl, ?_⟩
  · simp [results, Tryz.results64, go_sem, Rec.none, Rec.val]
  · (repeat (first | with_reducible exact Below.refl _ _ | with_reducible refine Below.setCell ?_ (by first | omega | (simp; omega) | (simp; done)) _ | with_reducible refine Below.alloc ?_ (by first | omega | (simp; omega) | (simp; done)) _ | with_reducible refine below_drewN ?_ _ | with_reducible refine Below.drew ?_))
set_option maxRecDepth 100000 in
theorem r5_1_ok {w : World} {a : Option Addr} {cap n : Nat} {l : List UInt8} (h : Bytes w (.slice a n cap) l) (HN : Hid (n = l.length)) (hlen : n ≤ 140737488355328) (i : Nat) (hi : i < n) (k m : Nat) (ET : Hid (tread (l.drop i) = (k, 1, m, 0))) (hm : m ≤ 10) (him : i + m ≤ n) (hm' : 8 ≤ n - (i + m)) :
    Calls Tryz.prog 64 #[.slice a n cap, .int .i64 i] w fun e w' => e = .returned (.tuple #[(⟨k, 1, i, i + m, i + m + 8⟩ : Rec).val, .int .i64 0]) ∧ Below w.heap.size w w' := by
  go_enter Tryz.func64, Tryz.ntmps64
  go_wp2_with fail
  refine (ref03_Read (h.below ((Below.refl _ _).alloc (Nat.le_refl _) _)) i (by rw [← HN.out]; omega)).mono ?_
  rintro e w' ⟨rfl, rfl⟩
  rw [ET.out]
  go_wp2
  refine bodyPost_ret (v := .tuple #[(⟨k, 1, i, i + m, i + m + 8⟩ : Rec).val, .int .i64 0]) ?_ rfl ⟨rfl, ?_⟩
  · simp [results, Tryz.results64, go_sem, Rec.val]
  · (repeat (first | with_reducible exact Below.refl _ _ | with_reducible refine Below.setCell ?_ (by first | omega | (simp; omega) | (simp; done)) _ | with_reducible refine Below.alloc ?_ (by first | omega | (simp; omega) | (simp; done)) _ | with_reducible refine below_drewN ?_ _ | with_reducible refine Below.drew ?_))
set_option maxRecDepth 100000 in
theorem r5_5_short {w : World} {a : Option Addr} {cap n : Nat} {l : List UInt8} (h : Bytes w (.slice a n cap) l) (HN : Hid (n = l.length)) (hlen : n ≤ 140737488355328) (i : Nat) (hi : i < n) (k m : Nat) (ET : Hid (tread (l.drop i) = (k, 5, m, 0))) (hm : m ≤ 10) (him : i + m ≤ n) (hm' : n - (i + m) < 4) :
    Calls Tryz.prog 64 #[.slice a n cap, .int .i64 i] w fun e w' => e = .returned (.tuple #[Rec.none.val, .int .i64 3]) ∧ Below w.heap.size w w' := by
  go_enter Tryz.func64, Tryz.ntmps64
  go_wp2_with fail
  refine (ref03_Read (h.below ((Below.refl _ _).alloc (Nat.le_refl _) _)) i (by rw [← HN.out]; omega)).mono ?_
  rintro e w' ⟨rfl, rfl⟩
  rw [ET.out]
  go_wp2
  refine bodyPost_ret (v := .tuple #[Rec.none.val, .int .i64 3]) ?_ rfl ⟨rfl, ?_⟩
  · simp [results, Tryz.results64, go_sem, Rec.none, Rec.val]
  · (repeat (first | with_reducible exact Below.refl _ _ | with_reducible refine Below.setCell ?_ (by first | omega | (simp; omega) | (simp; done)) _ | with_reducible refine Below.alloc ?_ (by first | omega | (simp; omega) | (simp; done)) _ | with_reducible refine below_drewN ?_ _ | with_reducible refine Below.drew ?_))
set_option maxRecDepth 100000 in
theorem r5_5_ok {w : World} {a : Option Addr} {cap n : Nat} {l : List UInt8} (h : Bytes w (.slice a n cap) l) (HN : Hid (n = l.length)) (hlen : n ≤ 140737488355328) (i : Nat) (hi : i < n) (k m : Nat) (ET : Hid (tread (l.drop i) = (k, 5, m, 0))) (hm : m ≤ 10) (him : i + m ≤ n) (hm' : 4 ≤ n - (i + m)) :
    Calls Tryz.prog 64 #[.slice a n cap, .int .i64 i] w fun e w' => e = .returned (.tuple #[(⟨k, 5, i, i + m, i + m + 4⟩ : Rec).val, .int .i64 0]) ∧ Below w.heap.size w w' := by
  go_enter Tryz.func64, Tryz.ntmps64
  go_wp2_with fail
  refine (ref03_Read (h.below ((Below.refl _ _).alloc (Nat.le_refl _) _)) i (by rw [← HN.out]; omega)).mono ?_
  rintro e w' ⟨rfl, rfl⟩
  rw [ET.out]
  go_wp2
  refine bodyPost_ret (v := .tuple #[(⟨k, 5, i, i + m, i + m + 4⟩ : Rec).val, .int .i64 0]) ?_ rfl ⟨rfl, ?_⟩
  · simp [results, Tryz.results64, go_sem, Rec.val]
  · (repeat (first | with_reducible exact Below.refl _ _ | with_reducible refine Below.setCell ?_ (by first | omega | (simp; omega) | (simp; done)) _ | with_reducible refine Below.alloc ?_ (by first | omega | (simp; omega) | (simp; done)) _ | with_reducible refine below_drewN ?_ _ | with_reducible refine Below.drew ?_))
theorem ref05_Next {w : World} {v : Value} {l : List UInt8} (h : Bytes w v l) (i : Nat) :
    Calls Tryz.prog 64 #[v, .int .i64 i] w fun e w' => e = .returned (.tuple #[(rnext l i).1.val, .int .i64 (rnext l i).2]) ∧ Below w.heap.size w w' := by
  obtain ⟨hlen, a, cap, rfl, -, -, -, -⟩ := h.open
  rcases rnext_cases l i with ⟨hi, er⟩ | ⟨hi, c, et, hc, er⟩ | ⟨hi, k, x, m, et, h1, h2, h3, h4, h4', h5, hcs⟩
  · rw [er]; exact r5_out h rfl hlen i hi
  · rw [er]; exact r5_tag h rfl hlen i hi c et (by simp; omega)
  · rcases h5 with rfl | rfl | rfl | rfl
    · rcases hcs with ⟨a', m', c, es, hc, ha, hm', er⟩ | ⟨a', m', es, ha, ha', hm', hlt, er⟩ | ⟨a', m', es, ha, ha', hm', er⟩
      · obtain ⟨rfl, x, ev⟩ := rsize0 _ _ _ _ es
        rw [er]; exact r5_0_err h rfl hlen i hi k m et h2 h3 0 m' c x ev (by simp; omega)
      · obtain ⟨rfl, x, ev⟩ := rsize0 _ _ _ _ es
        rw [er]; exact r5_0_short h rfl hlen i hi k m et h2 h3 m' x ev (by omega)
      · obtain ⟨rfl, x, ev⟩ := rsize0 _ _ _ _ es
        rw [er]; exact r5_0_ok h rfl hlen i hi k m et h2 h3 m' x ev (by omega)
    · rcases hcs with ⟨a', m', c, es, hc, ha, hm', er⟩ | ⟨a', m', es, ha, ha', hm', hlt, er⟩ | ⟨a', m', es, ha, ha', hm', er⟩
      · obtain ⟨rfl, rfl, rfl⟩ := rsize1 _ _ _ _ es; omega
      · obtain ⟨rfl, rfl, _⟩ := rsize1 _ _ _ _ es
        rw [er]; exact r5_1_short h rfl hlen i hi k m et h2 h3 (by omega)
      · obtain ⟨rfl, rfl, _⟩ := rsize1 _ _ _ _ es
        rw [er]; exact r5_1_ok h rfl hlen i hi k m et h2 h3 (by omega)
    · rcases hcs with ⟨a', m', c, es, hc, ha, hm', er⟩ | ⟨a', m', es, ha, ha', hm', hlt, er⟩ | ⟨a', m', es, ha, ha', hm', er⟩
      · have ev := rsize2 _ _ _ _ es
        rw [er]; exact r5_2_err h rfl hlen i hi k m et h2 h3 a' m' c ev (by simp; omega)
      · have ev := rsize2 _ _ _ _ es
        rw [er]; exact r5_2_short h rfl hlen i hi k m et h2 h3 a' m' ev ha ha' hlt
      · have ev := rsize2 _ _ _ _ es
        rw [er]; exact r5_2_ok h rfl hlen i hi k m et h2 h3 a' m' ev ha ha' hm'
    · rcases hcs with ⟨a', m', c, es, hc, ha, hm', er⟩ | ⟨a', m', es, ha, ha', hm', hlt, er⟩ | ⟨a', m', es, ha, ha', hm', er⟩
      · obtain ⟨rfl, rfl, rfl⟩ := rsize5 _ _ _ _ es; omega
      · obtain ⟨rfl, rfl, _⟩ := rsize5 _ _ _ _ es
        rw [er]; exact r5_5_short h rfl hlen i hi k m et h2 h3 (by omega)
      · obtain ⟨rfl, rfl, _⟩ := rsize5 _ _ _ _ es
        rw [er]; exact r5_5_ok h rfl hlen i hi k m et h2 h3 (by omega)
end Go.Proofs.YtbcpeckmnmhfhaaGreat
