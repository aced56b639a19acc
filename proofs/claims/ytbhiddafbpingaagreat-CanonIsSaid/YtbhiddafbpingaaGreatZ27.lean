/- Plain laws: the weight of the meaning of bytes (tof_weight). No condition. tree.Fits, tree.right, tree.Right: fitsB, rightB, for each depth. The meaning's weight is at most 2^40. -/
import Derived.Test.YtbhiddafbpingaaGreatZ23
import Derived.Test.YtbhiddafbpingaaGreatZ26
namespace Go.Proofs.YtbhiddafbpingaaGreat
open Go.RowKit

def vsize (x : VW) : Nat := x.r.to - x.r.start
def vsum (l : List VW) : Nat := (l.map vsize).sum
/-- a view's value is shorter than its record -/
def Thin (x : VW) : Prop := 1 + (x.r.to - x.r.at') ≤ vsize x
theorem vall_sum (fs : List Fld) (l : List UInt8) : ∀ (n i : Nat), i ≤ l.length → vsum (vallGo fs l n i).1 + i ≤ l.length ∧ ∀ x ∈ (vallGo fs l n i).1, Thin x
  | 0, i, hi => by simp [vallGo, vsum]; omega
  | n + 1, i, hi => by
    rw [vallGo]
    by_cases h : l.length ≤ i
    · rw [if_pos h]; simp [vsum]; omega
    rw [if_neg h]
    rcases vlook_cases fs l i with ⟨c, hc, e, -⟩ | ⟨r, h1, h2, h3, h4, -, hcase⟩
    · rw [e, if_pos hc]; simp [vsum]; omega
    · obtain ⟨k, run, e⟩ : ∃ k run, vlook fs l i = (r, k, run, 0) := by
        rcases hcase with e | ⟨k, run, -, e, -⟩
        · exact ⟨_, _, e⟩
        · exact ⟨_, _, e⟩
      rw [e, if_neg (by simp)]
      simp only
      obtain ⟨g1, g2⟩ := vall_sum fs l n r.to h4
      split
      · simp [vsum]; omega
      · refine ⟨?_, fun x hx => ?_⟩
        · unfold vsum at g1 ⊢
          rw [List.map_cons, List.sum_cons]
          have : vsize ⟨r, k, run⟩ = r.to - r.start := rfl
          omega
        · rcases List.mem_cons.1 hx with rfl | hx
          · unfold Thin vsize; simp only; omega
          · exact g2 x hx
theorem vsum_app (a b : List VW) : vsum (a ++ b) = vsum a + vsum b := by unfold vsum; rw [List.map_append, List.sum_append]
/-- a field's records, and the unknown ones, are no more than all -/
theorem vsum_split : ∀ (all : List VW) (ords : List Int), ords.Nodup → (∀ i ∈ ords, 0 ≤ i) → (ords.map fun i => vsum (viewsOf all i)).sum + vsum (all.filter fun x => decide (x.k < 0)) ≤ vsum all
  | [], ords, _, _ => by
    have : (ords.map fun i => vsum (viewsOf [] i)).sum = 0 := by
      rw [List.sum_eq_zero_iff_forall_eq_nat]
      intro y hy
      obtain ⟨i, -, rfl⟩ := List.mem_map.1 hy
      rfl
    rw [this]; simp [vsum]
  | x :: r, ords, hn, h0 => by
    have ih := vsum_split r ords hn h0
    have hx : (ords.map fun i => vsum (viewsOf (x :: r) i)).sum ≤ (ords.map fun i => vsum (viewsOf r i)).sum + (if x.k ∈ ords then vsize x else 0) := by
      clear ih h0
      induction ords with
      | nil => simp
      | cons i t iht =>
        rw [List.nodup_cons] at hn
        have := iht hn.2
        have hv : vsum (viewsOf (x :: r) i) = (if x.k = i then vsize x else 0) + vsum (viewsOf r i) := by
          unfold viewsOf
          rw [List.filter_cons]
          by_cases he : x.k = i
          · rw [if_pos (by simpa using he), if_pos he]; unfold vsum; rw [List.map_cons, List.sum_cons]
          · rw [if_neg (by simpa using he), if_neg he, Nat.zero_add]
        rw [List.map_cons, List.sum_cons, List.map_cons, List.sum_cons, hv]
        by_cases he : x.k = i
        · have hnt : x.k ∉ t := by rw [he]; exact hn.1
          rw [if_neg hnt] at this
          rw [if_pos he, if_pos (by simp [he])]
          omega
        · rw [if_neg he]
          by_cases ht : x.k ∈ t
          · rw [if_pos ht] at this
            rw [if_pos (by simp [ht])]; omega
          · rw [if_neg ht] at this
            rw [if_neg (by simp [he, ht])]; omega
    have hs : vsum (x :: r) = vsize x + vsum r := by unfold vsum; rw [List.map_cons, List.sum_cons]
    rw [List.filter_cons]
    by_cases hk : x.k < 0
    · rw [if_pos (by simpa using hk)]
      have hno : x.k ∉ ords := fun hm => by have := h0 _ hm; omega
      rw [if_neg hno] at hx
      have : vsum (x :: r.filter fun x => decide (x.k < 0)) = vsize x + vsum (r.filter fun x => decide (x.k < 0)) := by unfold vsum; rw [List.map_cons, List.sum_cons]
      omega
    · rw [if_neg (by simpa using hk)]
      by_cases hm : x.k ∈ ords
      · rw [if_pos hm] at hx; omega
      · rw [if_neg hm] at hx; omega

theorem vbytes_len (l : List UInt8) (x : VW) : (vbytes l x).length ≤ x.r.to - x.r.at' := by unfold vbytes part; rw [List.length_take]; omega
theorem flat_sum {α : Type} (g : VW → List α) (W : List α → Nat) (h0 : W [] = 0) (ha : ∀ a b, W (a ++ b) = W a + W b) : ∀ (xs : List VW), (∀ x ∈ xs, W (g x) ≤ vsize x) → W (xs.flatMap g) ≤ vsum xs
  | [], _ => by rw [List.flatMap_nil, h0]; exact Nat.zero_le _
  | x :: r, h => by
    have ih := flat_sum g W h0 ha r fun y hy => h y (by simp [hy])
    have h1 := h x (by simp)
    rw [List.flatMap_cons, ha]
    unfold vsum at ih ⊢
    rw [List.map_cons, List.sum_cons]
    omega
theorem twt_nil : twt [] = 0 := rfl
theorem twt_app (a b : List (List UInt8)) : twt (a ++ b) = twt a + twt b := by unfold twt; rw [List.map_append, List.sum_append]
theorem counts_sum (f : Fld) (xs : List VW) : vsum (counts f xs) ≤ vsum xs := by
  unfold counts
  split
  · exact Nat.le_refl _
  · unfold lastOf
    conv => rhs; rw [← List.take_append_drop (xs.length - 1) xs, vsum_app]
    omega
theorem piece_words {f : Fld} {l : List UInt8} {x : VW} (h : Thin x) : (pieceW f l x).length ≤ vsize x := by
  unfold Thin at h
  unfold pieceW
  split
  · unfold runWords
    split
    · have h1 := rpieces_len (kwire f.kind) _ (vbytes l x) (Nat.le_refl _)
      have h2 := vbytes_len l x
      simp only [kwords, List.length_map]
      omega
    · simp
  · split
    · simp; omega
    · simp
theorem piece_texts {f : Fld} {l : List UInt8} {x : VW} (h : Thin x) : twt (pieceB f l x) ≤ vsize x := by
  unfold Thin at h
  unfold pieceB
  split
  · rw [twt_nil]; omega
  · have h2 := vbytes_len l x
    simp [twt]; omega
theorem vsum_pos {xs : List VW} (ht : ∀ x ∈ xs, Thin x) : xs.length ≤ vsum xs := by
  induction xs with
  | nil => simp
  | cons x r ih =>
    have h1 := ht x (by simp)
    have h2 := ih fun y hy => ht y (by simp [hy])
    unfold Thin at h1
    unfold vsum at h2 ⊢
    rw [List.map_cons, List.sum_cons, List.length_cons]
    omega
/-- a field's value weighs at most four times its records -/
theorem fieldV_weight {α : Type} {F : α → Nat} {sub : Int → List UInt8 → List α} {f : Fld} {l : List UInt8} {xs : List VW} (hrun : f.kind = 17 → ∀ x ∈ xs, x.run = false) (ht : ∀ x ∈ xs, Thin x)
    (hs : ∀ b, ((sub f.of b).map F).sum ≤ 1 + 4 * b.length) (hm : 0 < many (fieldV sub f l xs)) : vwt F (fieldV sub f l xs) ≤ 4 * vsum xs := by
  have hne : xs ≠ [] := by
    rintro rfl
    unfold many fieldV counts lastOf at hm
    simp at hm
  have hpos := vsum_pos ht
  have hl : 0 < xs.length := List.length_pos_iff.2 hne
  have hc := counts_sum f xs
  have htc : ∀ x ∈ counts f xs, Thin x := fun x hx => ht x (counts_sub f xs hx)
  have hw := flat_sum (pieceW f l) List.length rfl (fun a b => List.length_append) (counts f xs) fun x hx => piece_words (htc x hx)
  have hx := flat_sum (pieceB f l) twt twt_nil twt_app (counts f xs) fun x hx => piece_texts (htc x hx)
  unfold vwt fieldV
  simp only
  by_cases h17 : f.kind = 17
  · rw [if_pos h17, if_pos h17, twt_nil]
    have hw0 : ((counts f xs).flatMap (pieceW f l)) = [] := by
      refine flat_nil _ _ fun x hx => ?_
      unfold pieceW
      rw [if_neg (by rw [hrun h17 x (counts_sub f xs hx)]; decide), if_neg (by rw [h17]; decide)]
    rw [hw0]
    have hsum : ∀ ys : List VW, (∀ x ∈ ys, Thin x) → ((ys.flatMap fun x => sub f.of (vbytes l x)).map F).sum + ys.length ≤ 4 * vsum ys := by
      intro ys
      induction ys with
      | nil => simp [vsum]
      | cons x r ih =>
        intro hy
        have h1 := hy x (by simp)
        have h2 := ih fun y h => hy y (by simp [h])
        have h3 := hs (vbytes l x)
        have h4 := vbytes_len l x
        unfold Thin at h1
        unfold vsum at h2 ⊢
        rw [List.flatMap_cons, List.map_append, List.sum_append, List.length_cons, List.map_cons, List.sum_cons]
        omega
    have hlen : ∀ ys : List VW, (∀ x ∈ ys, Thin x) → (ys.flatMap (vbytes l)).length + ys.length ≤ vsum ys := by
      intro ys
      induction ys with
      | nil => simp [vsum]
      | cons x r ih =>
        intro hy
        have h1 := hy x (by simp)
        have h2 := ih fun y h => hy y (by simp [h])
        have h4 := vbytes_len l x
        unfold Thin at h1
        unfold vsum at h2 ⊢
        rw [List.flatMap_cons, List.length_append, List.length_cons, List.map_cons, List.sum_cons]
        omega
    split
    · have := hsum xs ht
      simp only [List.length_nil]; omega
    · have h1 := hs (xs.flatMap (vbytes l))
      have h2 := hlen xs ht
      simp only [List.length_nil]; omega
  · rw [if_neg h17, if_neg h17]
    have hboth : ((counts f xs).flatMap (pieceW f l)).length + twt ((counts f xs).flatMap (pieceB f l)) ≤ 2 * vsum xs := by omega
    simp only [List.map_nil, List.sum_nil]
    omega

theorem sortedF_nodup (fs : List Fld) : (sortedF fs).Nodup := by
  have h := (sortF_ok fs fs.length).2
  refine List.Pairwise.imp (fun {a b} hab => ?_) h
  rintro rfl
  exact Ahead.asymm _ _ hab hab
theorem sum_filter_le {α : Type} (F G : α → Nat) (p : α → Bool) : ∀ (l : List α), (∀ x ∈ l, p x = true → F x ≤ G x) → ((l.filter p).map F).sum ≤ (l.map G).sum
  | [], _ => by simp
  | x :: r, h => by
    have ih := sum_filter_le F G p r fun y hy => h y (by simp [hy])
    rw [List.filter_cons, List.map_cons, List.sum_cons]
    by_cases hp : p x = true
    · rw [if_pos hp, List.map_cons, List.sum_cons]
      have := h x (by simp) hp
      omega
    · rw [if_neg hp]; omega
theorem vall_run (fs : List Fld) (l : List UInt8) : ∀ (n i : Nat), ∀ x ∈ (vallGo fs l n i).1, ∀ k : Nat, x.k = k → x.run = true → knumber (fs.getD k .zero).kind = true
  | 0, i => by simp [vallGo]
  | n + 1, i => by
    rw [vallGo]
    by_cases h : l.length ≤ i
    · rw [if_pos h]; simp
    rw [if_neg h]
    by_cases hc : (vlook fs l i).2.2.2 = 0
    · rw [if_neg (by omega)]
      have ih := vall_run fs l n (vlook fs l i).1.to
      simp only
      split
      · simp
      · intro x hx
        rcases List.mem_cons.1 hx with rfl | hx
        · intro k hk hr
          simp only at hk hr
          rcases vlook_cases fs l i with ⟨c, hc', e, -⟩ | ⟨r, h1, h2, h3, h4, -, e | ⟨k', run, -, e, -, h6, -⟩⟩
          · rw [e] at hc; exact absurd hc hc'
          · rw [e] at hr; simp at hr
          · rw [e] at hk hr
            simp only at hk hr
            obtain rfl : k' = k := by omega
            exact (h6 hr).2.1
        · exact ih x hx
    · rw [if_pos hc]; simp
theorem sum_le_map {α : Type} (F G : α → Nat) : ∀ (l : List α), (∀ x ∈ l, F x ≤ G x) → (l.map F).sum ≤ (l.map G).sum
  | [], _ => by simp
  | x :: r, h => by
    have ih := sum_le_map F G r fun y hy => h y (by simp [hy])
    have := h x (by simp)
    rw [List.map_cons, List.sum_cons, List.map_cons, List.sum_cons]
    omega
theorem sum_four (g : Int → Nat) : ∀ (l : List Int), (l.map fun i => 4 * g i).sum = 4 * (l.map g).sum
  | [] => by simp
  | x :: r => by rw [List.map_cons, List.sum_cons, sum_four g r, List.map_cons, List.sum_cons]; omega
theorem msgOf_weight {α : Type} (F : α → Nat) {sub : Int → List UInt8 → List α} (fs : List Fld) (l : List UInt8) (hs : ∀ o b, ((sub o b).map F).sum ≤ 1 + 4 * b.length) :
    twt (msgOf sub fs l).unk + ((msgOf sub fs l).vals.map (vwt F)).sum ≤ 4 * l.length := by
  obtain ⟨h1, h2⟩ := vall_sum fs l l.length 0 (Nat.zero_le _)
  have h3 := vall_run fs l l.length 0
  have h4 := vsum_split (vall fs l).1 (sortedF fs) (sortedF_nodup fs) (fun i hi => (sortedF_mem hi).1)
  have hall : vsum (vall fs l).1 ≤ l.length := by unfold vall; omega
  have hunk : twt (msgOf sub fs l).unk ≤ 2 * vsum ((vall fs l).1.filter fun x => decide (x.k < 0)) := by
    unfold msgOf twt vsum
    simp only [List.map_map]
    have : ∀ (ys : List VW), (∀ x ∈ ys, Thin x) → (ys.map ((fun t => 1 + t.length) ∘ fun x => part l x.r.start x.r.to)).sum ≤ 2 * (ys.map vsize).sum := by
      intro ys
      induction ys with
      | nil => simp
      | cons x r ih =>
        intro hy
        have g1 := hy x (by simp)
        have g2 := ih fun y h => hy y (by simp [h])
        have g3 : (part l x.r.start x.r.to).length ≤ vsize x := by unfold part vsize; rw [List.length_take]; omega
        unfold Thin at g1
        rw [List.map_cons, List.sum_cons, List.map_cons, List.sum_cons]
        simp only [Function.comp]
        omega
    exact this _ fun x hx => h2 x (List.mem_filter.1 hx).1
  have hval : ((msgOf sub fs l).vals.map (vwt F)).sum ≤ 4 * ((sortedF fs).map fun i => vsum (viewsOf (vall fs l).1 i)).sum := by
    rw [← sum_four]
    unfold msgOf
    simp only
    rw [List.filter_map, List.map_map]
    refine sum_filter_le _ _ _ _ fun i hi hp => ?_
    simp only [Function.comp] at hp ⊢
    have hb := sortedF_mem hi
    obtain ⟨q, rfl⟩ : ∃ q : Nat, i = q := ⟨i.toNat, by omega⟩
    simp only [Int.toNat_natCast] at hp ⊢
    refine fieldV_weight (fun h17 x hx => ?_) (fun x hx => h2 x (viewsOf_mem hx).1) (fun b => hs _ b) (of_decide_eq_true hp)
    cases hr : x.run with
    | false => rfl
    | true =>
      have := h3 x (viewsOf_mem hx).1 q (viewsOf_mem hx).2 hr
      rw [h17] at this
      simp [knumber] at this
  omega
/-- the meaning of bytes weighs at most four times as much -/
theorem tof_weight (s : List Mes) : ∀ (d m : Nat) (l : List UInt8), mwt (d + 1) (tof s d m l) ≤ 1 + 4 * l.length
  | 0, m, l => by
    have := msgOf_weight (mwt 0) (sub := tsub s 0) (s.getD m .zero).fields l (fun o b => by show ([] : List Nat).sum ≤ _; simp)
    rw [tof_msg]
    show 1 + twt (msgOf (tsub s 0) (s.getD m .zero).fields l).unk + ((msgOf (tsub s 0) (s.getD m .zero).fields l).vals.map (vwt (mwt 0))).sum ≤ _
    omega
  | d + 1, m, l => by
    have := msgOf_weight (mwt (d + 1)) (sub := tsub s (d + 1)) (s.getD m .zero).fields l (fun o b => by
      have := tof_weight s d o.toNat b
      show ([mwt (d + 1) (tof s d o.toNat b)]).sum ≤ _
      simp; omega)
    rw [tof_msg]
    show 1 + twt (msgOf (tsub s (d + 1)) (s.getD m .zero).fields l).unk + ((msgOf (tsub s (d + 1)) (s.getD m .zero).fields l).vals.map (vwt (mwt (d + 1)))).sum ≤ _
    omega

end Go.Proofs.YtbhiddafbpingaaGreat

namespace Go.Proofs.YtbhiddafbpingaaGreat
open Go.RowKit

def RightOk (s : List Mes) (d : Nat) : Prop := ∀ (w : World) (root : Int) (v sv : Value) (x : M d), SchemaAt w sv s → MsgAt d w v x → mwt d x ≤ 1099511627776 →
  Calls Tryz.prog 78 #[sv, .int .i64 root, v] w fun e w' => e = .returned (.bool (rightB s d root x)) ∧ Below w.heap.size w w'
def FitsOk (s : List Mes) (d : Nat) : Prop := ∀ (w : World) (f : Fld) (v sv : Value) (x : Val (M d)), SchemaAt w sv s → ValAt (MsgAt d) w v x → vwt (mwt d) x ≤ 1099511627776 →
  Calls Tryz.prog 101 #[f.val, sv, v] w fun e w' => e = .returned (.bool (fitsB (rightB s d) f x)) ∧ Below w.heap.size w w'

set_option maxRecDepth 100000 in
set_option maxHeartbeats 4000000 in
theorem tree_Fits_1 {w : World} {q : Nat} {k : Int} (hq : w.cell? ⟨q, 2, none⟩ = some (.int .i64 k)) (hk : knumber k = true) (x : Nat) (hx : x < 2 ^ 64) :
    Calls Tryz.prog 129 #[.int .u64 x, .pointer (some ⟨q, 0, none⟩)] w fun e w' => e = .returned (.bool (!decide (kcanon k x = x))) ∧ Below w.heap.size w w' := by
  have HK := hid hk
  obtain ⟨y, HY⟩ : ∃ y, Hid (y = kcanon k x) := ⟨_, rfl⟩
  have hy64 := kcanon_lt k hx
  rw [← HY.out] at hy64 ⊢
  have hql : q < w.heap.size := World.block_lt_of_cell? w _ hq
  have HX := hid hx
  have HY64 := hid hy64
  clear hk hx hy64
  go_enter Tryz.func129, Tryz.ntmps129
  go_wp2_with (go_at_call 130; refine (kind_Canon HK.out _ _).mono ?_; rintro e w1 ⟨rfl, hb1⟩; rw [← HY.out])
  go_ret
  refine ⟨ret1 ?_, hb1⟩
  show Value.bool ((y : Int) != x) = Value.bool (!decide (y = x))
  congr 1
  rw [Bool.eq_iff_iff]
  simp
  omega

set_option maxRecDepth 100000 in
set_option maxHeartbeats 4000000 in
theorem tree_Fits_3 (t : List UInt8) (ht : t.length ≤ 140737488355328) (w : World) :
    Calls Tryz.prog 133 #[strV t] w fun e w' => e = .returned (.bool (!decide (ufirst t = t.length))) ∧ Below w.heap.size w w' := by
  obtain ⟨g, c, w2, hcv, hb2, hby⟩ := str_bytes w t ht
  have hST : strV t = .string ⟨t.toArray⟩ := rfl
  rw [hST]
  have HBY := hid hby
  have HB2 := hid hb2
  clear hST hby hb2 ht
  go_enter Tryz.func133, Tryz.ntmps133
  go_wp2_with (go_at_call 134; refine (utf_Right HBY.out).mono ?_; rintro e w3 ⟨rfl, hb3⟩)
  go_ret
  exact ⟨rfl, by rw [← hb3]; exact HB2.out⟩

set_option maxRecDepth 100000 in
set_option maxHeartbeats 4000000 in
theorem tree_Fits_2 {s : List Mes} {d : Nat} (ih : RightOk s d) {w : World} {p q : Nat} {sv : Value} {of : Int} (hp : w.cell? ⟨p, 0, none⟩ = some sv) (hq : w.cell? ⟨q, 5, none⟩ = some (.int .i64 of)) (hS : SchemaAt w sv s)
    {v : Value} {x : M d} (hx : MsgAt d w v x) (hw : mwt d x ≤ 1099511627776) :
    Calls Tryz.prog 132 #[v, .pointer (some ⟨p, 0, none⟩), .pointer (some ⟨q, 0, none⟩)] w fun e w' => e = .returned (.bool (!rightB s d of x)) ∧ Below w.heap.size w w' := by
  obtain ⟨y, HY⟩ : ∃ y, Hid (rightB s d of x = y) := ⟨_, rfl⟩
  rw [HY.out]
  have HX := hid hx
  have HS := hid hS
  have HW := hid hw
  unfold RightOk at ih
  have HIH := hid ih
  obtain ⟨-, sa, sc, rfl, -⟩ := hS.open
  obtain ⟨a1, n1, c1, a2, n2, c2, rfl⟩ := hx.form
  have hpl : p < w.heap.size := World.block_lt_of_cell? w _ hp
  have hql : q < w.heap.size := World.block_lt_of_cell? w _ hq
  clear ih hx hS hw
  go_enter Tryz.func132, Tryz.ntmps132
  go_wp2_with fail
  have hB1 : Below w.heap.size w (w.alloc (.cells #[.slice a1 n1 c1, .slice a2 n2 c2] 58)) := (Below.refl _ _).alloc (Nat.le_refl _) _
  refine (HIH.out _ _ _ _ x (HS.out.below hB1) (HX.out.below hB1) HW.out).mono ?_
  rintro e w2 ⟨rfl, hb2⟩
  rw [HY.out]
  go_wp2_with fail
  go_ret
  exact ⟨rfl, hB1.trans (hb2.mono hB1.size)⟩

theorem news3' (w : World) (c1 c2 c3 : List Value) (T1 T2 T3 : TypeId) : ∀ W, W = ((w.alloc (.cells c1.toArray T1)).alloc (.cells c2.toArray T2)).alloc (.cells c3.toArray T3) →
    Blk W w.heap.size c1 T1 ∧ Blk W (w.heap.size + 1) c2 T2 ∧ Blk W (w.heap.size + 1 + 1) c3 T3 ∧ W.heap.size = w.heap.size + 1 + 1 + 1 ∧ Below w.heap.size w W := by
  rintro W rfl
  exact news3 w c1 c2 c3 T1 T2 T3

set_option maxRecDepth 100000 in
set_option maxHeartbeats 4000000 in
theorem tree_Fits {s : List Mes} {d : Nat} (ih : RightOk s d) : FitsOk s d := by
  intro w f v sv x hS h hw
  obtain ⟨name, number, kind, rep, packed, of⟩ := f
  obtain ⟨wv, tv, sv', rfl, hnum, hW, hT, hSu⟩ := h
  obtain ⟨y, HY⟩ : ∃ y, Hid (y = fitsB (rightB s d) ⟨name, number, kind, rep, packed, of⟩ x) := ⟨_, rfl⟩
  rw [← HY.out]
  have H3 := hid (news3' w [.string name, .int .i64 number, .int .i64 kind, .bool rep, .bool packed, .int .i64 of] [sv] [.int .i64 x.num, wv, tv, sv'] 74 23 109)
  have HS := hid hS
  have HWD := hid hW
  have HTX := hid hT
  have HSU := hid hSu
  have HWT : Hid (∀ z ∈ x.subs, mwt d z ≤ 1099511627776) := fun z hz => by
    have h1 := mem_sum_le (mwt d) x.subs z hz
    unfold vwt at hw
    omega
  have HIH := hid ih
  obtain ⟨hwl, wa, wc, rfl, -, -⟩ := hW.open
  obtain ⟨htl, ta, tc, rfl, -, -⟩ := hT.open
  obtain ⟨hsl, sa, sc, rfl, -, -⟩ := hSu.open
  obtain ⟨hscl, ssa, ssc, rfl, -⟩ := hS.open
  obtain ⟨wn, HWN⟩ : ∃ n, Hid (n = x.words.length) := ⟨_, rfl⟩
  obtain ⟨tn, HTN⟩ : ∃ n, Hid (n = x.texts.length) := ⟨_, rfl⟩
  obtain ⟨sn, HSN⟩ : ∃ n, Hid (n = x.subs.length) := ⟨_, rfl⟩
  rw [← HWN.out] at H3 HWD hwl ⊢
  rw [← HTN.out] at H3 HTX htl ⊢
  rw [← HSN.out] at H3 HSU hsl ⊢
  have HYE : Hid (y = if wn + tn + sn = 0 ∨ 1 < wn + tn + sn ∧ rep = false then false
    else if knumber kind = true then decide (tn = 0 ∧ sn = 0) && x.words.all fun w => decide (kcanon kind w = w)
    else if kind = 17 then decide (wn = 0 ∧ tn = 0) && x.subs.all (rightB s d of)
    else if kind = 15 then decide (wn = 0 ∧ sn = 0) && x.texts.all fun t => decide (ufirst t = t.length)
    else decide (kind = 16) && decide (wn = 0 ∧ sn = 0)) := by
      rw [Hid, HY.out, HWN.out, HTN.out, HSN.out]; rfl
  generalize x.num = num at *
  simp only [Fld.val]
  clear ih hW hT hSu hS hw HY
  by_cases h0 : wn + tn + sn = 0
  · have HF : Hid (y = false) := by rw [Hid, HYE.out, if_pos (.inl h0)]
    have h3 := H3.out _ rfl
    clear HYE
    go_enter Tryz.func101, Tryz.ntmps101
    go_wp2_with fail
    go_ret
    exact ⟨by rw [HF.out]; rfl, h3.2.2.2.2⟩
  by_cases h1 : 1 < wn + tn + sn ∧ rep = false
  · have HF : Hid (y = false) := by rw [Hid, HYE.out, if_pos (.inr h1)]
    have h3 := H3.out _ rfl
    obtain ⟨h1, rfl⟩ := h1
    clear HYE
    go_enter Tryz.func101, Tryz.ntmps101
    go_wp2_with fail
    go_ret
    exact ⟨by rw [HF.out]; rfl, h3.2.2.2.2⟩
  have HYE2 : Hid (y = if knumber kind = true then decide (tn = 0 ∧ sn = 0) && x.words.all fun w => decide (kcanon kind w = w)
    else if kind = 17 then decide (wn = 0 ∧ tn = 0) && x.subs.all (rightB s d of)
    else if kind = 15 then decide (wn = 0 ∧ sn = 0) && x.texts.all fun t => decide (ufirst t = t.length)
    else decide (kind = 16) && decide (wn = 0 ∧ sn = 0)) := by
      rw [Hid, HYE.out, if_neg]
      rintro (h | h)
      · exact h0 h
      · exact h1 h
  have hr1 : wn + tn + sn = 1 ∨ (1 < wn + tn + sn ∧ rep = true) := by
    by_cases h : 1 < wn + tn + sn
    · refine .inr ⟨h, ?_⟩
      cases rep
      · exact absurd ⟨h, rfl⟩ h1
      · rfl
    · exact .inl (by omega)
  clear HYE h1
  have HALL : Hid (∀ {α : Type} (l : List α) (p : α → Bool), (!l.any fun a => !p a) = l.all p) := fun l p => by rw [List.all_eq_not_any_not]
  rcases hr1 with hr1 | ⟨hr1, rfl⟩
  all_goals
    go_enter Tryz.func101, Tryz.ntmps101
    go_wp2_with fail
    have h3 := H3.out _ rfl
    clear H3
    obtain ⟨hk1, hk2, hk3, -, hb1⟩ := h3
    refine (kind_Number kind _).mono ?_
    rintro e w2 ⟨rfl, hb2⟩
    have HK1 := hid (hk1.below hb2)
    have HK2 := hid (hk2.below hb2)
    have HK3 := hid (hk3.below hb2)
    have HB2 := hid (hb1.trans (hb2.mono hb1.size))
    clear hk1 hk2 hk3 hb1 hb2
    have l1 := HK1.out.lt
    have l2 := HK2.out.lt
    have l3 := HK3.out.lt
    have f2 := HK1.out.cell 2 _ rfl
    have f5 := HK1.out.cell 5 _ rfl
    have v1 := HK3.out.cell 1 _ rfl
    have v2 := HK3.out.cell 2 _ rfl
    have v3 := HK3.out.cell 3 _ rfl
    have g0 := HK2.out.cell 0 _ rfl
    by_cases hk : knumber kind = true
    · have HKN := hid hk
      rw [hk]
      by_cases hz : tn = 0 ∧ sn = 0
      · have HF : Hid (y = x.words.all fun w => decide (kcanon kind w = w)) := by rw [Hid, HYE2.out, if_pos hk, decide_eq_true hz]; rfl
        clear HYE2 hk
        go_wp2_with fail
        refine (containsFunc_u64 (HWD.out.keep (below_keeps HB2.out)) 129 _ (fun w => !decide (kcanon kind w = w)) (fun args w => by simp [go_sem]) ?_).mono ?_
        · exact fun z _ wr hz hb => tree_Fits_1 (below_keeps hb _ _ f2) HKN.out z hz
        · rintro e w3 ⟨rfl, hb3⟩
          go_wp2_with fail
          go_ret
          exact ⟨by rw [HF.out, ← HALL.out]; rfl, HB2.out.trans (hb3.mono HB2.out.size)⟩
      · have HF : Hid (y = false) := by rw [Hid, HYE2.out, if_pos hk, decide_eq_false hz]; rfl
        clear HYE2 hk
        go_wp2_with fail
        go_ret
        exact ⟨by rw [HF.out]; rfl, HB2.out⟩
    · have HYE3 : Hid (y = if kind = 17 then decide (wn = 0 ∧ tn = 0) && x.subs.all (rightB s d of)
          else if kind = 15 then decide (wn = 0 ∧ sn = 0) && x.texts.all fun t => decide (ufirst t = t.length)
          else decide (kind = 16) && decide (wn = 0 ∧ sn = 0)) := by rw [Hid, HYE2.out, if_neg hk]
      have hkf : knumber kind = false := by simpa using hk
      rw [hkf]
      clear HYE2 hk hkf
      by_cases h17 : kind = 17
      · subst h17
        by_cases hz : wn = 0 ∧ tn = 0
        · have HF : Hid (y = x.subs.all (rightB s d of)) := by rw [Hid, HYE3.out, if_pos rfl, decide_eq_true hz]; rfl
          clear HYE3
          go_wp2_with fail
          refine (containsFunc_msg (HSU.out.keep (below_keeps HB2.out) fun _ _ h => MsgAt.below h HB2.out) 132 _ (fun m => !rightB s d of m) (fun args w => by simp [go_sem]) ?_).mono ?_
          · exact fun z hz mv wr hm hb => tree_Fits_2 HIH.out (below_keeps hb _ _ g0) (below_keeps hb _ _ f5) (HS.out.below (HB2.out.trans (hb.mono HB2.out.size))) (hm.below hb) (HWT.out z hz)
          · rintro e w3 ⟨rfl, hb3⟩
            go_wp2_with fail
            go_ret
            exact ⟨by rw [HF.out, ← HALL.out]; rfl, HB2.out.trans (hb3.mono HB2.out.size)⟩
        · have HF : Hid (y = false) := by rw [Hid, HYE3.out, if_pos rfl, decide_eq_false hz]; rfl
          clear HYE3
          go_wp2_with fail
          go_ret
          exact ⟨by rw [HF.out]; rfl, HB2.out⟩
      by_cases h15 : kind = 15
      · subst h15
        by_cases hz : wn = 0 ∧ sn = 0
        · have HF : Hid (y = x.texts.all fun t => decide (ufirst t = t.length)) := by rw [Hid, HYE3.out, if_neg h17, if_pos rfl, decide_eq_true hz]; rfl
          clear HYE3
          go_wp2_with fail
          refine (containsFunc_str (HTX.out.keep (below_keeps HB2.out)) 133 _ (fun t => !decide (ufirst t = t.length)) (fun args w => by simp [go_sem]) ?_).mono ?_
          · exact fun z _ wr hz hb => tree_Fits_3 z hz wr
          · rintro e w3 ⟨rfl, hb3⟩
            go_wp2_with fail
            go_ret
            exact ⟨by rw [HF.out, ← HALL.out]; rfl, HB2.out.trans (hb3.mono HB2.out.size)⟩
        · have HF : Hid (y = false) := by rw [Hid, HYE3.out, if_neg h17, if_pos rfl, decide_eq_false hz]; rfl
          clear HYE3
          go_wp2_with fail
          go_ret
          exact ⟨by rw [HF.out]; rfl, HB2.out⟩
      by_cases h16 : kind = 16
      · subst h16
        by_cases hz : wn = 0 ∧ sn = 0
        · have HF : Hid (y = true) := by rw [Hid, HYE3.out, if_neg h17, if_neg h15, decide_eq_true hz]; rfl
          clear HYE3
          go_wp2_with fail
          go_ret
          exact ⟨by rw [HF.out]; first | rfl | (exact ret1 (congrArg Value.bool (by simp; omega))), HB2.out⟩
        · have HF : Hid (y = false) := by rw [Hid, HYE3.out, if_neg h17, if_neg h15, decide_eq_false hz]; rfl
          clear HYE3
          go_wp2_with fail
          go_ret
          exact ⟨by rw [HF.out]; first | rfl | (exact ret1 (congrArg Value.bool (by simp; omega))), HB2.out⟩
      · have HF : Hid (y = false) := by rw [Hid, HYE3.out, if_neg h17, if_neg h15, decide_eq_false h16]; rfl
        clear HYE3
        go_wp2_with fail
        go_ret
        exact ⟨by rw [HF.out]; first | rfl | (exact ret1 (congrArg Value.bool (by simp; omega))), HB2.out⟩

end Go.Proofs.YtbhiddafbpingaaGreat
