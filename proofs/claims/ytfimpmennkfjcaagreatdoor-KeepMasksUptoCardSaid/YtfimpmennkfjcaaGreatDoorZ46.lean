/- darningref11.Is; what a check without a fault tells. Bytes of at most 2 to the 40. Plain laws: the weight of the meaning of bytes (tof_weight). No condition. What is asked of tree.of and of darningref14.Of: valid bytes' meaning (tof), in new memory. Plain laws: the codes of a check are below 256 (vcheck_code). No condition. -/
import Derived.Test.YtfimpmennkfjcaaGreatDoorZ17
import Derived.Test.YtfimpmennkfjcaaGreatDoorZ18
import Derived.Test.YtfimpmennkfjcaaGreatDoorZ20
import Derived.Test.YtfimpmennkfjcaaGreatDoorZ23
import Derived.Test.YtfimpmennkfjcaaGreatDoorZ24
namespace Go.Proofs.YtfimpmennkfjcaaGreatDoor
open Go.RowKit
set_option maxRecDepth 100000 in
set_option maxHeartbeats 4000000 in
theorem ref11_Is {w : World} {vs vb : Value} {s : List Mes} {l : List UInt8} (hS : SchemaAt w vs s) (hb : Bytes w vb l) (hl : l.length ≤ 1099511627776) (root d : Int) :
    Calls Tryz.prog 19 #[vs, .int .i64 root, vb, .int .i64 d] w fun e w' => e = .returned (.bool (decide ((vcheck s root l d).2 = 0))) ∧ Below w.heap.size w w' := by
  have HC := hid (ref11_Check hS hb hl root d)
  obtain ⟨-, sa, sc, rfl, -⟩ := hS.open
  obtain ⟨-, a, c, rfl, -⟩ := hb.open
  generalize s.length = n at *
  generalize l.length = m at *
  obtain ⟨p, HP⟩ : ∃ p, Hid (p = (vcheck s root l d).1) := ⟨_, rfl⟩
  obtain ⟨z, HZ⟩ : ∃ z, Hid (z = (vcheck s root l d).2) := ⟨_, rfl⟩
  rw [← HP.out, ← HZ.out] at HC
  rw [← HZ.out]
  clear hS hb
  go_enter Tryz.func19, Tryz.ntmps19
  go_wp2_with (go_at_call 15; refine HC.out.mono ?_; rintro e w1 ⟨rfl, hb1⟩)
  go_ret
  exact ⟨by rw [show ((z : Int) == 0) = decide (z = 0) by rw [Bool.eq_iff_iff]; simp]; rfl, hb1⟩
theorem vcheck_ok {s : List Mes} {root d : Int} {l : List UInt8} (h : (vcheck s root l d).2 = 0) : sright s = true ∧ (0 ≤ root ∧ root < s.length) ∧ (0 ≤ d ∧ d ≤ 64) ∧ (vmsg s d.toNat root.toNat l).2 = 0 := by
  unfold vcheck at h
  by_cases h0 : argsCode s root d = 0
  · rw [if_neg (by omega)] at h
    obtain ⟨h1, h2, h3, h4, h5⟩ := args_ok h0
    exact ⟨h1, ⟨h2, h3⟩, ⟨h4, h5⟩, h⟩
  · rw [if_pos h0] at h; exact absurd h h0
theorem vcheck_args_ok {s : List Mes} {root d : Int} {l : List UInt8} (h : (vcheck s root l d).2 = 0) : argsCode s root d = 0 := by
  unfold vcheck at h
  by_cases h0 : argsCode s root d = 0
  · exact h0
  · rw [if_pos h0] at h; exact absurd h h0
end Go.Proofs.YtfimpmennkfjcaaGreatDoor
namespace Go.Proofs.YtfimpmennkfjcaaGreatDoor
open Go.RowKit
def vsize (x : VW) : Nat := x.r.to - x.r.start
def vsum (l : List VW) : Nat := (l.map vsize).sum
/-- a view's value is shorter than its record -/
def Thin (x : VW) : Prop := 1 + (x.r.to - x.r.at') ≤ vsize x
theorem vall_sum (fs : List Fld) (l : List UInt8) : ∀ (n i : Nat), i ≤ l.length → vsum (vallGo fs l n i).1 + i ≤ l.length ∧ ∀ x ∈ (vallGo fs l n i).1, Thin x
  | 0, i, hi => by simp [vallGo, vsum]; omega
  | n + 1, i, hi => by
    rw [vallGo]
    by_cases h : l.length ≤ i
    · rw [if_pos h]; simp [vsum]; omega
    rw [if_neg h]
    rcases vlook_cases fs l i with ⟨c, hc, e, -⟩ | ⟨r, h1, h2, h3, h4, -, hcase⟩
    · rw [e, if_pos hc]; simp [vsum]; omega
    · obtain ⟨k, run, e⟩ : ∃ k run, vlook fs l i = (r, k, run, 0) := by
        rcases hcase with e | ⟨k, run, -, e, -⟩
        · exact ⟨_, _, e⟩
        · exact ⟨_, _, e⟩
      rw [e, if_neg (by simp)]
      simp only
      obtain ⟨g1, g2⟩ := vall_sum fs l n r.to h4
      split
      · simp [vsum]; omega
      · refine ⟨?_, fun x hx => ?_⟩
        · unfold vsum at g1 ⊢
          rw [List.map_cons, List.sum_cons]
          have : vsize ⟨r, k, run⟩ = r.to - r.start := rfl
          omega
        · rcases List.mem_cons.1 hx with rfl | hx
          · unfold Thin vsize; simp only; omega
          · exact g2 x hx
theorem vsum_app (a b : List VW) : vsum (a ++ b) = vsum a + vsum b := by unfold vsum; rw [List.map_append, List.sum_append]
/-- a field's records, and the unknown ones, are no more than all -/
theorem vsum_split : ∀ (all : List VW) (ords : List Int), ords.Nodup → (∀ i ∈ ords, 0 ≤ i) → (ords.map fun i => vsum (viewsOf all i)).sum + vsum (all.filter fun x => decide (x.k < 0)) ≤ vsum all
  | [], ords, _, _ => by
    have : (ords.map fun i => vsum (viewsOf [] i)).sum = 0 := by
      rw [List.sum_eq_zero_iff_forall_eq_nat]
      intro y hy
      obtain ⟨i, -, rfl⟩ := List.mem_map.1 hy
      rfl
    rw [this]; simp [vsum]
  | x :: r, ords, hn, h0 => by
    have ih := vsum_split r ords hn h0
    have hx : (ords.map fun i => vsum (viewsOf (x :: r) i)).sum ≤ (ords.map fun i => vsum (viewsOf r i)).sum + (if x.k ∈ ords then vsize x else 0) := by
      clear ih h0
      induction ords with
      | nil => simp
      | cons i t iht =>
        rw [List.nodup_cons] at hn
        have := iht hn.2
        have hv : vsum (viewsOf (x :: r) i) = (if x.k = i then vsize x else 0) + vsum (viewsOf r i) := by
          unfold viewsOf
          rw [List.filter_cons]
          by_cases he : x.k = i
          · rw [if_pos (by simpa using he), if_pos he]; unfold vsum; rw [List.map_cons, List.sum_cons]
          · rw [if_neg (by simpa using he), if_neg he, Nat.zero_add]
        rw [List.map_cons, List.sum_cons, List.map_cons, List.sum_cons, hv]
        by_cases he : x.k = i
        · have hnt : x.k ∉ t := by rw [he]; exact hn.1
          rw [if_neg hnt] at this
          rw [if_pos he, if_pos (by simp [he])]
          omega
        · rw [if_neg he]
          by_cases ht : x.k ∈ t
          · rw [if_pos ht] at this
            rw [if_pos (by simp [ht])]; omega
          · rw [if_neg ht] at this
            rw [if_neg (by simp [he, ht])]; omega
    have hs : vsum (x :: r) = vsize x + vsum r := by unfold vsum; rw [List.map_cons, List.sum_cons]
    rw [List.filter_cons]
    by_cases hk : x.k < 0
    · rw [if_pos (by simpa using hk)]
      have hno : x.k ∉ ords := fun hm => by have := h0 _ hm; omega
      rw [if_neg hno] at hx
      have : vsum (x :: r.filter fun x => decide (x.k < 0)) = vsize x + vsum (r.filter fun x => decide (x.k < 0)) := by unfold vsum; rw [List.map_cons, List.sum_cons]
      omega
    · rw [if_neg (by simpa using hk)]
      by_cases hm : x.k ∈ ords
      · rw [if_pos hm] at hx; omega
      · rw [if_neg hm] at hx; omega
theorem vbytes_len (l : List UInt8) (x : VW) : (vbytes l x).length ≤ x.r.to - x.r.at' := by unfold vbytes part; rw [List.length_take]; omega
theorem flat_sum {α : Type} (g : VW → List α) (W : List α → Nat) (h0 : W [] = 0) (ha : ∀ a b, W (a ++ b) = W a + W b) : ∀ (xs : List VW), (∀ x ∈ xs, W (g x) ≤ vsize x) → W (xs.flatMap g) ≤ vsum xs
  | [], _ => by rw [List.flatMap_nil, h0]; exact Nat.zero_le _
  | x :: r, h => by
    have ih := flat_sum g W h0 ha r fun y hy => h y (by simp [hy])
    have h1 := h x (by simp)
    rw [List.flatMap_cons, ha]
    unfold vsum at ih ⊢
    rw [List.map_cons, List.sum_cons]
    omega
theorem twt_nil : twt [] = 0 := rfl
theorem twt_app (a b : List (List UInt8)) : twt (a ++ b) = twt a + twt b := by unfold twt; rw [List.map_append, List.sum_append]
theorem counts_sum (f : Fld) (xs : List VW) : vsum (counts f xs) ≤ vsum xs := by
  unfold counts
  split
  · exact Nat.le_refl _
  · unfold lastOf
    conv => rhs; rw [← List.take_append_drop (xs.length - 1) xs, vsum_app]
    omega
theorem piece_words {f : Fld} {l : List UInt8} {x : VW} (h : Thin x) : (pieceW f l x).length ≤ vsize x := by
  unfold Thin at h
  unfold pieceW
  split
  · unfold runWords
    split
    · have h1 := rpieces_len (kwire f.kind) _ (vbytes l x) (Nat.le_refl _)
      have h2 := vbytes_len l x
      simp only [kwords, List.length_map]
      omega
    · simp
  · split
    · simp; omega
    · simp
theorem piece_texts {f : Fld} {l : List UInt8} {x : VW} (h : Thin x) : twt (pieceB f l x) ≤ vsize x := by
  unfold Thin at h
  unfold pieceB
  split
  · rw [twt_nil]; omega
  · have h2 := vbytes_len l x
    simp [twt]; omega
theorem vsum_pos {xs : List VW} (ht : ∀ x ∈ xs, Thin x) : xs.length ≤ vsum xs := by
  induction xs with
  | nil => simp
  | cons x r ih =>
    have h1 := ht x (by simp)
    have h2 := ih fun y hy => ht y (by simp [hy])
    unfold Thin at h1
    unfold vsum at h2 ⊢
    rw [List.map_cons, List.sum_cons, List.length_cons]
    omega
/-- a field's value weighs at most four times its records -/
theorem fieldV_weight {α : Type} {F : α → Nat} {sub : Int → List UInt8 → List α} {f : Fld} {l : List UInt8} {xs : List VW} (hrun : f.kind = 17 → ∀ x ∈ xs, x.run = false) (ht : ∀ x ∈ xs, Thin x)
    (hs : ∀ b, ((sub f.of b).map F).sum ≤ 1 + 4 * b.length) (hm : 0 < many (fieldV sub f l xs)) : vwt F (fieldV sub f l xs) ≤ 4 * vsum xs := by
  have hne : xs ≠ [] := by
    rintro rfl
    unfold many fieldV counts lastOf at hm
    simp at hm
  have hpos := vsum_pos ht
  have hl : 0 < xs.length := List.length_pos_iff.2 hne
  have hc := counts_sum f xs
  have htc : ∀ x ∈ counts f xs, Thin x := fun x hx => ht x (counts_sub f xs hx)
  have hw := flat_sum (pieceW f l) List.length rfl (fun a b => List.length_append) (counts f xs) fun x hx => piece_words (htc x hx)
  have hx := flat_sum (pieceB f l) twt twt_nil twt_app (counts f xs) fun x hx => piece_texts (htc x hx)
  unfold vwt fieldV
  simp only
  by_cases h17 : f.kind = 17
  · rw [if_pos h17, if_pos h17, twt_nil]
    have hw0 : ((counts f xs).flatMap (pieceW f l)) = [] := by
      refine flat_nil _ _ fun x hx => ?_
      unfold pieceW
      rw [if_neg (by rw [hrun h17 x (counts_sub f xs hx)]; decide), if_neg (by rw [h17]; decide)]
    rw [hw0]
    have hsum : ∀ ys : List VW, (∀ x ∈ ys, Thin x) → ((ys.flatMap fun x => sub f.of (vbytes l x)).map F).sum + ys.length ≤ 4 * vsum ys := by
      intro ys
      induction ys with
      | nil => simp [vsum]
      | cons x r ih =>
        intro hy
        have h1 := hy x (by simp)
        have h2 := ih fun y h => hy y (by simp [h])
        have h3 := hs (vbytes l x)
        have h4 := vbytes_len l x
        unfold Thin at h1
        unfold vsum at h2 ⊢
        rw [List.flatMap_cons, List.map_append, List.sum_append, List.length_cons, List.map_cons, List.sum_cons]
        omega
    have hlen : ∀ ys : List VW, (∀ x ∈ ys, Thin x) → (ys.flatMap (vbytes l)).length + ys.length ≤ vsum ys := by
      intro ys
      induction ys with
      | nil => simp [vsum]
      | cons x r ih =>
        intro hy
        have h1 := hy x (by simp)
        have h2 := ih fun y h => hy y (by simp [h])
        have h4 := vbytes_len l x
        unfold Thin at h1
        unfold vsum at h2 ⊢
        rw [List.flatMap_cons, List.length_append, List.length_cons, List.map_cons, List.sum_cons]
        omega
    split
    · have := hsum xs ht
      simp only [List.length_nil]; omega
    · have h1 := hs (xs.flatMap (vbytes l))
      have h2 := hlen xs ht
      simp only [List.length_nil]; omega
  · rw [if_neg h17, if_neg h17]
    have hboth : ((counts f xs).flatMap (pieceW f l)).length + twt ((counts f xs).flatMap (pieceB f l)) ≤ 2 * vsum xs := by omega
    simp only [List.map_nil, List.sum_nil]
    omega
theorem sortedF_nodup (fs : List Fld) : (sortedF fs).Nodup := by
  have h := (sortF_ok fs fs.length).2
  refine List.Pairwise.imp (fun {a b} hab => ?_) h
  rintro rfl
  exact Ahead.asymm _ _ hab hab
theorem sum_filter_le {α : Type} (F G : α → Nat) (p : α → Bool) : ∀ (l : List α), (∀ x ∈ l, p x = true → F x ≤ G x) → ((l.filter p).map F).sum ≤ (l.map G).sum
  | [], _ => by simp
  | x :: r, h => by
    have ih := sum_filter_le F G p r fun y hy => h y (by simp [hy])
    rw [List.filter_cons, List.map_cons, List.sum_cons]
    by_cases hp : p x = true
    · rw [if_pos hp, List.map_cons, List.sum_cons]
      have := h x (by simp) hp
      omega
    · rw [if_neg hp]; omega
theorem vall_run (fs : List Fld) (l : List UInt8) : ∀ (n i : Nat), ∀ x ∈ (vallGo fs l n i).1, ∀ k : Nat, x.k = k → x.run = true → knumber (fs.getD k .zero).kind = true
  | 0, i => by simp [vallGo]
  | n + 1, i => by
    rw [vallGo]
    by_cases h : l.length ≤ i
    · rw [if_pos h]; simp
    rw [if_neg h]
    by_cases hc : (vlook fs l i).2.2.2 = 0
    · rw [if_neg (by omega)]
      have ih := vall_run fs l n (vlook fs l i).1.to
      simp only
      split
      · simp
      · intro x hx
        rcases List.mem_cons.1 hx with rfl | hx
        · intro k hk hr
          simp only at hk hr
          rcases vlook_cases fs l i with ⟨c, hc', e, -⟩ | ⟨r, h1, h2, h3, h4, -, e | ⟨k', run, -, e, -, h6, -⟩⟩
          · rw [e] at hc; exact absurd hc hc'
          · rw [e] at hr; simp at hr
          · rw [e] at hk hr
            simp only at hk hr
            obtain rfl : k' = k := by omega
            exact (h6 hr).2.1
        · exact ih x hx
    · rw [if_pos hc]; simp
theorem sum_four (g : Int → Nat) : ∀ (l : List Int), (l.map fun i => 4 * g i).sum = 4 * (l.map g).sum
  | [] => by simp
  | x :: r => by rw [List.map_cons, List.sum_cons, sum_four g r, List.map_cons, List.sum_cons]; omega
theorem msgOf_weight {α : Type} (F : α → Nat) {sub : Int → List UInt8 → List α} (fs : List Fld) (l : List UInt8) (hs : ∀ o b, ((sub o b).map F).sum ≤ 1 + 4 * b.length) :
    twt (msgOf sub fs l).unk + ((msgOf sub fs l).vals.map (vwt F)).sum ≤ 4 * l.length := by
  obtain ⟨h1, h2⟩ := vall_sum fs l l.length 0 (Nat.zero_le _)
  have h3 := vall_run fs l l.length 0
  have h4 := vsum_split (vall fs l).1 (sortedF fs) (sortedF_nodup fs) (fun i hi => (sortedF_mem hi).1)
  have hall : vsum (vall fs l).1 ≤ l.length := by unfold vall; omega
  have hunk : twt (msgOf sub fs l).unk ≤ 2 * vsum ((vall fs l).1.filter fun x => decide (x.k < 0)) := by
    unfold msgOf twt vsum
    simp only [List.map_map]
    have : ∀ (ys : List VW), (∀ x ∈ ys, Thin x) → (ys.map ((fun t => 1 + t.length) ∘ fun x => part l x.r.start x.r.to)).sum ≤ 2 * (ys.map vsize).sum := by
      intro ys
      induction ys with
      | nil => simp
      | cons x r ih =>
        intro hy
        have g1 := hy x (by simp)
        have g2 := ih fun y h => hy y (by simp [h])
        have g3 : (part l x.r.start x.r.to).length ≤ vsize x := by unfold part vsize; rw [List.length_take]; omega
        unfold Thin at g1
        rw [List.map_cons, List.sum_cons, List.map_cons, List.sum_cons]
        simp only [Function.comp]
        omega
    exact this _ fun x hx => h2 x (List.mem_filter.1 hx).1
  have hval : ((msgOf sub fs l).vals.map (vwt F)).sum ≤ 4 * ((sortedF fs).map fun i => vsum (viewsOf (vall fs l).1 i)).sum := by
    rw [← sum_four]
    unfold msgOf
    simp only
    rw [List.filter_map, List.map_map]
    refine sum_filter_le _ _ _ _ fun i hi hp => ?_
    simp only [Function.comp] at hp ⊢
    have hb := sortedF_mem hi
    obtain ⟨q, rfl⟩ : ∃ q : Nat, i = q := ⟨i.toNat, by omega⟩
    simp only [Int.toNat_natCast] at hp ⊢
    refine fieldV_weight (fun h17 x hx => ?_) (fun x hx => h2 x (viewsOf_mem hx).1) (fun b => hs _ b) (of_decide_eq_true hp)
    cases hr : x.run with
    | false => rfl
    | true =>
      have := h3 x (viewsOf_mem hx).1 q (viewsOf_mem hx).2 hr
      rw [h17] at this
      simp [knumber] at this
  omega
/-- the meaning of bytes weighs at most four times as much -/
theorem tof_weight (s : List Mes) : ∀ (d m : Nat) (l : List UInt8), mwt (d + 1) (tof s d m l) ≤ 1 + 4 * l.length
  | 0, m, l => by
    have := msgOf_weight (mwt 0) (sub := tsub s 0) (s.getD m .zero).fields l (fun o b => by show ([] : List Nat).sum ≤ _; simp)
    rw [tof_msg]
    show 1 + twt (msgOf (tsub s 0) (s.getD m .zero).fields l).unk + ((msgOf (tsub s 0) (s.getD m .zero).fields l).vals.map (vwt (mwt 0))).sum ≤ _
    omega
  | d + 1, m, l => by
    have := msgOf_weight (mwt (d + 1)) (sub := tsub s (d + 1)) (s.getD m .zero).fields l (fun o b => by
      have := tof_weight s d o.toNat b
      show ([mwt (d + 1) (tof s d o.toNat b)]).sum ≤ _
      simp; omega)
    rw [tof_msg]
    show 1 + twt (msgOf (tsub s (d + 1)) (s.getD m .zero).fields l).unk + ((msgOf (tsub s (d + 1)) (s.getD m .zero).fields l).vals.map (vwt (mwt (d + 1)))).sum ≤ _
    omega
end Go.Proofs.YtfimpmennkfjcaaGreatDoor
namespace Go.Proofs.YtfimpmennkfjcaaGreatDoor
open Go.RowKit
/-- darningref14.Of likewise -/
def ROfOk (w0 : World) (sv : Value) (s : List Mes) (d : Nat) : Prop := ∀ (m : Nat) (w : World) (v : Value) (l : List UInt8), m < s.length → Below w0.heap.size w0 w → Bytes w v l → l.length ≤ 1099511627776 → (vmsg s d m l).2 = 0 →
  Calls Tryz.prog 18 #[sv, .int .i64 (m : Int), v] w fun e w' => ∃ v', e = .returned v' ∧ Below w.heap.size w w' ∧ Apart 0 w.heap.size w' fun w2 => MsgAt (d + 1) w2 v' (tof s d m l)
end Go.Proofs.YtfimpmennkfjcaaGreatDoor
namespace Go.Proofs.YtfimpmennkfjcaaGreatDoor
open Go.RowKit
theorem vloop_code (rec : Nat → List UInt8 → Nat × Nat) (deep : Bool) (fs : List Fld) (l : List UInt8) (hrec : ∀ o x, (rec o x).2 < 256) : ∀ (k i : Nat), (vloop rec deep fs l k i).2 < 256
  | 0, _ => by rw [vloop]; decide
  | k + 1, i => by
    rw [vloop]
    by_cases hi : l.length ≤ i
    · rw [if_pos hi]; decide
    rw [if_neg hi]
    have hv : (vlook fs l i).2.2.2 < 256 ∧ (vval rec deep fs l (vlook fs l i)).2 < 256 := by
      rcases vlook_cases fs l i with ⟨c, h, e, h2⟩ | ⟨r, h1, h2, h3, h4, -, e | ⟨j, run, -, e, -⟩⟩
      · rw [e]
        refine ⟨h2, ?_⟩
        unfold vval
        rw [if_neg (by simp)]
        simp only [Bool.false_eq_true, if_false]
        split
        · split <;> simp
        · split
          · split
            · simp
            · exact hrec _ _
          · simp
      · rw [e]; exact ⟨by simp, by simp [vval]⟩
      · rw [e]
        refine ⟨by simp, ?_⟩
        unfold vval
        rw [if_neg (by show ¬ ((j : Int) < 0); omega)]
        simp only [Int.toNat_natCast]
        split
        · have := runCount_lt (kwire (fs.getD j .zero).kind) (part l r.at' r.to)
          show (runCount _ _).2 < 256; omega
        · split
          · split <;> simp
          · split
            · split
              · simp
              · exact hrec _ _
            · simp
    by_cases hc : (vlook fs l i).2.2.2 ≠ 0
    · rw [if_pos hc]; exact hv.1
    rw [if_neg hc]
    by_cases hv2 : (vval rec deep fs l (vlook fs l i)).2 ≠ 0
    · rw [if_pos hv2]; exact hv.2
    · rw [if_neg hv2]; exact vloop_code rec deep fs l hrec k _
theorem vmsg_code (s : List Mes) : ∀ (d m : Nat) (l : List UInt8), (vmsg s d m l).2 < 256
  | 0, m, l => vloop_code _ _ _ l (fun _ _ => by decide) _ _
  | d + 1, m, l => vloop_code _ _ _ l (vmsg_code s d) _ _
theorem vcheck_code (s : List Mes) (root : Int) (l : List UInt8) (d : Int) : (vcheck s root l d).2 < 256 := by
  unfold vcheck
  by_cases h : argsCode s root d ≠ 0
  · rw [if_pos h]; have := args_cases s root d; show argsCode s root d < 256; omega
  · rw [if_neg h]; exact vmsg_code _ _ _ _
end Go.Proofs.YtfimpmennkfjcaaGreatDoor
