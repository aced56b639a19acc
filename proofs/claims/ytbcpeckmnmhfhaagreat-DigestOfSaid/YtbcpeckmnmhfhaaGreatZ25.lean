/- Plain laws: the weight of the meaning of bytes (tof_weight). No condition. A []string of the call's own (StrsOwn): one more string appended. At most 2^40 strings. What a field's value is like in memory while its records are gone through (OfInv), and what it is at the end. No condition. -/
import Derived.Test.YtbcpeckmnmhfhaaGreatZ09
import Derived.Test.YtbcpeckmnmhfhaaGreatZ14
import Derived.Test.YtbcpeckmnmhfhaaGreatZ17
import Derived.Test.YtbcpeckmnmhfhaaGreatZ21
import Derived.Test.YtbcpeckmnmhfhaaGreatZ22
import Derived.Test.YtbcpeckmnmhfhaaGreatZ24
namespace Go.Proofs.YtbcpeckmnmhfhaaGreat
open Go.RowKit
def vsize (x : VW) : Nat := x.r.to - x.r.start
def vsum (l : List VW) : Nat := (l.map vsize).sum
/-- a view's value is shorter than its record -/
def Thin (x : VW) : Prop := 1 + (x.r.to - x.r.at') ≤ vsize x
theorem vall_sum (fs : List Fld) (l : List UInt8) : ∀ (n i : Nat), i ≤ l.length → vsum (vallGo fs l n i).1 + i ≤ l.length ∧ ∀ x ∈ (vallGo fs l n i).1, Thin x
  | 0, i, hi => by simp [vallGo, vsum]; omega
  | n + 1, i, hi => by
    rw [vallGo]
    by_cases h : l.length ≤ i
    · rw [if_pos h]; simp [vsum]; omega
    rw [if_neg h]
    rcases vlook_cases fs l i with ⟨c, hc, e, -⟩ | ⟨r, h1, h2, h3, h4, -, hcase⟩
    · rw [e, if_pos hc]; simp [vsum]; omega
    · obtain ⟨k, run, e⟩ : ∃ k run, vlook fs l i = (r, k, run, 0) := by
        rcases hcase with e | ⟨k, run, -, e, -⟩
        · exact ⟨_, _, e⟩
        · exact ⟨_, _, e⟩
      rw [e, if_neg (by simp)]
      simp only
      obtain ⟨g1, g2⟩ := vall_sum fs l n r.to h4
      split
      · simp [vsum]; omega
      · refine ⟨?_, fun x hx => ?_⟩
        · unfold vsum at g1 ⊢
          rw [List.map_cons, List.sum_cons]
          have : vsize ⟨r, k, run⟩ = r.to - r.start := rfl
          omega
        · rcases List.mem_cons.1 hx with rfl | hx
          · unfold Thin vsize; simp only; omega
          · exact g2 x hx
theorem vsum_app (a b : List VW) : vsum (a ++ b) = vsum a + vsum b := by unfold vsum; rw [List.map_append, List.sum_append]
/-- a field's records, and the unknown ones, are no more than all -/
theorem vsum_split : ∀ (all : List VW) (ords : List Int), ords.Nodup → (∀ i ∈ ords, 0 ≤ i) → (ords.map fun i => vsum (viewsOf all i)).sum + vsum (all.filter fun x => decide (x.k < 0)) ≤ vsum all
  | [], ords, _, _ => by
    have : (ords.map fun i => vsum (viewsOf [] i)).sum = 0 := by
      rw [List.sum_eq_zero_iff_forall_eq_nat]
      intro y hy
      obtain ⟨i, -, rfl⟩ := List.mem_map.1 hy
      rfl
    rw [this]; simp [vsum]
  | x :: r, ords, hn, h0 => by
    have ih := vsum_split r ords hn h0
    have hx : (ords.map fun i => vsum (viewsOf (x :: r) i)).sum ≤ (ords.map fun i => vsum (viewsOf r i)).sum + (if x.k ∈ ords then vsize x else 0) := by
      clear ih h0
      induction ords with
      | nil => simp
      | cons i t iht =>
        rw [List.nodup_cons] at hn
        have := iht hn.2
        have hv : vsum (viewsOf (x :: r) i) = (if x.k = i then vsize x else 0) + vsum (viewsOf r i) := by
          unfold viewsOf
          rw [List.filter_cons]
          by_cases he : x.k = i
          · rw [if_pos (by simpa using he), if_pos he]; unfold vsum; rw [List.map_cons, List.sum_cons]
          · rw [if_neg (by simpa using he), if_neg he, Nat.zero_add]
        rw [List.map_cons, List.sum_cons, List.map_cons, List.sum_cons, hv]
        by_cases he : x.k = i
        · have hnt : x.k ∉ t := by rw [he]; exact hn.1
          rw [if_neg hnt] at this
          rw [if_pos he, if_pos (by simp [he])]
          omega
        · rw [if_neg he]
          by_cases ht : x.k ∈ t
          · rw [if_pos ht] at this
            rw [if_pos (by simp [ht])]; omega
          · rw [if_neg ht] at this
            rw [if_neg (by simp [he, ht])]; omega
    have hs : vsum (x :: r) = vsize x + vsum r := by unfold vsum; rw [List.map_cons, List.sum_cons]
    rw [List.filter_cons]
    by_cases hk : x.k < 0
    · rw [if_pos (by simpa using hk)]
      have hno : x.k ∉ ords := fun hm => by have := h0 _ hm; omega
      rw [if_neg hno] at hx
      have : vsum (x :: r.filter fun x => decide (x.k < 0)) = vsize x + vsum (r.filter fun x => decide (x.k < 0)) := by unfold vsum; rw [List.map_cons, List.sum_cons]
      omega
    · rw [if_neg (by simpa using hk)]
      by_cases hm : x.k ∈ ords
      · rw [if_pos hm] at hx; omega
      · rw [if_neg hm] at hx; omega
theorem vbytes_len (l : List UInt8) (x : VW) : (vbytes l x).length ≤ x.r.to - x.r.at' := by unfold vbytes part; rw [List.length_take]; omega
theorem flat_sum {α : Type} (g : VW → List α) (W : List α → Nat) (h0 : W [] = 0) (ha : ∀ a b, W (a ++ b) = W a + W b) : ∀ (xs : List VW), (∀ x ∈ xs, W (g x) ≤ vsize x) → W (xs.flatMap g) ≤ vsum xs
  | [], _ => by rw [List.flatMap_nil, h0]; exact Nat.zero_le _
  | x :: r, h => by
    have ih := flat_sum g W h0 ha r fun y hy => h y (by simp [hy])
    have h1 := h x (by simp)
    rw [List.flatMap_cons, ha]
    unfold vsum at ih ⊢
    rw [List.map_cons, List.sum_cons]
    omega
theorem twt_nil : twt [] = 0 := rfl
theorem twt_app (a b : List (List UInt8)) : twt (a ++ b) = twt a + twt b := by unfold twt; rw [List.map_append, List.sum_append]
theorem counts_sum (f : Fld) (xs : List VW) : vsum (counts f xs) ≤ vsum xs := by
  unfold counts
  split
  · exact Nat.le_refl _
  · unfold lastOf
    conv => rhs; rw [← List.take_append_drop (xs.length - 1) xs, vsum_app]
    omega
theorem piece_words {f : Fld} {l : List UInt8} {x : VW} (h : Thin x) : (pieceW f l x).length ≤ vsize x := by
  unfold Thin at h
  unfold pieceW
  split
  · unfold runWords
    split
    · have h1 := rpieces_len (kwire f.kind) _ (vbytes l x) (Nat.le_refl _)
      have h2 := vbytes_len l x
      simp only [kwords, List.length_map]
      omega
    · simp
  · split
    · simp; omega
    · simp
theorem piece_texts {f : Fld} {l : List UInt8} {x : VW} (h : Thin x) : twt (pieceB f l x) ≤ vsize x := by
  unfold Thin at h
  unfold pieceB
  split
  · rw [twt_nil]; omega
  · have h2 := vbytes_len l x
    simp [twt]; omega
theorem vsum_pos {xs : List VW} (ht : ∀ x ∈ xs, Thin x) : xs.length ≤ vsum xs := by
  induction xs with
  | nil => simp
  | cons x r ih =>
    have h1 := ht x (by simp)
    have h2 := ih fun y hy => ht y (by simp [hy])
    unfold Thin at h1
    unfold vsum at h2 ⊢
    rw [List.map_cons, List.sum_cons, List.length_cons]
    omega
/-- a field's value weighs at most four times its records -/
theorem fieldV_weight {α : Type} {F : α → Nat} {sub : Int → List UInt8 → List α} {f : Fld} {l : List UInt8} {xs : List VW} (hrun : f.kind = 17 → ∀ x ∈ xs, x.run = false) (ht : ∀ x ∈ xs, Thin x)
    (hs : ∀ b, ((sub f.of b).map F).sum ≤ 1 + 4 * b.length) (hm : 0 < many (fieldV sub f l xs)) : vwt F (fieldV sub f l xs) ≤ 4 * vsum xs := by
  have hne : xs ≠ [] := by
    rintro rfl
    unfold many fieldV counts lastOf at hm
    simp at hm
  have hpos := vsum_pos ht
  have hl : 0 < xs.length := List.length_pos_iff.2 hne
  have hc := counts_sum f xs
  have htc : ∀ x ∈ counts f xs, Thin x := fun x hx => ht x (counts_sub f xs hx)
  have hw := flat_sum (pieceW f l) List.length rfl (fun a b => List.length_append) (counts f xs) fun x hx => piece_words (htc x hx)
  have hx := flat_sum (pieceB f l) twt twt_nil twt_app (counts f xs) fun x hx => piece_texts (htc x hx)
  unfold vwt fieldV
  simp only
  by_cases h17 : f.kind = 17
  · rw [if_pos h17, if_pos h17, twt_nil]
    have hw0 : ((counts f xs).flatMap (pieceW f l)) = [] := by
      refine flat_nil _ _ fun x hx => ?_
      unfold pieceW
      rw [if_neg (by rw [hrun h17 x (counts_sub f xs hx)]; decide), if_neg (by rw [h17]; decide)]
    rw [hw0]
    have hsum : ∀ ys : List VW, (∀ x ∈ ys, Thin x) → ((ys.flatMap fun x => sub f.of (vbytes l x)).map F).sum + ys.length ≤ 4 * vsum ys := by
      intro ys
      induction ys with
      | nil => simp [vsum]
      | cons x r ih =>
        intro hy
        have h1 := hy x (by simp)
        have h2 := ih fun y h => hy y (by simp [h])
        have h3 := hs (vbytes l x)
        have h4 := vbytes_len l x
        unfold Thin at h1
        unfold vsum at h2 ⊢
        rw [List.flatMap_cons, List.map_append, List.sum_append, List.length_cons, List.map_cons, List.sum_cons]
        omega
    have hlen : ∀ ys : List VW, (∀ x ∈ ys, Thin x) → (ys.flatMap (vbytes l)).length + ys.length ≤ vsum ys := by
      intro ys
      induction ys with
      | nil => simp [vsum]
      | cons x r ih =>
        intro hy
        have h1 := hy x (by simp)
        have h2 := ih fun y h => hy y (by simp [h])
        have h4 := vbytes_len l x
        unfold Thin at h1
        unfold vsum at h2 ⊢
        rw [List.flatMap_cons, List.length_append, List.length_cons, List.map_cons, List.sum_cons]
        omega
    split
    · have := hsum xs ht
      simp only [List.length_nil]; omega
    · have h1 := hs (xs.flatMap (vbytes l))
      have h2 := hlen xs ht
      simp only [List.length_nil]; omega
  · rw [if_neg h17, if_neg h17]
    have hboth : ((counts f xs).flatMap (pieceW f l)).length + twt ((counts f xs).flatMap (pieceB f l)) ≤ 2 * vsum xs := by omega
    simp only [List.map_nil, List.sum_nil]
    omega
theorem sortedF_nodup (fs : List Fld) : (sortedF fs).Nodup := by
  have h := (sortF_ok fs fs.length).2
  refine List.Pairwise.imp (fun {a b} hab => ?_) h
  rintro rfl
  exact Ahead.asymm _ _ hab hab
theorem sum_filter_le {α : Type} (F G : α → Nat) (p : α → Bool) : ∀ (l : List α), (∀ x ∈ l, p x = true → F x ≤ G x) → ((l.filter p).map F).sum ≤ (l.map G).sum
  | [], _ => by simp
  | x :: r, h => by
    have ih := sum_filter_le F G p r fun y hy => h y (by simp [hy])
    rw [List.filter_cons, List.map_cons, List.sum_cons]
    by_cases hp : p x = true
    · rw [if_pos hp, List.map_cons, List.sum_cons]
      have := h x (by simp) hp
      omega
    · rw [if_neg hp]; omega
theorem vall_run (fs : List Fld) (l : List UInt8) : ∀ (n i : Nat), ∀ x ∈ (vallGo fs l n i).1, ∀ k : Nat, x.k = k → x.run = true → knumber (fs.getD k .zero).kind = true
  | 0, i => by simp [vallGo]
  | n + 1, i => by
    rw [vallGo]
    by_cases h : l.length ≤ i
    · rw [if_pos h]; simp
    rw [if_neg h]
    by_cases hc : (vlook fs l i).2.2.2 = 0
    · rw [if_neg (by omega)]
      have ih := vall_run fs l n (vlook fs l i).1.to
      simp only
      split
      · simp
      · intro x hx
        rcases List.mem_cons.1 hx with rfl | hx
        · intro k hk hr
          simp only at hk hr
          rcases vlook_cases fs l i with ⟨c, hc', e, -⟩ | ⟨r, h1, h2, h3, h4, -, e | ⟨k', run, -, e, -, h6, -⟩⟩
          · rw [e] at hc; exact absurd hc hc'
          · rw [e] at hr; simp at hr
          · rw [e] at hk hr
            simp only at hk hr
            obtain rfl : k' = k := by omega
            exact (h6 hr).2.1
        · exact ih x hx
    · rw [if_pos hc]; simp
theorem sum_four (g : Int → Nat) : ∀ (l : List Int), (l.map fun i => 4 * g i).sum = 4 * (l.map g).sum
  | [] => by simp
  | x :: r => by rw [List.map_cons, List.sum_cons, sum_four g r, List.map_cons, List.sum_cons]; omega
theorem msgOf_weight {α : Type} (F : α → Nat) {sub : Int → List UInt8 → List α} (fs : List Fld) (l : List UInt8) (hs : ∀ o b, ((sub o b).map F).sum ≤ 1 + 4 * b.length) :
    twt (msgOf sub fs l).unk + ((msgOf sub fs l).vals.map (vwt F)).sum ≤ 4 * l.length := by
  obtain ⟨h1, h2⟩ := vall_sum fs l l.length 0 (Nat.zero_le _)
  have h3 := vall_run fs l l.length 0
  have h4 := vsum_split (vall fs l).1 (sortedF fs) (sortedF_nodup fs) (fun i hi => (sortedF_mem hi).1)
  have hall : vsum (vall fs l).1 ≤ l.length := by unfold vall; omega
  have hunk : twt (msgOf sub fs l).unk ≤ 2 * vsum ((vall fs l).1.filter fun x => decide (x.k < 0)) := by
    unfold msgOf twt vsum
    simp only [List.map_map]
    have : ∀ (ys : List VW), (∀ x ∈ ys, Thin x) → (ys.map ((fun t => 1 + t.length) ∘ fun x => part l x.r.start x.r.to)).sum ≤ 2 * (ys.map vsize).sum := by
      intro ys
      induction ys with
      | nil => simp
      | cons x r ih =>
        intro hy
        have g1 := hy x (by simp)
        have g2 := ih fun y h => hy y (by simp [h])
        have g3 : (part l x.r.start x.r.to).length ≤ vsize x := by unfold part vsize; rw [List.length_take]; omega
        unfold Thin at g1
        rw [List.map_cons, List.sum_cons, List.map_cons, List.sum_cons]
        simp only [Function.comp]
        omega
    exact this _ fun x hx => h2 x (List.mem_filter.1 hx).1
  have hval : ((msgOf sub fs l).vals.map (vwt F)).sum ≤ 4 * ((sortedF fs).map fun i => vsum (viewsOf (vall fs l).1 i)).sum := by
    rw [← sum_four]
    unfold msgOf
    simp only
    rw [List.filter_map, List.map_map]
    refine sum_filter_le _ _ _ _ fun i hi hp => ?_
    simp only [Function.comp] at hp ⊢
    have hb := sortedF_mem hi
    obtain ⟨q, rfl⟩ : ∃ q : Nat, i = q := ⟨i.toNat, by omega⟩
    simp only [Int.toNat_natCast] at hp ⊢
    refine fieldV_weight (fun h17 x hx => ?_) (fun x hx => h2 x (viewsOf_mem hx).1) (fun b => hs _ b) (of_decide_eq_true hp)
    cases hr : x.run with
    | false => rfl
    | true =>
      have := h3 x (viewsOf_mem hx).1 q (viewsOf_mem hx).2 hr
      rw [h17] at this
      simp [knumber] at this
  omega
/-- the meaning of bytes weighs at most four times as much -/
theorem tof_weight (s : List Mes) : ∀ (d m : Nat) (l : List UInt8), mwt (d + 1) (tof s d m l) ≤ 1 + 4 * l.length
  | 0, m, l => by
    have := msgOf_weight (mwt 0) (sub := tsub s 0) (s.getD m .zero).fields l (fun o b => by show ([] : List Nat).sum ≤ _; simp)
    rw [tof_msg]
    show 1 + twt (msgOf (tsub s 0) (s.getD m .zero).fields l).unk + ((msgOf (tsub s 0) (s.getD m .zero).fields l).vals.map (vwt (mwt 0))).sum ≤ _
    omega
  | d + 1, m, l => by
    have := msgOf_weight (mwt (d + 1)) (sub := tsub s (d + 1)) (s.getD m .zero).fields l (fun o b => by
      have := tof_weight s d o.toNat b
      show ([mwt (d + 1) (tof s d o.toNat b)]).sum ≤ _
      simp; omega)
    rw [tof_msg]
    show 1 + twt (msgOf (tsub s (d + 1)) (s.getD m .zero).fields l).unk + ((msgOf (tsub s (d + 1)) (s.getD m .zero).fields l).vals.map (vwt (mwt (d + 1)))).sum ≤ _
    omega
end Go.Proofs.YtbcpeckmnmhfhaaGreat
namespace Go.Proofs.YtbcpeckmnmhfhaaGreat
open Go.RowKit
/-- A []string of the call's own. -/
def StrsOwn (w : World) (base : Nat) (v : Value) (l : List (List UInt8)) : Prop := w.ownsRow base 9 1 v l.length (l.map strV)
theorem info_string : (Tryz.prog.info? 9).map (fun i => (i.zero, i.size, i.bytes)) = some (some (.string ⟨#[]⟩), 1, 16) := by kernel_rfl
theorem under_strl : Tryz.prog.underlying 39 = some (.slice 9) := Tryz.underlying39
theorem StrsOwn.form {w : World} {base : Nat} {v : Value} {l : List (List UInt8)} (h : StrsOwn w base v l) : ∃ a c, v = .slice a l.length c := by
  rcases h.2 with ⟨h1, h2⟩ | ⟨g, cap, cur, hv, -⟩
  · exact ⟨none, 0, by rw [h1, h2]⟩
  · exact ⟨_, _, hv⟩
theorem StrsOwn.strs {w : World} {base : Nat} {v : Value} {l : List (List UInt8)} (h : StrsOwn w base v l) (hn : l.length ≤ 140737488355328) (hl : ∀ t ∈ l, t.length ≤ 140737488355328) : StrsAt w v l :=
  ⟨row_seg h hn, hl⟩
/-- one more string, laid in a block of its own ahead of the append -/
theorem StrsOwn.one {W : World} {base : Nat} {v : Value} {l : List (List UInt8)} (h : StrsOwn W base v l) (t : List UInt8) (hn : l.length + 1 ≤ 1099511627777) (hB : base ≤ W.heap.size) :
    ∃ v' w', (Builtin.append_ #[39, 39] 39 #[v, .slice (some ⟨W.heap.size, 0, none⟩) 1 1]).run Tryz.prog (W.alloc (.cells #[strV t] 9)) = .ok v' w' ∧ StrsOwn w' base v' (l ++ [t]) ∧ W.grownBy w' v.ownBlock := by
  have hA : Below W.heap.size W (W.alloc (.cells #[strV t] 9)) := (Below.refl _ _).alloc (Nat.le_refl _) _
  have hx : Seg (W.alloc (.cells #[strV t] 9)) (.slice (some ⟨W.heap.size, 0, none⟩) 1 1) 1 1 [strV t] := seg_blk (Blk.new W [strV t] _) 1 1 rfl (by omega)
  have h' : (W.alloc (.cells #[strV t] 9)).ownsRow base 9 1 v l.length (l.map strV) := row_keep h fun b _ _ he => hA.block b (Array.getElem?_eq_some_iff.1 he).1
  obtain ⟨v', w', h1, h2, h3, -⟩ := seg_append (P := Tryz.prog) _ base 39 39 9 (.string ⟨#[]⟩) 1 16 under_strl info_string rfl (by decide) v _ l.length 1 _ _ h' hx (by intro u hu; simp at hu; subst hu; rfl) (by omega) (by omega) (by simp; omega)
  refine ⟨v', w', h1, ?_, ?_⟩
  · unfold StrsOwn
    rw [List.length_append, List.map_append]
    exact h2
  · exact ⟨h3.os, h3.tape, h3.output, Nat.le_trans (by simp) h3.size, fun k hk hr => (h3.block k (by simp; omega) hr).trans (Below.heap_alloc W _ k hk)⟩
end Go.Proofs.YtbcpeckmnmhfhaaGreat
namespace Go.Proofs.YtbcpeckmnmhfhaaGreat
open Go.RowKit Go.Shelf
abbrev noneS : Value := .slice none 0 0
/-- the words s1, the texts s2, the messages s3, the joined bytes j of the records xs of a field f, in memory from block B on -/
def OfInv (s : List Mes) (d : Nat) (f : Fld) (l : List UInt8) (xs : List VW) (B : Nat) (w : World) (j s1 s2 s3 : Value) : Prop :=
  (knumber f.kind = true → s2 = noneS ∧ s3 = noneS ∧ j = noneS ∧ WordsOwn w B s1 ((counts f xs).flatMap (pieceW f l))) ∧
  (f.kind = 17 → s1 = noneS ∧ s2 = noneS ∧
    (f.rep = true → j = noneS ∧ RowsOwn (SubP d) 41 2 0 B w s3 (xs.flatMap fun x => tsub s d f.of (vbytes l x))) ∧
    (f.rep = false → s3 = noneS ∧ Own w B j (xs.flatMap (vbytes l)))) ∧
  (knumber f.kind = false → f.kind ≠ 17 → s1 = noneS ∧ s3 = noneS ∧ j = noneS ∧ StrsOwn w B s2 ((counts f xs).flatMap (pieceB f l)))
theorem own_form {w : World} {base : Nat} {v : Value} {l : List UInt8} (h : Own w base v l) : ∃ a c, v = .slice a l.length c := by
  rcases h.2 with ⟨h1, h2⟩ | ⟨g, cap, cur, hv, -⟩
  · exact ⟨none, 0, by rw [h1, h2]⟩
  · exact ⟨_, _, hv⟩
theorem OfInv.form {s : List Mes} {d : Nat} {f : Fld} {l : List UInt8} {xs : List VW} {B : Nat} {w : World} {j s1 s2 s3 : Value} (h : OfInv s d f l xs B w j s1 s2 s3) :
    ∃ a0 n0 c0 a1 n1 c1 a2 n2 c2 a3 n3 c3, j = .slice a0 n0 c0 ∧ s1 = .slice a1 n1 c1 ∧ s2 = .slice a2 n2 c2 ∧ s3 = .slice a3 n3 c3 := by
  obtain ⟨h1, h2, h3⟩ := h
  by_cases hk : knumber f.kind = true
  · obtain ⟨rfl, rfl, rfl, h4⟩ := h1 hk
    obtain ⟨a, c, rfl⟩ := h4.form
    exact ⟨_, _, _, _, _, _, _, _, _, _, _, _, rfl, rfl, rfl, rfl⟩
  · by_cases h17 : f.kind = 17
    · obtain ⟨rfl, rfl, h4, h5⟩ := h2 h17
      by_cases hr : f.rep = true
      · obtain ⟨rfl, h6⟩ := h4 hr
        obtain ⟨a, c, rfl⟩ := h6.form
        exact ⟨_, _, _, _, _, _, _, _, _, _, _, _, rfl, rfl, rfl, rfl⟩
      · obtain ⟨rfl, h6⟩ := h5 (by simpa using hr)
        obtain ⟨a, c, rfl⟩ := own_form h6
        exact ⟨_, _, _, _, _, _, _, _, _, _, _, _, rfl, rfl, rfl, rfl⟩
    · obtain ⟨rfl, rfl, rfl, h4⟩ := h3 (by simpa using hk) h17
      obtain ⟨a, c, rfl⟩ := h4.form
      exact ⟨_, _, _, _, _, _, _, _, _, _, _, _, rfl, rfl, rfl, rfl⟩
theorem OfInv.start (s : List Mes) (d : Nat) (f : Fld) (l : List UInt8) (B : Nat) (w : World) : OfInv s d f l [] B w noneS noneS noneS noneS := by
  have hc : counts f ([] : List VW) = [] := by unfold counts; split <;> rfl
  refine ⟨fun _ => ⟨rfl, rfl, rfl, ?_⟩, fun _ => ⟨rfl, rfl, fun _ => ⟨rfl, RowsOwn.nil _ _ _ _ _ _⟩, fun _ => ⟨rfl, own_nil _ _⟩⟩, fun _ _ => ⟨rfl, rfl, rfl, ?_⟩⟩
  · rw [hc]; exact World.ownsRow_nil _ _ _ _
  · rw [hc]; exact World.ownsRow_nil _ _ _ _
/-- what lies below B may change -/
theorem OfInv.keep {s : List Mes} {d : Nat} {f : Fld} {l : List UInt8} {xs : List VW} {B : Nat} {w w' : World} {j s1 s2 s3 : Value} (h : OfInv s d f l xs B w j s1 s2 s3)
    (hk : ∀ b, B ≤ b → b < w.heap.size → w'.heap[b]? = w.heap[b]?) (hs : w.heap.size ≤ w'.heap.size) : OfInv s d f l xs B w' j s1 s2 s3 := by
  have hr : ∀ {e : TypeId} {size n : Nat} {v : Value} {ys : List Value}, w.ownsRow B e size v n ys → w'.ownsRow B e size v n ys := fun h => row_keep h fun b _ hb he => hk b hb (Array.getElem?_eq_some_iff.1 he).1
  refine ⟨fun h1 => ?_, fun h1 => ?_, fun h1 h2 => ?_⟩
  · obtain ⟨g1, g2, g3, g4⟩ := h.1 h1
    exact ⟨g1, g2, g3, hr g4⟩
  · obtain ⟨g1, g2, g3, g4⟩ := h.2.1 h1
    exact ⟨g1, g2, fun hr => ⟨(g3 hr).1, (g3 hr).2.later (fun b hlt hc => hk b (by omega) hlt) hs⟩, fun hr' => ⟨(g4 hr').1, hr (g4 hr').2⟩⟩
  · obtain ⟨g1, g2, g3, g4⟩ := h.2.2 h1 h2
    exact ⟨g1, g2, g3, hr g4⟩
theorem counts_flat {α β : Type} (f : Fld) (xs : List α) (x : α) (g : α → List β) : (counts f (xs ++ [x])).flatMap g = (if f.rep = true then (counts f xs).flatMap g else []) ++ g x := by
  rw [counts_snoc, List.flatMap_append]
  by_cases h : f.rep = true
  · rw [if_pos h, if_pos h]; unfold counts; rw [if_pos h]; simp
  · rw [if_neg h, if_neg h]; simp
/-- one more record: of a number -/
theorem OfInv.num {s : List Mes} {d : Nat} {f : Fld} {l : List UInt8} {xs : List VW} {B : Nat} {w : World} {v : Value} {x : VW} (hk : knumber f.kind = true) (ws : List Nat) (hw : (if f.rep = true then (counts f xs).flatMap (pieceW f l) else []) ++ pieceW f l x = ws) (h : WordsOwn w B v ws) :
    OfInv s d f l (xs ++ [x]) B w noneS v noneS noneS := by
  refine ⟨fun _ => ⟨rfl, rfl, rfl, ?_⟩, fun h1 => ?_, fun h1 => ?_⟩
  · rw [counts_flat, hw]; exact h
  · rw [h1] at hk; exact absurd hk (by decide)
  · rw [h1] at hk; cases hk
theorem OfInv.text {s : List Mes} {d : Nat} {f : Fld} {l : List UInt8} {xs : List VW} {B : Nat} {w : World} {v : Value} {x : VW} (hk : knumber f.kind = false) (h17 : f.kind ≠ 17) (hx : x.run = false) (h : StrsOwn w B v ((if f.rep = true then (counts f xs).flatMap (pieceB f l) else []) ++ [vbytes l x])) :
    OfInv s d f l (xs ++ [x]) B w noneS noneS v noneS := by
  refine ⟨fun h1 => ?_, fun h1 => absurd h1 h17, fun _ _ => ⟨rfl, rfl, rfl, ?_⟩⟩
  · rw [h1] at hk; cases hk
  · rw [counts_flat]
    unfold pieceB at h ⊢
    rw [if_neg (show ¬ (x.run = true ∨ knumber f.kind = true) by rw [hx, hk]; simp)]
    exact h
theorem OfInv.sub {s : List Mes} {d : Nat} {f : Fld} {l : List UInt8} {xs : List VW} {B : Nat} {w : World} {v : Value} {x : VW} (h17 : f.kind = 17) (hr : f.rep = true)
    (h : RowsOwn (SubP d) 41 2 0 B w v ((xs.flatMap fun x => tsub s d f.of (vbytes l x)) ++ tsub s d f.of (vbytes l x))) : OfInv s d f l (xs ++ [x]) B w noneS noneS noneS v := by
  refine ⟨fun h1 => ?_, fun _ => ⟨rfl, rfl, fun _ => ⟨rfl, ?_⟩, fun h2 => ?_⟩, fun _ h1 => absurd h17 h1⟩
  · rw [h17] at h1; cases h1
  · rw [List.flatMap_append]; simpa using h
  · rw [hr] at h2; cases h2
theorem OfInv.join {s : List Mes} {d : Nat} {f : Fld} {l : List UInt8} {xs : List VW} {B : Nat} {w : World} {v : Value} {x : VW} (h17 : f.kind = 17) (hr : f.rep = false)
    (h : Own w B v (xs.flatMap (vbytes l) ++ vbytes l x)) : OfInv s d f l (xs ++ [x]) B w v noneS noneS noneS := by
  refine ⟨fun h1 => ?_, fun _ => ⟨rfl, rfl, fun h2 => ?_, fun _ => ⟨rfl, ?_⟩⟩, fun _ h1 => absurd h17 h1⟩
  · rw [h17] at h1; cases h1
  · rw [hr] at h2; cases h2
  · rw [List.flatMap_append]; simpa using h
theorem kread_lt (k : Int) (l : List UInt8) : (kread k l).1 < 2 ^ 64 := by
  unfold kread
  split
  · refine kcanon_lt k ?_
    split
    · rcases vread_cases l with ⟨x, n, e, -, -, -, hx⟩ | ⟨c, e, -⟩
      · rw [e]; exact hx
      · rw [e]; show 0 < _; decide
    · exact wordOf_lt l
  · show 0 < _; decide
theorem pieceW_lt {f : Fld} {l : List UInt8} {x : VW} {y : Nat} (h : y ∈ pieceW f l x) : y < 2 ^ 64 := by
  unfold pieceW at h
  split at h
  · unfold runWords at h
    split at h
    · unfold kwords at h
      obtain ⟨z, -, rfl⟩ := List.mem_map.1 h
      exact kread_lt _ _
    · simp at h
  · split at h
    · simp at h; subst h; exact kread_lt _ _
    · simp at h
/-- the bounds on all pieces -/
theorem words_bound {f : Fld} {l : List UInt8} {xs : List VW} (ht : ∀ x ∈ xs, Thin x) : ((counts f xs).flatMap (pieceW f l)).length ≤ vsum xs := by
  have hc := counts_sum f xs
  have := flat_sum (pieceW f l) List.length rfl (fun a b => List.length_append) (counts f xs) fun x hx => piece_words (ht x (counts_sub f xs hx))
  omega
theorem texts_bound {f : Fld} {l : List UInt8} {xs : List VW} (ht : ∀ x ∈ xs, Thin x) : ((counts f xs).flatMap (pieceB f l)).length ≤ vsum xs := by
  have hc := counts_sum f xs
  have := flat_sum (pieceB f l) List.length rfl (fun a b => List.length_append) (counts f xs) fun x hx => by
    have h1 := ht x (counts_sub f xs hx)
    unfold Thin at h1
    have := @pieceB_len f l x
    omega
  omega
theorem join_bound {l : List UInt8} {xs : List VW} (ht : ∀ x ∈ xs, Thin x) : (xs.flatMap (vbytes l)).length ≤ vsum xs :=
  flat_sum (vbytes l) List.length rfl (fun a b => List.length_append) xs fun x hx => by
    have h1 := ht x hx
    unfold Thin at h1
    have := vbytes_len l x
    omega
theorem tsub_len (s : List Mes) (d : Nat) (o : Int) (b : List UInt8) : (tsub s d o b).length ≤ 1 := by cases d <;> simp [tsub]
theorem subs_bound {s : List Mes} {d : Nat} {o : Int} {l : List UInt8} {xs : List VW} (ht : ∀ x ∈ xs, Thin x) : (xs.flatMap fun x => tsub s d o (vbytes l x)).length ≤ vsum xs :=
  flat_sum (fun x => tsub s d o (vbytes l x)) List.length rfl (fun a b => List.length_append) xs fun x hx => by
    have h1 := ht x hx
    unfold Thin at h1
    have := tsub_len s d o (vbytes l x)
    omega
theorem all_thin (fs : List Fld) (l : List UInt8) : ∀ x ∈ (vall fs l).1, Thin x := (vall_sum fs l l.length 0 (Nat.zero_le _)).2
theorem all_vsum (fs : List Fld) (l : List UInt8) : vsum (vall fs l).1 ≤ l.length := by have := (vall_sum fs l l.length 0 (Nat.zero_le _)).1; unfold vall; omega
theorem vsum_filter (p : VW → Bool) : ∀ (xs : List VW), vsum (xs.filter p) ≤ vsum xs
  | [] => by simp [vsum]
  | x :: r => by
    have := vsum_filter p r
    rw [List.filter_cons]
    unfold vsum at *
    split
    · rw [List.map_cons, List.sum_cons, List.map_cons, List.sum_cons]; omega
    · rw [List.map_cons, List.sum_cons]; omega
/-- of the first k views those of a field -/
theorem part_views (fs : List Fld) (l : List UInt8) (k : Nat) (q : Int) : (∀ x ∈ viewsOf ((vall fs l).1.take k) q, Thin x) ∧ vsum (viewsOf ((vall fs l).1.take k) q) ≤ l.length := by
  refine ⟨fun x hx => all_thin fs l x (List.mem_of_mem_take (viewsOf_mem hx).1), ?_⟩
  have h1 := vsum_filter (fun x => decide (x.k = q)) ((vall fs l).1.take k)
  have h2 := all_vsum fs l
  have h3 : vsum ((vall fs l).1.take k) ≤ vsum (vall fs l).1 := by
    conv => rhs; rw [← List.take_append_drop k (vall fs l).1, vsum_app]
    omega
  unfold viewsOf
  omega
/-- the value of a field, when all its records are gone through, where it is not one message -/
theorem OfInv.done {s : List Mes} {d : Nat} {f : Fld} {l : List UInt8} {xs : List VW} {B : Nat} {w : World} {j s1 s2 s3 : Value} (h : OfInv s d f l xs B w j s1 s2 s3)
    (hrun : ∀ x ∈ xs, x.run = true → knumber f.kind = true) (ht : ∀ x ∈ xs, Thin x) (hv : vsum xs ≤ 1099511627776) (hl : l.length ≤ 1099511627776) (hn : -9223372036854775808 ≤ f.number ∧ f.number ≤ 9223372036854775807)
    (hc : f.kind = 17 → f.rep = false → xs = []) : Apart 0 B w fun w2 => ValP' d w2 [.int .i64 f.number, s1, s2, s3] (fieldV (tsub s d) f l xs) := by
  intro w2 hw2
  have hr : ∀ {e : TypeId} {size n : Nat} {v : Value} {ys : List Value}, w.ownsRow B e size v n ys → w2.ownsRow B e size v n ys := fun h => row_keep h fun b _ hb he => hw2 b (Array.getElem?_eq_some_iff.1 he).1 (.inr hb)
  have hnil1 : WordsAt w2 noneS [] := ⟨row_seg (World.ownsRow_nil w2 0 27 1) (Nat.zero_le _), by simp⟩
  have hnil2 : StrsAt w2 noneS [] := ⟨row_seg (World.ownsRow_nil w2 0 9 1) (Nat.zero_le _), by simp⟩
  have hnil3 : SubsAt (MsgAt d) w2 noneS [] := (RowsOwn.nil (SubP d) 41 2 0 0 w2).at (by simp) fun _ _ _ => rfl
  have hw1 := words_bound (f := f) (l := l) ht
  have hw3 := texts_bound (f := f) (l := l) ht
  have hW : knumber f.kind = false → (counts f xs).flatMap (pieceW f l) = [] := by
    intro hk
    refine flat_nil _ _ fun x hx => ?_
    unfold pieceW
    have : ¬ x.run = true := fun h => by have := hrun x (counts_sub f xs hx) h; rw [hk] at this; cases this
    rw [if_neg this, if_neg (by rw [hk]; decide)]
  by_cases hk : knumber f.kind = true
  · have h17 : f.kind ≠ 17 := by intro e; rw [e] at hk; exact absurd hk (by decide)
    obtain ⟨rfl, rfl, rfl, h4⟩ := h.1 hk
    refine ⟨s1, noneS, noneS, rfl, hn, ?_, ?_, ?_⟩
    · exact ⟨row_seg (hr h4) (Nat.le_trans hw1 (by omega)), fun y hy => by
        obtain ⟨x, -, hx⟩ := List.mem_flatMap.1 (show y ∈ (counts f xs).flatMap (pieceW f l) from hy)
        exact pieceW_lt hx⟩
    · have : (fieldV (tsub s d) f l xs).texts = [] := by
        unfold fieldV
        simp only
        rw [if_neg h17]
        refine flat_nil _ _ fun x _ => ?_
        unfold pieceB
        rw [if_pos (.inr hk)]
      rw [this]; exact hnil2
    · have : (fieldV (tsub s d) f l xs).subs = [] := by unfold fieldV; simp only; rw [if_neg h17]
      rw [this]; exact hnil3
  · have hk' : knumber f.kind = false := by simpa using hk
    have hww : (fieldV (tsub s d) f l xs).words = [] := hW hk'
    by_cases h17 : f.kind = 17
    · obtain ⟨rfl, rfl, h4, h5⟩ := h.2.1 h17
      have htt : (fieldV (tsub s d) f l xs).texts = [] := by unfold fieldV; simp only; rw [if_pos h17]
      refine ⟨noneS, noneS, s3, rfl, hn, by rw [hww]; exact hnil1, by rw [htt]; exact hnil2, ?_⟩
      by_cases hrp : f.rep = true
      · have h6 := (h4 hrp).2
        have hss : (fieldV (tsub s d) f l xs).subs = xs.flatMap fun x => tsub s d f.of (vbytes l x) := by unfold fieldV; simp only; rw [if_pos h17, if_pos hrp]
        rw [hss]
        have hb := subs_bound (s := s) (d := d) (o := f.of) (l := l) ht
        exact h6.at (by omega) hw2
      · have hx := hc h17 (by simpa using hrp)
        obtain ⟨rfl, -⟩ := h5 (by simpa using hrp)
        have hss : (fieldV (tsub s d) f l xs).subs = [] := by unfold fieldV; simp only; rw [if_pos h17, if_neg hrp, if_pos hx]
        rw [hss]; exact hnil3
    · obtain ⟨rfl, rfl, rfl, h4⟩ := h.2.2 hk' h17
      refine ⟨noneS, s2, noneS, rfl, hn, by rw [hww]; exact hnil1, ?_, ?_⟩
      · have htt : (fieldV (tsub s d) f l xs).texts = (counts f xs).flatMap (pieceB f l) := by unfold fieldV; simp only; rw [if_neg h17]
        rw [htt]
        refine ⟨row_seg (hr h4) (by omega), fun t htm => ?_⟩
        obtain ⟨x, -, hx⟩ := List.mem_flatMap.1 htm
        unfold pieceB at hx
        split at hx
        · simp at hx
        · simp at hx
          subst hx
          have := vbytes_len l x
          have : (vbytes l x).length ≤ l.length := by unfold vbytes part; rw [List.length_take, List.length_drop]; omega
          omega
      · have : (fieldV (tsub s d) f l xs).subs = [] := by unfold fieldV; simp only; rw [if_neg h17]
        rw [this]; exact hnil3
/-- .. where it is one message -/
theorem OfInv.done1 {s : List Mes} {d : Nat} {f : Fld} {l : List UInt8} {xs : List VW} {B b : Nat} {w : World} {u1 u2 : Value} {y : M d} (h17 : f.kind = 17) (hr : f.rep = false) (hx : xs ≠ []) (hrun : ∀ x ∈ xs, x.run = false)
    (hn : -9223372036854775808 ≤ f.number ∧ f.number ≤ 9223372036854775807) (hy : tsub s d f.of (xs.flatMap (vbytes l)) = [y]) (hB : B ≤ b) (hb : Blk w b [u1, u2] 41)
    (hm : Apart 0 B w fun w2 => MsgAt d w2 (.agg #[u1, u2]) y) : Apart 0 B w fun w2 => ValP' d w2 [.int .i64 f.number, noneS, noneS, .slice (some ⟨b, 0, none⟩) 1 1] (fieldV (tsub s d) f l xs) := by
  intro w2 hw2
  have hww : (fieldV (tsub s d) f l xs).words = [] := by
    refine flat_nil _ _ fun x hx => ?_
    unfold pieceW
    rw [if_neg (by rw [hrun x (counts_sub f xs hx)]; decide), if_neg (by rw [h17]; decide)]
  have htt : (fieldV (tsub s d) f l xs).texts = [] := by unfold fieldV; simp only; rw [if_pos h17]
  have hss : (fieldV (tsub s d) f l xs).subs = [y] := by unfold fieldV; simp only; rw [if_pos h17, if_neg (by simp [hr]), if_neg hx, hy]
  have hb2 : Blk w2 b [u1, u2] 41 := (hw2 b hb.lt (.inr hB)).trans hb
  refine ⟨noneS, noneS, .slice (some ⟨b, 0, none⟩) 1 1, rfl, hn, ?_, ?_, ?_⟩
  · rw [hww]; exact ⟨row_seg (World.ownsRow_nil w2 0 27 1) (Nat.zero_le _), by simp⟩
  · rw [htt]; exact ⟨row_seg (World.ownsRow_nil w2 0 9 1) (Nat.zero_le _), by simp⟩
  · rw [hss]
    refine ⟨[[u1, u2]], rfl, by simp, seg_blk hb2 2 1 rfl (by omega), fun i r x hr hx => ?_⟩
    cases i with
    | zero => simp at hr hx; subst hr; subst hx; exact hm w2 hw2
    | succ i => simp at hr
end Go.Proofs.YtbcpeckmnmhfhaaGreat
