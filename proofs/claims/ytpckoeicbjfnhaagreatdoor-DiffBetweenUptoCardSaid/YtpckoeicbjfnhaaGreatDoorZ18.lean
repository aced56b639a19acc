/- What a field's value is like in memory while its records are gone through (OfInv), and what it is at the end. No condition. slices.Grow of nil bytes, slices.Concat of a list of byte slices. At most 2^40 bytes in all. (*tree.pieces).add: a record's words or its bytes behind those of a field. At most 2^40 of them. Plain laws: a field's value out of its pieces. No condition. What is asked of tree.of and of darningref14.Of: valid bytes' meaning (tof), in new memory. -/
import Derived.Test.YtpckoeicbjfnhaaGreatDoorZ07
import Derived.Test.YtpckoeicbjfnhaaGreatDoorZ09
import Derived.Test.YtpckoeicbjfnhaaGreatDoorZ13
import Derived.Test.YtpckoeicbjfnhaaGreatDoorZ14
import Derived.Test.YtpckoeicbjfnhaaGreatDoorZ16
import Derived.Test.YtpckoeicbjfnhaaGreatDoorZ17
import Derived.Lib.AppendZerosOnto
namespace Go.Proofs.YtpckoeicbjfnhaaGreatDoor
open Go.RowKit Go.Shelf
abbrev noneS : Value := .slice none 0 0
/-- the words s1, the texts s2, the messages s3, the joined bytes j of the records xs of a field f, in memory from block B on -/
def OfInv (s : List Mes) (d : Nat) (f : Fld) (l : List UInt8) (xs : List VW) (B : Nat) (w : World) (j s1 s2 s3 : Value) : Prop :=
  (knumber f.kind = true → s2 = noneS ∧ s3 = noneS ∧ j = noneS ∧ WordsOwn w B s1 ((counts f xs).flatMap (pieceW f l))) ∧
  (f.kind = 17 → s1 = noneS ∧ s2 = noneS ∧
    (f.rep = true → j = noneS ∧ RowsOwn (SubP d) 39 2 0 B w s3 (xs.flatMap fun x => tsub s d f.of (vbytes l x))) ∧
    (f.rep = false → s3 = noneS ∧ Own w B j (xs.flatMap (vbytes l)))) ∧
  (knumber f.kind = false → f.kind ≠ 17 → s1 = noneS ∧ s3 = noneS ∧ j = noneS ∧ StrsOwn w B s2 ((counts f xs).flatMap (pieceB f l)))
theorem own_form {w : World} {base : Nat} {v : Value} {l : List UInt8} (h : Own w base v l) : ∃ a c, v = .slice a l.length c := by
  rcases h.2 with ⟨h1, h2⟩ | ⟨g, cap, cur, hv, -⟩
  · exact ⟨none, 0, by rw [h1, h2]⟩
  · exact ⟨_, _, hv⟩
theorem OfInv.form {s : List Mes} {d : Nat} {f : Fld} {l : List UInt8} {xs : List VW} {B : Nat} {w : World} {j s1 s2 s3 : Value} (h : OfInv s d f l xs B w j s1 s2 s3) :
    ∃ a0 n0 c0 a1 n1 c1 a2 n2 c2 a3 n3 c3, j = .slice a0 n0 c0 ∧ s1 = .slice a1 n1 c1 ∧ s2 = .slice a2 n2 c2 ∧ s3 = .slice a3 n3 c3 := by
  obtain ⟨h1, h2, h3⟩ := h
  by_cases hk : knumber f.kind = true
  · obtain ⟨rfl, rfl, rfl, h4⟩ := h1 hk
    obtain ⟨a, c, rfl⟩ := h4.form
    exact ⟨_, _, _, _, _, _, _, _, _, _, _, _, rfl, rfl, rfl, rfl⟩
  · by_cases h17 : f.kind = 17
    · obtain ⟨rfl, rfl, h4, h5⟩ := h2 h17
      by_cases hr : f.rep = true
      · obtain ⟨rfl, h6⟩ := h4 hr
        obtain ⟨a, c, rfl⟩ := h6.form
        exact ⟨_, _, _, _, _, _, _, _, _, _, _, _, rfl, rfl, rfl, rfl⟩
      · obtain ⟨rfl, h6⟩ := h5 (by simpa using hr)
        obtain ⟨a, c, rfl⟩ := own_form h6
        exact ⟨_, _, _, _, _, _, _, _, _, _, _, _, rfl, rfl, rfl, rfl⟩
    · obtain ⟨rfl, rfl, rfl, h4⟩ := h3 (by simpa using hk) h17
      obtain ⟨a, c, rfl⟩ := h4.form
      exact ⟨_, _, _, _, _, _, _, _, _, _, _, _, rfl, rfl, rfl, rfl⟩
theorem OfInv.start (s : List Mes) (d : Nat) (f : Fld) (l : List UInt8) (B : Nat) (w : World) : OfInv s d f l [] B w noneS noneS noneS noneS := by
  have hc : counts f ([] : List VW) = [] := by unfold counts; split <;> rfl
  refine ⟨fun _ => ⟨rfl, rfl, rfl, ?_⟩, fun _ => ⟨rfl, rfl, fun _ => ⟨rfl, RowsOwn.nil _ _ _ _ _ _⟩, fun _ => ⟨rfl, own_nil _ _⟩⟩, fun _ _ => ⟨rfl, rfl, rfl, ?_⟩⟩
  · rw [hc]; exact World.ownsRow_nil _ _ _ _
  · rw [hc]; exact World.ownsRow_nil _ _ _ _
/-- what lies below B may change -/
theorem OfInv.keep {s : List Mes} {d : Nat} {f : Fld} {l : List UInt8} {xs : List VW} {B : Nat} {w w' : World} {j s1 s2 s3 : Value} (h : OfInv s d f l xs B w j s1 s2 s3)
    (hk : ∀ b, B ≤ b → b < w.heap.size → w'.heap[b]? = w.heap[b]?) (hs : w.heap.size ≤ w'.heap.size) : OfInv s d f l xs B w' j s1 s2 s3 := by
  have hr : ∀ {e : TypeId} {size n : Nat} {v : Value} {ys : List Value}, w.ownsRow B e size v n ys → w'.ownsRow B e size v n ys := fun h => row_keep h fun b _ hb he => hk b hb (Array.getElem?_eq_some_iff.1 he).1
  refine ⟨fun h1 => ?_, fun h1 => ?_, fun h1 h2 => ?_⟩
  · obtain ⟨g1, g2, g3, g4⟩ := h.1 h1
    exact ⟨g1, g2, g3, hr g4⟩
  · obtain ⟨g1, g2, g3, g4⟩ := h.2.1 h1
    exact ⟨g1, g2, fun hr => ⟨(g3 hr).1, (g3 hr).2.later (fun b hlt hc => hk b (by omega) hlt) hs⟩, fun hr' => ⟨(g4 hr').1, hr (g4 hr').2⟩⟩
  · obtain ⟨g1, g2, g3, g4⟩ := h.2.2 h1 h2
    exact ⟨g1, g2, g3, hr g4⟩
theorem counts_flat {α β : Type} (f : Fld) (xs : List α) (x : α) (g : α → List β) : (counts f (xs ++ [x])).flatMap g = (if f.rep = true then (counts f xs).flatMap g else []) ++ g x := by
  rw [counts_snoc, List.flatMap_append]
  by_cases h : f.rep = true
  · rw [if_pos h, if_pos h]; unfold counts; rw [if_pos h]; simp
  · rw [if_neg h, if_neg h]; simp
/-- one more record: of a number -/
theorem OfInv.num {s : List Mes} {d : Nat} {f : Fld} {l : List UInt8} {xs : List VW} {B : Nat} {w : World} {v : Value} {x : VW} (hk : knumber f.kind = true) (ws : List Nat) (hw : (if f.rep = true then (counts f xs).flatMap (pieceW f l) else []) ++ pieceW f l x = ws) (h : WordsOwn w B v ws) :
    OfInv s d f l (xs ++ [x]) B w noneS v noneS noneS := by
  refine ⟨fun _ => ⟨rfl, rfl, rfl, ?_⟩, fun h1 => ?_, fun h1 => ?_⟩
  · rw [counts_flat, hw]; exact h
  · rw [h1] at hk; exact absurd hk (by decide)
  · rw [h1] at hk; cases hk
theorem OfInv.text {s : List Mes} {d : Nat} {f : Fld} {l : List UInt8} {xs : List VW} {B : Nat} {w : World} {v : Value} {x : VW} (hk : knumber f.kind = false) (h17 : f.kind ≠ 17) (hx : x.run = false) (h : StrsOwn w B v ((if f.rep = true then (counts f xs).flatMap (pieceB f l) else []) ++ [vbytes l x])) :
    OfInv s d f l (xs ++ [x]) B w noneS noneS v noneS := by
  refine ⟨fun h1 => ?_, fun h1 => absurd h1 h17, fun _ _ => ⟨rfl, rfl, rfl, ?_⟩⟩
  · rw [h1] at hk; cases hk
  · rw [counts_flat]
    unfold pieceB at h ⊢
    rw [if_neg (show ¬ (x.run = true ∨ knumber f.kind = true) by rw [hx, hk]; simp)]
    exact h
theorem OfInv.sub {s : List Mes} {d : Nat} {f : Fld} {l : List UInt8} {xs : List VW} {B : Nat} {w : World} {v : Value} {x : VW} (h17 : f.kind = 17) (hr : f.rep = true)
    (h : RowsOwn (SubP d) 39 2 0 B w v ((xs.flatMap fun x => tsub s d f.of (vbytes l x)) ++ tsub s d f.of (vbytes l x))) : OfInv s d f l (xs ++ [x]) B w noneS noneS noneS v := by
  refine ⟨fun h1 => ?_, fun _ => ⟨rfl, rfl, fun _ => ⟨rfl, ?_⟩, fun h2 => ?_⟩, fun _ h1 => absurd h17 h1⟩
  · rw [h17] at h1; cases h1
  · rw [List.flatMap_append]; simpa using h
  · rw [hr] at h2; cases h2
theorem OfInv.join {s : List Mes} {d : Nat} {f : Fld} {l : List UInt8} {xs : List VW} {B : Nat} {w : World} {v : Value} {x : VW} (h17 : f.kind = 17) (hr : f.rep = false)
    (h : Own w B v (xs.flatMap (vbytes l) ++ vbytes l x)) : OfInv s d f l (xs ++ [x]) B w v noneS noneS noneS := by
  refine ⟨fun h1 => ?_, fun _ => ⟨rfl, rfl, fun h2 => ?_, fun _ => ⟨rfl, ?_⟩⟩, fun _ h1 => absurd h17 h1⟩
  · rw [h17] at h1; cases h1
  · rw [hr] at h2; cases h2
  · rw [List.flatMap_append]; simpa using h
theorem kread_lt (k : Int) (l : List UInt8) : (kread k l).1 < 2 ^ 64 := by
  unfold kread
  split
  · refine kcanon_lt k ?_
    split
    · rcases vread_cases l with ⟨x, n, e, -, -, -, hx⟩ | ⟨c, e, -⟩
      · rw [e]; exact hx
      · rw [e]; show 0 < _; decide
    · exact wordOf_lt l
  · show 0 < _; decide
theorem pieceW_lt {f : Fld} {l : List UInt8} {x : VW} {y : Nat} (h : y ∈ pieceW f l x) : y < 2 ^ 64 := by
  unfold pieceW at h
  split at h
  · unfold runWords at h
    split at h
    · unfold kwords at h
      obtain ⟨z, -, rfl⟩ := List.mem_map.1 h
      exact kread_lt _ _
    · simp at h
  · split at h
    · simp at h; subst h; exact kread_lt _ _
    · simp at h
/-- the bounds on all pieces -/
theorem words_bound {f : Fld} {l : List UInt8} {xs : List VW} (ht : ∀ x ∈ xs, Thin x) : ((counts f xs).flatMap (pieceW f l)).length ≤ vsum xs := by
  have hc := counts_sum f xs
  have := flat_sum (pieceW f l) List.length rfl (fun a b => List.length_append) (counts f xs) fun x hx => piece_words (ht x (counts_sub f xs hx))
  omega
theorem texts_bound {f : Fld} {l : List UInt8} {xs : List VW} (ht : ∀ x ∈ xs, Thin x) : ((counts f xs).flatMap (pieceB f l)).length ≤ vsum xs := by
  have hc := counts_sum f xs
  have := flat_sum (pieceB f l) List.length rfl (fun a b => List.length_append) (counts f xs) fun x hx => by
    have h1 := ht x (counts_sub f xs hx)
    unfold Thin at h1
    have := @pieceB_len f l x
    omega
  omega
theorem tsub_len (s : List Mes) (d : Nat) (o : Int) (b : List UInt8) : (tsub s d o b).length ≤ 1 := by cases d <;> simp [tsub]
theorem subs_bound {s : List Mes} {d : Nat} {o : Int} {l : List UInt8} {xs : List VW} (ht : ∀ x ∈ xs, Thin x) : (xs.flatMap fun x => tsub s d o (vbytes l x)).length ≤ vsum xs :=
  flat_sum (fun x => tsub s d o (vbytes l x)) List.length rfl (fun a b => List.length_append) xs fun x hx => by
    have h1 := ht x hx
    unfold Thin at h1
    have := tsub_len s d o (vbytes l x)
    omega
theorem all_thin (fs : List Fld) (l : List UInt8) : ∀ x ∈ (vall fs l).1, Thin x := (vall_sum fs l l.length 0 (Nat.zero_le _)).2
theorem all_vsum (fs : List Fld) (l : List UInt8) : vsum (vall fs l).1 ≤ l.length := by have := (vall_sum fs l l.length 0 (Nat.zero_le _)).1; unfold vall; omega
theorem vsum_filter (p : VW → Bool) : ∀ (xs : List VW), vsum (xs.filter p) ≤ vsum xs
  | [] => by simp [vsum]
  | x :: r => by
    have := vsum_filter p r
    rw [List.filter_cons]
    unfold vsum at *
    split
    · rw [List.map_cons, List.sum_cons, List.map_cons, List.sum_cons]; omega
    · rw [List.map_cons, List.sum_cons]; omega
/-- of the first k views those of a field -/
theorem part_views (fs : List Fld) (l : List UInt8) (k : Nat) (q : Int) : (∀ x ∈ viewsOf ((vall fs l).1.take k) q, Thin x) ∧ vsum (viewsOf ((vall fs l).1.take k) q) ≤ l.length := by
  refine ⟨fun x hx => all_thin fs l x (List.mem_of_mem_take (viewsOf_mem hx).1), ?_⟩
  have h1 := vsum_filter (fun x => decide (x.k = q)) ((vall fs l).1.take k)
  have h2 := all_vsum fs l
  have h3 : vsum ((vall fs l).1.take k) ≤ vsum (vall fs l).1 := by
    conv => rhs; rw [← List.take_append_drop k (vall fs l).1, vsum_app]
    omega
  unfold viewsOf
  omega
/-- the value of a field, when all its records are gone through, where it is not one message -/
theorem OfInv.done {s : List Mes} {d : Nat} {f : Fld} {l : List UInt8} {xs : List VW} {B : Nat} {w : World} {j s1 s2 s3 : Value} (h : OfInv s d f l xs B w j s1 s2 s3)
    (hrun : ∀ x ∈ xs, x.run = true → knumber f.kind = true) (ht : ∀ x ∈ xs, Thin x) (hv : vsum xs ≤ 1099511627776) (hl : l.length ≤ 1099511627776) (hn : -9223372036854775808 ≤ f.number ∧ f.number ≤ 9223372036854775807)
    (hc : f.kind = 17 → f.rep = false → xs = []) : Apart 0 B w fun w2 => ValP' d w2 [.int .i64 f.number, s1, s2, s3] (fieldV (tsub s d) f l xs) := by
  intro w2 hw2
  have hr : ∀ {e : TypeId} {size n : Nat} {v : Value} {ys : List Value}, w.ownsRow B e size v n ys → w2.ownsRow B e size v n ys := fun h => row_keep h fun b _ hb he => hw2 b (Array.getElem?_eq_some_iff.1 he).1 (.inr hb)
  have hnil1 : WordsAt w2 noneS [] := ⟨row_seg (World.ownsRow_nil w2 0 107 1) (Nat.zero_le _), by simp⟩
  have hnil2 : StrsAt w2 noneS [] := ⟨row_seg (World.ownsRow_nil w2 0 9 1) (Nat.zero_le _), by simp⟩
  have hnil3 : SubsAt (MsgAt d) w2 noneS [] := (RowsOwn.nil (SubP d) 39 2 0 0 w2).at (by simp) fun _ _ _ => rfl
  have hw1 := words_bound (f := f) (l := l) ht
  have hw3 := texts_bound (f := f) (l := l) ht
  have hW : knumber f.kind = false → (counts f xs).flatMap (pieceW f l) = [] := by
    intro hk
    refine flat_nil _ _ fun x hx => ?_
    unfold pieceW
    have : ¬ x.run = true := fun h => by have := hrun x (counts_sub f xs hx) h; rw [hk] at this; cases this
    rw [if_neg this, if_neg (by rw [hk]; decide)]
  by_cases hk : knumber f.kind = true
  · have h17 : f.kind ≠ 17 := by intro e; rw [e] at hk; exact absurd hk (by decide)
    obtain ⟨rfl, rfl, rfl, h4⟩ := h.1 hk
    refine ⟨s1, noneS, noneS, rfl, hn, ?_, ?_, ?_⟩
    · exact ⟨row_seg (hr h4) (Nat.le_trans hw1 (by omega)), fun y hy => by
        obtain ⟨x, -, hx⟩ := List.mem_flatMap.1 (show y ∈ (counts f xs).flatMap (pieceW f l) from hy)
        exact pieceW_lt hx⟩
    · have : (fieldV (tsub s d) f l xs).texts = [] := by
        unfold fieldV
        simp only
        rw [if_neg h17]
        refine flat_nil _ _ fun x _ => ?_
        unfold pieceB
        rw [if_pos (.inr hk)]
      rw [this]; exact hnil2
    · have : (fieldV (tsub s d) f l xs).subs = [] := by unfold fieldV; simp only; rw [if_neg h17]
      rw [this]; exact hnil3
  · have hk' : knumber f.kind = false := by simpa using hk
    have hww : (fieldV (tsub s d) f l xs).words = [] := hW hk'
    by_cases h17 : f.kind = 17
    · obtain ⟨rfl, rfl, h4, h5⟩ := h.2.1 h17
      have htt : (fieldV (tsub s d) f l xs).texts = [] := by unfold fieldV; simp only; rw [if_pos h17]
      refine ⟨noneS, noneS, s3, rfl, hn, by rw [hww]; exact hnil1, by rw [htt]; exact hnil2, ?_⟩
      by_cases hrp : f.rep = true
      · have h6 := (h4 hrp).2
        have hss : (fieldV (tsub s d) f l xs).subs = xs.flatMap fun x => tsub s d f.of (vbytes l x) := by unfold fieldV; simp only; rw [if_pos h17, if_pos hrp]
        rw [hss]
        have hb := subs_bound (s := s) (d := d) (o := f.of) (l := l) ht
        exact h6.at (by omega) hw2
      · have hx := hc h17 (by simpa using hrp)
        obtain ⟨rfl, -⟩ := h5 (by simpa using hrp)
        have hss : (fieldV (tsub s d) f l xs).subs = [] := by unfold fieldV; simp only; rw [if_pos h17, if_neg hrp, if_pos hx]
        rw [hss]; exact hnil3
    · obtain ⟨rfl, rfl, rfl, h4⟩ := h.2.2 hk' h17
      refine ⟨noneS, s2, noneS, rfl, hn, by rw [hww]; exact hnil1, ?_, ?_⟩
      · have htt : (fieldV (tsub s d) f l xs).texts = (counts f xs).flatMap (pieceB f l) := by unfold fieldV; simp only; rw [if_neg h17]
        rw [htt]
        refine ⟨row_seg (hr h4) (by omega), fun t htm => ?_⟩
        obtain ⟨x, -, hx⟩ := List.mem_flatMap.1 htm
        unfold pieceB at hx
        split at hx
        · simp at hx
        · simp at hx
          subst hx
          have := vbytes_len l x
          have : (vbytes l x).length ≤ l.length := by unfold vbytes part; rw [List.length_take, List.length_drop]; omega
          omega
      · have : (fieldV (tsub s d) f l xs).subs = [] := by unfold fieldV; simp only; rw [if_neg h17]
        rw [this]; exact hnil3
end Go.Proofs.YtpckoeicbjfnhaaGreatDoor
namespace Go.Proofs.YtpckoeicbjfnhaaGreatDoor
open Go.RowKit
theorem growB_zeros (w : World) (n : Nat) (h0 : 0 < n) (hn : n ≤ 2199023255552) (ty : TypeId) :
    ∃ G, n ≤ G ∧ G ≤ 9223372036854775807 ∧ (Builtin.append_ #[47, 3] ty #[.slice none 0 0, .int .i64 (n : Int)]).run Tryz.prog w = .ok (.slice (some ⟨w.heap.size, 0, none⟩) n G) (w.drew.alloc (.cells (Builtin.zeroCells #[.int .u8 0] n ++ Builtin.zeroCells #[.int .u8 0] (G - n)) 5)) ∧ G ≤ maxLen := by
  obtain ⟨i, hi, hz, hsize, hby⟩ := info_parts info_u8
  have h := Lib.run_append_grow_zeros w 47 3 ty 5 i (.int .u8 0) .i64 .i64 under_bytes Tryz.underlying3 hi hz none 0 0 [] (run_firstCells_none w.drew i.size 0 0 0) n h0 (by omega) (by omega) (by omega) (by rw [hby]; omega)
    (by rw [Nat.zero_add]; exact growslice_fits (by omega) (by rw [hby]; omega))
  rw [Nat.zero_add] at h
  have hm := grownCap_le_maxLen w n 0 5 (by unfold maxLen; omega)
  refine ⟨_, grownCap_ge w n 0 _, by have := hm; unfold maxLen at this; omega, ?_, hm⟩
  simp at h
  exact h
theorem sizeB_zero (z : Value) (n : Nat) : (Builtin.zeroCells #[z] n).size = n := by
  have := size_zeroCells #[z] n
  simpa using this
set_option maxRecDepth 100000 in
set_option maxHeartbeats 4000000 in
theorem grow_bytes (w : World) (n : Nat) (hn : n ≤ 2199023255552) :
    Calls Tryz.prog 231 #[.slice none 0 0, .int .i64 (n : Int)] w fun e w' => ∃ v', e = .returned v' ∧ w'.ownsRow w.heap.size 5 1 v' 0 [] ∧ Below w.heap.size w w' := by
  by_cases h0 : 0 < n
  · obtain ⟨G, h1, h2, h3, h4⟩ := growB_zeros w n h0 hn 47
    have hcut : ∀ W, (Instr.slice 47 (.slice (some ⟨w.heap.size, 0, none⟩) n G) none (some (.int .i64 0)) none).run Tryz.prog W = .ok (.slice (some ⟨w.heap.size, 0, none⟩) 0 G) W := by
      intro W
      have := slice_h_run (P := Tryz.prog) under_bytes size_u8 (some ⟨w.heap.size, 0, none⟩) n G 0 (by omega) W
      rw [show ((0 : Nat) : Int) = 0 from rfl] at this
      rw [this]
      unfold sliced
      by_cases hG : G = 0
      · omega
      · rw [if_neg hG]; rfl
    have hcut0 : ∀ W, (Instr.slice 47 (.slice none 0 0) none (some (.int .i64 0)) none).run Tryz.prog W = .ok (.slice none 0 0) W := by
      intro W
      have := slice_h_run (P := Tryz.prog) under_bytes size_u8 none 0 0 0 (by omega) W
      rw [show ((0 : Nat) : Int) = 0 from rfl] at this
      rw [this]; rfl
    have HOWN : Hid (World.ownsRow (w.drew.alloc (.cells (Builtin.zeroCells #[.int .u8 0] n ++ Builtin.zeroCells #[.int .u8 0] (G - n)) 5)) w.heap.size 5 1 (.slice (some ⟨w.heap.size, 0, none⟩) 0 G) 0 []) := by
      refine ⟨rfl, .inr ⟨w.heap.size, G, _, rfl, Nat.le_refl _, heap_alloc_new w.drew _, Nat.zero_le _, h4, ?_, by simp⟩⟩
      rw [Array.size_append, sizeB_zero, sizeB_zero]; omega
    clear h4
    go_enter Tryz.func231, Tryz.ntmps231
    go_wp2_with (at_builtin; refine wpList_append2_eq rfl _ _ _ _ rfl _ _ rfl rfl h3 ?_)
    go_ret
    exact ⟨_, rfl, HOWN.out, ((Below.refl _ _).drew).alloc (Nat.le_refl _) _⟩
  · obtain rfl : n = 0 := by omega
    go_enter Tryz.func231, Tryz.ntmps231
    go_wp2_with fail
    go_ret
    exact ⟨_, rfl, World.ownsRow_nil _ _ _ _, Below.refl _ _⟩
/-- a [][]byte -/
def PcsAt (w : World) (v : Value) (bs : List (List UInt8)) : Prop := ∃ vs : List Value, vs.length = bs.length ∧ Seg w v 1 bs.length vs ∧ ∀ (i : Nat) (u : Value) (t : List UInt8), vs[i]? = some u → bs[i]? = some t → Bytes w u t
theorem PcsAt.below {w w' : World} {v : Value} {bs : List (List UInt8)} (h : PcsAt w v bs) (hb : Below w.heap.size w w') : PcsAt w' v bs := by
  obtain ⟨vs, h1, h2, h3⟩ := h
  exact ⟨vs, h1, h2.keep (below_keeps hb), fun i u t hu ht => (h3 i u t hu ht).below hb⟩
theorem PcsAt.open {w : World} {v : Value} {bs : List (List UInt8)} (h : PcsAt w v bs) :
    bs.length ≤ 140737488355328 ∧ ∃ a cap, v = .slice a bs.length cap ∧ ∀ i t, bs[i]? = some t → ∃ b o u, a = some ⟨b, o, none⟩ ∧ w.cell? ⟨b, o + i, none⟩ = some u ∧ Bytes w u t := by
  obtain ⟨vs, h1, ⟨h2, h3, a, cap, hv, h4, h5, h6, h7⟩, h8⟩ := h
  refine ⟨h3, a, cap, hv, fun i t ht => ?_⟩
  have hi : i < vs.length := by have := (List.getElem?_eq_some_iff.1 ht).1; omega
  obtain ⟨b, o, e, hc⟩ := h7 i _ (List.getElem?_eq_getElem hi)
  exact ⟨b, o, _, e, hc, h8 i _ t (List.getElem?_eq_getElem hi) ht⟩
theorem flatten_take_le (bs : List (List UInt8)) (i : Nat) : (bs.take i).flatten.length ≤ bs.flatten.length := by
  conv => rhs; rw [← List.take_append_drop i bs, List.flatten_append, List.length_append]
  omega
theorem size_bytes (w : World) : (sizeOf 47).run Tryz.prog w = .ok 1 w := by kernel_rfl
theorem under_bytesl : Tryz.prog.underlying 252 = some (.slice 47) := Tryz.underlying252
set_option maxRecDepth 100000 in
set_option maxHeartbeats 4000000 in
theorem concat_bytes {w : World} {v : Value} {bs : List (List UInt8)} (h : PcsAt w v bs) (hl : bs.flatten.length ≤ 1099511627776) (hn : bs.length ≤ 1099511627776) :
    Calls Tryz.prog 210 #[v] w fun e w' => ∃ v', e = .returned v' ∧ Own w' w.heap.size v' bs.flatten ∧ Below w.heap.size w w' := by
  have H := hid h
  obtain ⟨-, a, cap, rfl, hat⟩ := h.open
  have HAT := hid hat
  obtain ⟨n, HN⟩ : ∃ n, Hid (n = bs.length) := ⟨_, rfl⟩
  rw [← HN.out] at H hn ⊢
  have HL := hid hl
  clear h hat
  go_enter Tryz.func210, Tryz.ntmps210
  go_wp2_with fail
  go_loopw [3, 11] (fun v3 v11 wr => ∃ i : Nat, v11 = .int .i64 (i : Int) ∧ v3 = .int .i64 ((bs.take i).flatten.length : Nat) ∧ i ≤ n ∧ wr = w) (fun _ v11 _ => n - (intOf v11).toNat)
  case atStart => exact ⟨0, rfl, rfl, by omega, rfl⟩
  case round =>
    obtain ⟨i, rfl, rfl, hi, rfl⟩ := hrel
    have hfl := flatten_take_le bs i
    by_cases hlt : i < n
    · obtain ⟨t, ht⟩ : ∃ t, bs[i]? = some t := ⟨_, List.getElem?_eq_getElem (by rw [← HN.out]; exact hlt)⟩
      obtain ⟨b, o, u, rfl, hc, hb⟩ := HAT.out i t ht
      obtain ⟨htl, ua, uc, rfl, -⟩ := hb.open
      have hst : (bs.take (i + 1)).flatten.length = (bs.take i).flatten.length + t.length := by
        rw [List.take_add_one, ht, List.flatten_append, List.length_append]; simp
      have hfl2 := flatten_take_le bs (i + 1)
      have HST := hid hst
      obtain ⟨z, HZ⟩ : ∃ z, Hid (z = (bs.take i).flatten.length) := ⟨_, rfl⟩
      obtain ⟨tn, HT⟩ : ∃ z, Hid (z = t.length) := ⟨_, rfl⟩
      rw [hst] at hfl2
      rw [← HZ.out] at hfl hfl2 ⊢
      rw [← HT.out] at htl hc hfl2
      have hz : z + tn ≤ 1099511627776 := by have := HL.out; omega
      clear hst hb ht
      go_wp2_with fail
      go_roundw
      case rel => exact ⟨i + 1, by go_num, by rw [HST.out, ← HZ.out, ← HT.out]; go_num, hlt, by first | rfl | trivial⟩
      case measure => simp [intOf]; omega
    · obtain rfl : i = n := by omega
      have htk : (bs.take i).flatten.length = bs.flatten.length := by rw [HN.out, List.take_length]
      obtain ⟨z, HZ⟩ : ∃ z, Hid (z = bs.flatten.length) := ⟨_, rfl⟩
      rw [htk, ← HZ.out] at hfl ⊢
      have HG := hid (grow_bytes wr z (by have := HL.out; have := HZ.out; omega))
      have HBB := hid HAT.out
      clear hfl htk
      go_wp2_with (refine HG.out.mono ?_; rintro e w1 ⟨v3, rfl, hO, hB⟩; obtain ⟨a3, n3, k3, rfl⟩ : ∃ a n c, v3 = .slice a n c := by (obtain ⟨-, -, a, c, e, -⟩ := row_seg hO (by omega); exact ⟨_, _, _, e⟩))
      have HO := hid hO
      have HB := hid hB
      clear hO hB
      go_loopw [6, 27] (fun v6 v27 wx => ∃ (j : Nat) (a5 : Option Addr) (n5 c5 : Nat), v27 = .int .i64 (j : Int) ∧ v6 = .slice a5 n5 c5 ∧ j ≤ i ∧ Hid (Own wx wr.heap.size (.slice a5 n5 c5) (bs.take j).flatten ∧ Below wr.heap.size wr wx)) (fun _ v27 _ => i - (intOf v27).toNat)
      case atStart => exact ⟨0, a3, n3, k3, rfl, rfl, by omega, HO.out, HB.out⟩
      case round =>
        obtain ⟨j, a5, n5, c5, rfl, rfl, hj, HJ⟩ := hrel
        by_cases hlt : j < i
        · obtain ⟨t, ht⟩ : ∃ t, bs[j]? = some t := ⟨_, List.getElem?_eq_getElem (by rw [← HN.out]; exact hlt)⟩
          obtain ⟨b, o, u, rfl, hc, hb⟩ := HAT.out j t ht
          have hst : (bs.take (j + 1)).flatten = (bs.take j).flatten ++ t := by
            rw [List.take_add_one, ht, List.flatten_append]; simp
          have hfl2 := flatten_take_le bs (j + 1)
          rw [hst, List.length_append] at hfl2
          have hc' := below_keeps HJ.out.2 _ _ hc
          obtain ⟨v7, w7, hr7, hO7, hg7, -⟩ := own_append HJ.out.1 (hb.below HJ.out.2) (by have := HL.out; omega) HJ.out.2.size
          obtain ⟨-, ua, uc, rfl, -⟩ := hb.open
          obtain ⟨a7, n7, k7, rfl⟩ : ∃ a n c, v7 = .slice a n c := by (obtain ⟨-, -, a, c, e, -⟩ := row_seg hO7 (by rw [List.length_append]; have := HL.out; omega); exact ⟨_, _, _, e⟩)
          have HO7 := hid hO7
          have HB7 := hid (own_grown HJ.out.1 HJ.out.2 hg7)
          have HST := hid hst
          have HR := hid hr7
          clear hO7 hg7 hr7 hst hb ht hfl2
          go_wp2_with (at_builtin; refine wpList_append_eq rfl _ _ _ rfl _ _ rfl rfl HR.out ?_)
          refine ⟨⟨j + 1, a7, n7, k7, by go_num, rfl, hlt, by rw [HST.out]; exact HO7.out, HB7.out⟩, by simp [intOf]; omega⟩
        · obtain rfl : j = i := by omega
          go_wp2_with fail
          go_ret
          refine ⟨_, rfl, ?_, HJ.out.2⟩
          have h9 := HJ.out.1
          rw [List.take_of_length_le (by rw [← HN.out]; exact Nat.le_refl _)] at h9
          exact h9
end Go.Proofs.YtpckoeicbjfnhaaGreatDoor
namespace Go.Proofs.YtpckoeicbjfnhaaGreatDoor
open Go.RowKit Go.Shelf
/-- a [][]byte of the call's own, whose bytes lie below block n0 -/
def PcsOwn (n0 : Nat) (w : World) (base : Nat) (v : Value) (bs : List (List UInt8)) : Prop :=
  ∃ vs : List Value, vs.length = bs.length ∧ w.ownsRow base 47 1 v bs.length vs ∧ ∀ w', (∀ b, b < n0 → w'.heap[b]? = w.heap[b]?) → ∀ (i : Nat) (u : Value) (t : List UInt8), vs[i]? = some u → bs[i]? = some t → Bytes w' u t
theorem PcsOwn.nil (n0 : Nat) (w : World) (base : Nat) : PcsOwn n0 w base noneS [] := ⟨[], rfl, World.ownsRow_nil _ _ _ _, fun _ _ i u t h => by simp at h⟩
theorem PcsOwn.form {n0 : Nat} {w : World} {base : Nat} {v : Value} {bs : List (List UInt8)} (h : PcsOwn n0 w base v bs) : ∃ a c, v = .slice a bs.length c := by
  obtain ⟨vs, -, h2, -⟩ := h
  rcases h2.2 with ⟨h1, h0⟩ | ⟨g, cap, cur, hv, -⟩
  · exact ⟨none, 0, by rw [h1, h0]⟩
  · exact ⟨_, _, hv⟩
theorem PcsOwn.own {n0 : Nat} {w : World} {base : Nat} {v : Value} {bs : List (List UInt8)} (h : PcsOwn n0 w base v bs) (b : Nat) (e : v.ownBlock = some b) : base ≤ b ∧ b < w.heap.size := by
  obtain ⟨vs, -, h2, -⟩ := h
  exact World.ownsRow.lt h2 b e
/-- what is not its own may change, but for the blocks below n0 -/
theorem PcsOwn.keep {n0 : Nat} {w w' : World} {base : Nat} {v : Value} {bs : List (List UInt8)} (h : PcsOwn n0 w base v bs) (hk : ∀ b, v.ownBlock = some b → w'.heap[b]? = w.heap[b]?) (h0 : ∀ b, b < n0 → w'.heap[b]? = w.heap[b]?) : PcsOwn n0 w' base v bs := by
  obtain ⟨vs, h1, h2, h3⟩ := h
  refine ⟨vs, h1, ?_, fun w2 hw2 => h3 w2 fun b hb => (hw2 b hb).trans (h0 b hb)⟩
  refine ⟨h2.1, ?_⟩
  rcases h2.2 with h | ⟨g, cap, cur, hv, hb, hg, hr⟩
  · exact .inl h
  · exact .inr ⟨g, cap, cur, hv, hb, (hk g (by rw [hv]; rfl)).trans hg, hr⟩
theorem WordsOwn.keep {w w' : World} {base : Nat} {v : Value} {l : List Nat} (h : WordsOwn w base v l) (hk : ∀ b, v.ownBlock = some b → w'.heap[b]? = w.heap[b]?) : WordsOwn w' base v l := by
  refine ⟨h.1, ?_⟩
  rcases h.2 with h | ⟨g, cap, cur, hv, hb, hg, hr⟩
  · exact .inl h
  · exact .inr ⟨g, cap, cur, hv, hb, (hk g (by rw [hv]; rfl)).trans hg, hr⟩
theorem WordsOwn.own {w : World} {base : Nat} {v : Value} {l : List Nat} (h : WordsOwn w base v l) (b : Nat) (e : v.ownBlock = some b) : base ≤ b ∧ b < w.heap.size := World.ownsRow.lt h b e
theorem PcsOwn.at {n0 : Nat} {w : World} {base : Nat} {v : Value} {bs : List (List UInt8)} (h : PcsOwn n0 w base v bs) (hn : bs.length ≤ 140737488355328) : PcsAt w v bs := by
  obtain ⟨vs, h1, h2, h3⟩ := h
  exact ⟨vs, h1, row_seg h2 hn, h3 w fun _ _ => rfl⟩
theorem info_bytes : (Tryz.prog.info? 47).map (fun i => (i.zero, i.size, i.bytes)) = some (some (.slice none 0 0), 1, 24) := by kernel_rfl
theorem PcsOwn.one {n0 : Nat} {W : World} {base : Nat} {v u : Value} {bs : List (List UInt8)} (h : PcsOwn n0 W base v bs) (t : List UInt8) (hu1 : u.oneCell' = true) (hu : ∀ w', (∀ b, b < n0 → w'.heap[b]? = W.heap[b]?) → Bytes w' u t) (hn : bs.length ≤ 1099511627776) (hB : base ≤ W.heap.size) (hn0 : n0 ≤ base) :
    ∃ v' w', (Builtin.append_ #[252, 252] 252 #[v, .slice (some ⟨W.heap.size, 0, none⟩) 1 1]).run Tryz.prog (W.alloc (.cells #[u] 47)) = .ok v' w' ∧ PcsOwn n0 w' base v' (bs ++ [t]) ∧ W.grownBy w' v.ownBlock ∧ (v'.ownBlock = v.ownBlock ∨ ∃ b, v'.ownBlock = some b ∧ W.heap.size ≤ b) := by
  obtain ⟨vs, g1, g2, g3⟩ := h
  have hA : Below W.heap.size W (W.alloc (.cells #[u] 47)) := (Below.refl _ _).alloc (Nat.le_refl _) _
  have hx : Seg (W.alloc (.cells #[u] 47)) (.slice (some ⟨W.heap.size, 0, none⟩) 1 1) 1 1 [u] := seg_blk (Blk.new W [u] _) 1 1 rfl (by omega)
  have h' : (W.alloc (.cells #[u] 47)).ownsRow base 47 1 v bs.length vs := row_keep g2 fun b _ _ he => hA.block b (Array.getElem?_eq_some_iff.1 he).1
  obtain ⟨v', w', h1, h2, h3, h4⟩ := seg_append (P := Tryz.prog) _ base 252 252 47 (.slice none 0 0) 1 24 under_bytesl info_bytes rfl (by decide) v _ bs.length 1 _ _ h' hx (by intro y hy; simp at hy; subst hy; exact hu1) (by omega) (by omega) (by simp; omega)
  have hG : W.grownBy w' v.ownBlock := ⟨h3.os, h3.tape, h3.output, Nat.le_trans (by simp) h3.size, fun k hk hr => (h3.block k (by simp; omega) hr).trans (Below.heap_alloc W _ k hk)⟩
  have h0 : ∀ b, b < n0 → w'.heap[b]? = W.heap[b]? := fun b hb => hG.block b (by omega) fun e => by have := (World.ownsRow.lt g2 b e.symm).1; omega
  refine ⟨v', w', h1, ⟨vs ++ [u], by simp [g1], by rw [List.length_append]; exact h2, fun w2 hw2 i y s hy hs => ?_⟩, hG, ?_⟩
  · have hw : ∀ b, b < n0 → w2.heap[b]? = W.heap[b]? := fun b hb => (hw2 b hb).trans (h0 b hb)
    by_cases hi : i < vs.length
    · rw [List.getElem?_append_left hi] at hy
      rw [List.getElem?_append_left (by omega)] at hs
      exact g3 w2 hw i y s hy hs
    · have hi2 : i = vs.length := by
        have := (List.getElem?_eq_some_iff.1 hy).1
        simp at this; omega
      subst hi2
      rw [List.getElem?_concat_length] at hy
      rw [g1, List.getElem?_concat_length] at hs
      cases hy; cases hs
      exact hu w2 hw
  · rcases h4 with h4 | h4
    · exact .inl h4
    · exact .inr ⟨_, h4, by simp⟩
/-- the pieces of a field, in a box g -/
structure Pcs (n0 B : Nat) (f : Fld) (g : Nat) (wv vv : Value) (ws : List Nat) (bs : List (List UInt8)) (w : World) : Prop where
  box : Blk w g (f.cells ++ [wv, vv]) 254
  words : WordsOwn w B wv ws
  vals : PcsOwn n0 w B vv bs
  wg : wv.ownBlock ≠ some g
  vg : vv.ownBlock ≠ some g
  wv : ∀ b, wv.ownBlock = some b → vv.ownBlock ≠ some b
  bg : B ≤ g
/-- only what is the pieces' changes -/
def PcsStep (g : Nat) (wv vv : Value) (w : World) (wv' vv' : Value) (w' : World) : Prop :=
  w'.os = w.os ∧ w'.tape = w.tape ∧ w'.output = w.output ∧ w.heap.size ≤ w'.heap.size ∧ (∀ b, b < w.heap.size → b ≠ g → wv.ownBlock ≠ some b → vv.ownBlock ≠ some b → w'.heap[b]? = w.heap[b]?) ∧
  (wv'.ownBlock = wv.ownBlock ∨ ∃ b, wv'.ownBlock = some b ∧ w.heap.size ≤ b) ∧ (vv'.ownBlock = vv.ownBlock ∨ ∃ b, vv'.ownBlock = some b ∧ w.heap.size ≤ b)
theorem Pcs.below {n0 B : Nat} {f : Fld} {g : Nat} {wv vv : Value} {ws : List Nat} {bs : List (List UInt8)} {w w' : World} (h : Pcs n0 B f g wv vv ws bs w) (hb : Below w.heap.size w w') (hn : n0 ≤ B) : Pcs n0 B f g wv vv ws bs w' :=
  ⟨h.box.below hb, h.words.later hb, h.vals.keep (fun b e => hb.block b (h.vals.own b e).2) (fun b hlt => hb.block b (by have := h.box.lt; have := h.bg; omega)), h.wg, h.vg, h.wv, h.bg⟩
theorem words_app {w : World} {base : Nat} {v x : Value} {l m : List Nat} (h : WordsOwn w base v l) (hx : WordsAt w x m) (hlen : l.length + m.length ≤ 17592186044416) (hbase : base ≤ w.heap.size) :
    ∃ v' w', (Builtin.append_ #[62, 62] 62 #[v, x]).run Tryz.prog w = .ok v' w' ∧ WordsOwn w' base v' (l ++ m) ∧ w.grownBy w' v.ownBlock ∧ (v'.ownBlock = v.ownBlock ∨ ∃ b, v'.ownBlock = some b ∧ w.heap.size ≤ b) := by
  obtain ⟨v', w', hr, hO, hg, hat⟩ := seg_append (P := Tryz.prog) w base 62 62 107 (.int .u64 0) 1 8 under_words info_u64 rfl (by decide) v x l.length m.length _ _ h hx.1
    (by intro u hu; obtain ⟨c, -, rfl⟩ := List.mem_map.1 hu; rfl) (by omega) (by omega) hbase
  refine ⟨v', w', hr, ?_, hg, hat.imp id fun e => ⟨_, e, Nat.le_refl _⟩⟩
  unfold WordsOwn
  rw [List.length_append, List.map_append]
  exact hO
theorem word_app1 {W : World} {base : Nat} {v : Value} {l : List Nat} (h : WordsOwn W base v l) (y : Nat) (hn : l.length ≤ 1099511627776) (hB : base ≤ W.heap.size) :
    ∃ v' w', (Builtin.append_ #[62, 62] 62 #[v, .slice (some ⟨W.heap.size, 0, none⟩) 1 1]).run Tryz.prog (W.alloc (.cells #[.int .u64 (y : Int)] 107)) = .ok v' w' ∧ WordsOwn w' base v' (l ++ [y]) ∧ W.grownBy w' v.ownBlock ∧ (v'.ownBlock = v.ownBlock ∨ ∃ b, v'.ownBlock = some b ∧ W.heap.size ≤ b) := by
  have hA : Below W.heap.size W (W.alloc (.cells #[.int .u64 (y : Int)] 107)) := (Below.refl _ _).alloc (Nat.le_refl _) _
  have hx : Seg (W.alloc (.cells #[.int .u64 (y : Int)] 107)) (.slice (some ⟨W.heap.size, 0, none⟩) 1 1) 1 1 [.int .u64 (y : Int)] := seg_blk (Blk.new W [.int .u64 (y : Int)] _) 1 1 rfl (by omega)
  obtain ⟨v', w', h1, h2, h3, h4⟩ := seg_append (P := Tryz.prog) _ base 62 62 107 (.int .u64 0) 1 8 under_words info_u64 rfl (by decide) v _ l.length 1 _ _ (h.later hA) hx (by intro u hu; simp at hu; subst hu; rfl) (by omega) (by omega) (by simp; omega)
  refine ⟨v', w', h1, ?_, ⟨h3.os, h3.tape, h3.output, Nat.le_trans (by simp) h3.size, fun k hk hr => (h3.block k (by simp; omega) hr).trans (Below.heap_alloc W _ k hk)⟩, h4.imp id fun e => ⟨_, e, by simp⟩⟩
  unfold WordsOwn
  rw [List.length_append, List.map_append]
  exact h2
theorem Pcs.pushW {n0 B : Nat} {f : Fld} {g : Nat} {wv vv wv' : Value} {ws ws' : List Nat} {bs : List (List UInt8)} {w w7 : World} (h : Pcs n0 B f g wv vv ws bs w) (hg : w.grownBy w7 wv.ownBlock) (hO : WordsOwn w7 B wv' ws')
    (hat : wv'.ownBlock = wv.ownBlock ∨ ∃ b, wv'.ownBlock = some b ∧ w.heap.size ≤ b) (hn0 : n0 ≤ B) :
    Blk w7 g (f.cells ++ [wv, vv]) 254 ∧ Pcs n0 B f g wv' vv ws' bs (w7.setCell ⟨g, 6, none⟩ wv') ∧ PcsStep g wv vv w wv' vv (w7.setCell ⟨g, 6, none⟩ wv') := by
  have hgl := h.box.lt
  have hbg := h.bg
  have b7 : Blk w7 g (f.cells ++ [wv, vv]) 254 := (hg.block g hgl (fun e => h.wg e.symm)).trans h.box
  have hwg : wv'.ownBlock ≠ some g := by
    rcases hat with e | ⟨b, e, hb⟩
    · rw [e]; exact h.wg
    · rw [e]; intro e2; injection e2 with e2; omega
  refine ⟨b7, ⟨by simpa [Fld.cells] using b7.set 6 wv', hO.keep fun b e => Below.heap_setCell _ _ _ b (by show b ≠ g; rintro rfl; exact hwg e), ?_, hwg, h.vg, ?_, hbg⟩, hg.os, hg.tape, hg.output, by simpa using hg.size, ?_, hat, .inl rfl⟩
  · refine h.vals.keep (fun b e => ?_) fun b hb => ?_
    · rw [Below.heap_setCell _ _ _ b (by show b ≠ g; rintro rfl; exact h.vg e)]
      exact hg.block b (h.vals.own b e).2 fun e2 => h.wv b e2.symm e
    · rw [Below.heap_setCell _ _ _ b (by show b ≠ g; omega)]
      exact hg.block b (by omega) fun e => by have := (h.words.own b e.symm).1; omega
  · intro b e e2
    rcases hat with e3 | ⟨b', e3, hb⟩
    · exact h.wv b (by rw [← e3]; exact e) e2
    · rw [e3] at e
      injection e with e
      have := (h.vals.own b e2).2
      omega
  · intro b hlt h1 h2 h3
    rw [Below.heap_setCell _ _ _ b (by show b ≠ g; exact h1)]
    exact hg.block b hlt fun e => h2 e.symm
theorem Pcs.pushV {n0 B : Nat} {f : Fld} {g : Nat} {wv vv vv' : Value} {ws : List Nat} {bs bs' : List (List UInt8)} {w w7 : World} (h : Pcs n0 B f g wv vv ws bs w) (hg : w.grownBy w7 vv.ownBlock) (hO : PcsOwn n0 w7 B vv' bs')
    (hat : vv'.ownBlock = vv.ownBlock ∨ ∃ b, vv'.ownBlock = some b ∧ w.heap.size ≤ b) (hn0 : n0 ≤ B) :
    Blk w7 g (f.cells ++ [wv, vv]) 254 ∧ Pcs n0 B f g wv vv' ws bs' (w7.setCell ⟨g, 7, none⟩ vv') ∧ PcsStep g wv vv w wv vv' (w7.setCell ⟨g, 7, none⟩ vv') := by
  have hgl := h.box.lt
  have hbg := h.bg
  have b7 : Blk w7 g (f.cells ++ [wv, vv]) 254 := (hg.block g hgl (fun e => h.vg e.symm)).trans h.box
  have hvg : vv'.ownBlock ≠ some g := by
    rcases hat with e | ⟨b, e, hb⟩
    · rw [e]; exact h.vg
    · rw [e]; intro e2; injection e2 with e2; omega
  refine ⟨b7, ⟨by simpa [Fld.cells] using b7.set 7 vv', ?_, ?_, h.wg, hvg, ?_, hbg⟩, hg.os, hg.tape, hg.output, by simpa using hg.size, ?_, .inl rfl, hat⟩
  · refine h.words.keep fun b e => ?_
    rw [Below.heap_setCell _ _ _ b (by show b ≠ g; rintro rfl; exact h.wg e)]
    exact hg.block b (h.words.own b e).2 fun e2 => h.wv b e e2.symm
  · refine hO.keep (fun b e => Below.heap_setCell _ _ _ b (by show b ≠ g; rintro rfl; exact hvg e)) fun b hb => Below.heap_setCell _ _ _ b (by show b ≠ g; omega)
  · intro b e e2
    rcases hat with e3 | ⟨b', e3, hb⟩
    · exact h.wv b e (by rw [← e3]; exact e2)
    · rw [e3] at e2
      injection e2 with e2
      have := (h.words.own b e).2
      omega
  · intro b hlt h1 h2 h3
    rw [Below.heap_setCell _ _ _ b (by show b ≠ g; exact h1)]
    exact hg.block b hlt fun e => h3 e.symm
theorem PcsStep.ahead {g : Nat} {wv vv wv' vv' : Value} {w W1 w' : World} (hb1 : Below w.heap.size w W1) (h : PcsStep g wv vv W1 wv' vv' w') : PcsStep g wv vv w wv' vv' w' := by
  obtain ⟨s1, s2, s3, s4, s5, s6, s7⟩ := h
  exact ⟨s1.trans hb1.os, s2.trans hb1.tape, s3.trans hb1.output, Nat.le_trans hb1.size s4, fun b hlt g1 g2 g3 => (s5 b (Nat.lt_of_lt_of_le hlt hb1.size) g1 g2 g3).trans (hb1.block b hlt), s6.imp id fun ⟨b, e, hb⟩ => ⟨b, e, Nat.le_trans hb1.size hb⟩, s7.imp id fun ⟨b, e, hb⟩ => ⟨b, e, Nat.le_trans hb1.size hb⟩⟩
theorem WordsOwn.form' {w : World} {base : Nat} {v : Value} {l : List Nat} (h : WordsOwn w base v l) : ∃ a n c, v = .slice a n c := by
  obtain ⟨a, c, e⟩ := h.form; exact ⟨a, _, c, e⟩
theorem PcsOwn.form' {n0 : Nat} {w : World} {base : Nat} {v : Value} {l : List (List UInt8)} (h : PcsOwn n0 w base v l) : ∃ a n c, v = .slice a n c := by
  obtain ⟨a, c, e⟩ := h.form; exact ⟨a, _, c, e⟩
set_option maxRecDepth 100000 in
set_option maxHeartbeats 4000000 in
theorem pieces_add {n0 B : Nat} {f : Fld} {g : Nat} {wv vv : Value} {ws : List Nat} {bs : List (List UInt8)} {w : World} (h : Pcs n0 B f g wv vv ws bs w) (hn0 : n0 ≤ B) (hws : ws.length ≤ 1099511627776) (hbs : bs.length ≤ 1099511627776)
    {l : List UInt8} {x : VW} {bv : Value} (hbv : ∀ w', (∀ b, b < n0 → w'.heap[b]? = w.heap[b]?) → Bytes w' bv (vbytes l x)) (hlen : (vbytes l x).length ≤ 1099511627776) (hpl : (pieceW f l x).length ≤ 1099511627776) (hrun : x.run = true → knumber f.kind = true) :
    Calls Tryz.prog 165 #[.pointer (some ⟨g, 0, none⟩), viewV x.r x.k x.run, bv] w fun e w' => e = .returned (.tuple #[]) ∧ ∃ wv' vv', Pcs n0 B f g wv' vv' (ws ++ pieceW f l x) (bs ++ pieceB f l x) w' ∧ PcsStep g wv vv w wv' vv' w' := by
  obtain ⟨⟨x1, x2, x3, x4, x5⟩, xk, xrun⟩ := x
  obtain ⟨wa, wc, rfl⟩ := h.words.form
  obtain ⟨va, vc, rfl⟩ := h.vals.form
  obtain ⟨W1, HW1⟩ : ∃ W1, Hid (W1 = w.alloc (.cells #[.int .i64 x1, .int .i64 x2, .int .i64 x3, .int .i64 x4, .int .i64 x5, .int .i64 xk, .bool xrun] 212)) := ⟨_, rfl⟩
  have hb1 : Below w.heap.size w W1 := by rw [HW1.out]; exact (Below.refl _ _).alloc (Nat.le_refl _) _
  have hx1 : Blk W1 w.heap.size [.int .i64 x1, .int .i64 x2, .int .i64 x3, .int .i64 x4, .int .i64 x5, .int .i64 xk, .bool xrun] 212 := by rw [HW1.out]; exact Blk.new w [.int .i64 x1, .int .i64 x2, .int .i64 x3, .int .i64 x4, .int .i64 x5, .int .i64 xk, .bool xrun] _
  have h1 := h.below hb1 hn0
  have hgw : B ≤ W1.heap.size := by have := h1.box.lt; have := h1.bg; omega
  have hv1 : ∀ w', (∀ b, b < n0 → w'.heap[b]? = W1.heap[b]?) → Bytes w' bv (vbytes l ⟨⟨x1, x2, x3, x4, x5⟩, xk, xrun⟩) := fun w' hw' => hbv w' fun b hb => (hw' b hb).trans (hb1.block b (by have := h.box.lt; have := h.bg; omega))
  have hby := hv1 W1 fun _ _ => rfl
  obtain ⟨hbl, ba, bc, rfl, -⟩ := hby.open
  obtain ⟨y, HY⟩ : ∃ y, Hid (y = vbytes l ⟨⟨x1, x2, x3, x4, x5⟩, xk, xrun⟩) := ⟨_, rfl⟩
  rw [← HY.out] at hv1 hby hbl hlen
  obtain ⟨bn, HBN⟩ : ∃ n, Hid (n = y.length) := ⟨_, rfl⟩
  have HST : Hid (∀ wv' vv' w', PcsStep g (.slice wa ws.length wc) (.slice va bs.length vc) W1 wv' vv' w' → PcsStep g (.slice wa ws.length wc) (.slice va bs.length vc) w wv' vv' w') := fun _ _ _ h => h.ahead hb1
  have f2 := h1.box.cell 2 (.int .i64 f.kind) rfl
  have f6 := h1.box.cell 6 _ rfl
  have f7 := h1.box.cell 7 _ rfl
  have fz6 := h1.box.free 6
  have fz7 := h1.box.free 7
  have fl := h1.box.lt
  have c6 := hx1.cell 6 _ rfl
  have H1 := hid h1
  have HV1 := hid hv1
  have HBY := hid hby
  have HGW := hid hgw
  have HLN := hid hlen
  obtain ⟨wl, HWL⟩ : ∃ n, Hid (n = ws.length) := ⟨_, rfl⟩
  obtain ⟨vl, HVL⟩ : ∃ n, Hid (n = bs.length) := ⟨_, rfl⟩
  obtain ⟨pw, HPW⟩ : ∃ pw, Hid (pw = pieceW f l ⟨⟨x1, x2, x3, x4, x5⟩, xk, xrun⟩) := ⟨_, rfl⟩
  obtain ⟨pb, HPB⟩ : ∃ pb, Hid (pb = pieceB f l ⟨⟨x1, x2, x3, x4, x5⟩, xk, xrun⟩) := ⟨_, rfl⟩
  rw [← HWL.out, ← HVL.out] at H1 HST
  rw [← HWL.out] at f6 hws
  rw [← HVL.out] at f7 hbs
  rw [← HBN.out] at hbl hlen HV1 HBY
  rw [← HPW.out] at hpl ⊢
  rw [← HPB.out, ← HY.out, ← HBN.out]
  unfold viewV
  simp only at hrun ⊢
  have HPL := hid hpl
  have HWS := hid hws
  have HBS := hid hbs
  clear h hb1 hx1 h1 hgw hbv hv1 hby hpl
  go_enter Tryz.func165, Tryz.ntmps165
  go_upto_region 2 with fail
  rw [← HW1.out]
  cases xrun with
  | true =>
    have hk := hrun rfl
    have HK := hid hk
    have HPE : Hid (pw = (runWords f.kind y).1) := by
      rw [HPW.out, HY.out]; unfold pieceW; rw [if_pos rfl]; exact Eq.refl _
    have HPB0 : Hid (pb = []) := by
      rw [HPB.out]; unfold pieceB; rw [if_pos (.inl rfl)]; exact Eq.refl _
    have HRW := hid (run_Words HBY.out HLN.out f.kind hk)
    have HPT : Hid (∀ u ∈ pw, u < 2 ^ 64) := by rw [HPW.out]; exact fun u hu => pieceW_lt hu
    clear hk hrun
    go_wp2_with (first | (go_at_call 182; refine HRW.out.mono ?_; rintro e w6 ⟨v6, rfl, hO6, hb6⟩; rw [← HPE.out] at hO6; obtain ⟨a6, c6', rfl⟩ := hO6.form; have H6 := H1.out.below hb6 hn0; obtain ⟨v7, w7, hr, hO7, hg7, hat7⟩ := words_app H6.words (hO6.words (by have := HPL.out; omega) HPT.out) (by have := HPL.out; have := HWS.out; have := HWL.out; omega) (by have := hb6.size; have := HGW.out; omega); obtain ⟨a7, n7, c7, rfl⟩ := hO7.form'; obtain ⟨g1, g2, g3⟩ := H6.pushW hg7 hO7 hat7 hn0; have q0 := H6.box.cell 6 _ rfl; have q1 := g1.cell 6 _ rfl; have q2 := g1.free 6; have q3 := g1.lt; have HR := hid hr; have G2 := hid g2; have G3 := hid g3; have HB6 := hid hb6; clear hr g1 g2 g3 hO7 hg7 hat7 H6 hO6 hb6) | (at_builtin; refine wpList_append_eq rfl _ _ _ rfl _ _ rfl rfl HR.out ?_))
    go_end0
    refine ⟨rfl, .slice a7 n7 c7, .slice va vl vc, ?_, ?_⟩
    · rw [HPB0.out, List.append_nil]; exact G2.out
    · rw [← HWL.out, ← HVL.out]; exact HST.out _ _ _ (G3.out.ahead HB6.out)
  | false =>
    cases hnum : knumber f.kind with
    | true =>
      have HK := hid hnum
      obtain ⟨zw, HZW⟩ : ∃ zw, Hid (zw = kread f.kind y) := ⟨_, rfl⟩
      obtain ⟨z1, z2⟩ := zw
      have HPE : Hid (pw = [z1]) := by
        rw [HPW.out]; unfold pieceW; rw [if_neg (show ¬ false = true by decide), if_pos HK.out, ← HY.out, ← HZW.out]; exact Eq.refl _
      have HPB0 : Hid (pb = []) := by
        rw [HPB.out]; unfold pieceB; rw [if_pos (.inr HK.out)]; exact Eq.refl _
      have HRD := hid (scalar_Read HK.out HBY.out)
      rw [← HZW.out] at HRD
      clear hnum hrun
      go_wp2_with (first | (go_at_call 129; refine (kind_Number f.kind _).mono ?_; rintro e w5 ⟨rfl, hb5⟩; rw [HK.out]; have k2 := below_keeps hb5 _ _ f2; have HB5 := hid hb5; have HBY5 := hid (HV1.out w5 fun b hb => hb5.block b (by have := H1.out.box.lt; have := H1.out.bg; omega)); clear hb5) | (go_at_call 131; refine (scalar_Read HK.out HBY5.out).mono ?_; rintro e w6 ⟨rfl, hb6⟩; rw [← HZW.out]; have hb16 := HB5.out.trans (hb6.mono HB5.out.size); have H6 := H1.out.below hb16 hn0; obtain ⟨v7, w7, hr, hO7, hg7, hat7⟩ := word_app1 H6.words z1 (by have := HWS.out; have := HWL.out; omega) (by have := hb16.size; have := HGW.out; omega); obtain ⟨a7, n7, c7, rfl⟩ := hO7.form'; obtain ⟨g1, g2, g3⟩ := H6.pushW hg7 hO7 hat7 hn0; have q0 := H6.box.cell 6 _ rfl; have q1 := g1.cell 6 _ rfl; have q2 := g1.free 6; have q3 := g1.lt; have HR := hid hr; have G2 := hid g2; have G3 := hid g3; have HB6 := hid hb16; clear hr g1 g2 g3 hO7 hg7 hat7 H6 hb6 hb16) | (at_builtin; refine wpList_append_eq rfl _ _ _ rfl _ _ rfl rfl HR.out ?_))
      go_end0
      refine ⟨rfl, .slice a7 n7 c7, .slice va vl vc, ?_, ?_⟩
      · rw [HPB0.out, List.append_nil, HPE.out]; exact G2.out
      · rw [← HWL.out, ← HVL.out]; exact HST.out _ _ _ (G3.out.ahead HB6.out)
    | false =>
      have HK := hid hnum
      have HPE : Hid (pw = []) := by
        rw [HPW.out]; unfold pieceW; rw [if_neg (show ¬ false = true by decide), if_neg (by rw [HK.out]; decide)]; exact Eq.refl _
      have HPB0 : Hid (pb = [y]) := by
        rw [HPB.out]; unfold pieceB; rw [if_neg (by rw [HK.out]; simp), ← HY.out]; exact Eq.refl _
      clear hnum hrun
      go_wp2_with (first | (go_at_call 129; refine (kind_Number f.kind _).mono ?_; rintro e w6 ⟨rfl, hb6⟩; rw [HK.out]; have H6 := H1.out.below hb6 hn0; obtain ⟨v7, w7, hr, hO7, hg7, hat7⟩ := H6.vals.one y (u := .slice ba bn bc) rfl (fun w' hw' => HV1.out w' fun b hb => (hw' b hb).trans (hb6.block b (by have := H1.out.box.lt; have := H1.out.bg; omega))) (by have := HBS.out; have := HVL.out; omega) (by have := hb6.size; have := HGW.out; omega) hn0; obtain ⟨a7, n7, c7, rfl⟩ := hO7.form'; obtain ⟨g1, g2, g3⟩ := H6.pushV hg7 hO7 hat7 hn0; have q0 := H6.box.cell 7 _ rfl; have q1 := g1.cell 7 _ rfl; have q2 := g1.free 7; have q3 := g1.lt; have HR := hid hr; have G2 := hid g2; have G3 := hid g3; have HB6 := hid hb6; clear hr g1 g2 g3 hO7 hg7 hat7 H6 hb6) | (at_builtin; refine wpList_append_eq rfl _ _ _ rfl _ _ rfl rfl HR.out ?_))
      go_end0
      refine ⟨rfl, .slice wa wl wc, .slice a7 n7 c7, ?_, ?_⟩
      · rw [HPB0.out, HPE.out, List.append_nil]; exact G2.out
      · rw [← HWL.out, ← HVL.out]; exact HST.out _ _ _ (G3.out.ahead HB6.out)
end Go.Proofs.YtpckoeicbjfnhaaGreatDoor
namespace Go.Proofs.YtpckoeicbjfnhaaGreatDoor
open Go.RowKit
/-- the values that count -/
def pcsB (f : Fld) (bs : List (List UInt8)) : List (List UInt8) := if f.rep = true then bs else if f.kind = 17 then [bs.flatten] else lastOf bs
theorem pcs_words {f : Fld} {l : List UInt8} {xs : List VW} (hrun : f.rep = false → ∀ x ∈ xs, x.run = false) : (if f.rep = true then xs.flatMap (pieceW f l) else lastOf (xs.flatMap (pieceW f l))) = (counts f xs).flatMap (pieceW f l) := by
  unfold counts
  by_cases h : f.rep = true
  · rw [if_pos h, if_pos h]
  · rw [if_neg h, if_neg h]
    have hr := hrun (by simpa using h)
    refine lastOf_flat _ _ ?_
    by_cases hk : knumber f.kind = true
    · refine .inl fun x hx => ?_
      unfold pieceW
      rw [if_neg (by rw [hr x hx]; decide), if_pos hk]; rfl
    · refine .inr fun x hx => ?_
      unfold pieceW
      rw [if_neg (by rw [hr x hx]; decide), if_neg hk]
theorem pcs_texts {f : Fld} {l : List UInt8} {xs : List VW} (hrun : ∀ x ∈ xs, x.run = true → knumber f.kind = true) (h17 : f.kind ≠ 17) : pcsB f (xs.flatMap (pieceB f l)) = (counts f xs).flatMap (pieceB f l) := by
  unfold pcsB counts
  by_cases h : f.rep = true
  · rw [if_pos h, if_pos h]
  · rw [if_neg h, if_neg h, if_neg h17]
    refine lastOf_flat _ _ ?_
    by_cases hk : knumber f.kind = true
    · refine .inr fun x hx => ?_
      unfold pieceB
      rw [if_pos (.inr hk)]
    · refine .inl fun x hx => ?_
      unfold pieceB
      rw [if_neg (by rintro (h1 | h1); exact hk (hrun x hx h1); exact hk h1)]; rfl
theorem pcs_17 {f : Fld} {l : List UInt8} {xs : List VW} (hrun : ∀ x ∈ xs, x.run = true → knumber f.kind = true) (h17 : f.kind = 17) : xs.flatMap (pieceB f l) = xs.map (vbytes l) := by
  have hk : ¬ knumber f.kind = true := by rw [h17]; decide
  induction xs with
  | nil => rfl
  | cons x r ih =>
    rw [List.flatMap_cons, List.map_cons, ih fun y hy => hrun y (by simp [hy])]
    unfold pieceB
    rw [if_neg (by rintro (h1 | h1); exact hk (hrun x (by simp) h1); exact hk h1)]
    rfl
theorem pcs_subs {s : List Mes} {d : Nat} {f : Fld} {l : List UInt8} {xs : List VW} (hrun : ∀ x ∈ xs, x.run = true → knumber f.kind = true) (h17 : f.kind = 17) (hne : xs ≠ []) :
    (pcsB f (xs.flatMap (pieceB f l))).flatMap (tsub s d f.of) = (fieldV (tsub s d) f l xs).subs := by
  rw [pcs_17 hrun h17]
  unfold fieldV pcsB
  simp only
  rw [if_pos h17]
  by_cases h : f.rep = true
  · rw [if_pos h, if_pos h, List.flatMap_map, if_pos h17]
  · rw [if_neg h, if_neg h, if_pos h17, if_neg hne]
    simp [List.flatMap_def]
/-- each of these is valid -/
theorem pcs_ok {R : Int → List UInt8 → Prop} {f : Fld} {l : List UInt8} {xs : List VW} (h : FieldRecs R f l xs) (h17 : f.kind = 17) (hne : xs ≠ []) : ∀ b ∈ pcsB f (xs.flatMap (pieceB f l)), R f.of b := by
  have hrun : ∀ x ∈ xs, x.run = true → knumber f.kind = true := fun x hx hr => (h.run x hx hr).2
  rw [pcs_17 hrun h17]
  unfold pcsB
  intro b hb
  by_cases hr : f.rep = true
  · rw [if_pos hr] at hb
    obtain ⟨x, hx, rfl⟩ := List.mem_map.1 hb
    exact (h.sub h17).1 x hx
  · rw [if_neg hr, if_pos h17] at hb
    simp at hb
    subst hb
    have := (h.sub h17).2 (by simpa using hr) hne
    rwa [List.flatMap_def] at this
theorem pcsB_len {f : Fld} {l : List UInt8} {xs : List VW} (ht : ∀ x ∈ xs, Thin x) (hv : vsum xs ≤ 1099511627776) : (pcsB f (xs.flatMap (pieceB f l))).length ≤ 1099511627776 ∧ (∀ b ∈ pcsB f (xs.flatMap (pieceB f l)), b.length ≤ 1099511627776) ∧ (xs.flatMap (pieceB f l)).flatten.length ≤ 1099511627776 ∧ (xs.flatMap (pieceB f l)).length ≤ 1099511627776 := by
  have h1 : ∀ ys : List VW, (∀ x ∈ ys, Thin x) → (ys.flatMap (pieceB f l)).flatten.length + (ys.flatMap (pieceB f l)).length ≤ vsum ys := by
    intro ys
    induction ys with
    | nil => simp
    | cons x r ih =>
      intro hy
      have g1 := hy x (by simp)
      have g2 := ih fun y h => hy y (by simp [h])
      have g3 := vbytes_len l x
      have g4 : (pieceB f l x).flatten.length + (pieceB f l x).length ≤ vsize x := by
        unfold Thin at g1
        unfold pieceB
        split
        · simp
        · simp; omega
      rw [List.flatMap_cons, List.flatten_append, List.length_append, List.length_append]
      have : vsum (x :: r) = vsize x + vsum r := by unfold vsum; rw [List.map_cons, List.sum_cons]
      omega
  have h2 := h1 xs ht
  have h3 : ∀ b ∈ xs.flatMap (pieceB f l), b.length ≤ (xs.flatMap (pieceB f l)).flatten.length := by
    intro b hb
    have : ∀ bs : List (List UInt8), b ∈ bs → b.length ≤ bs.flatten.length := by
      intro bs
      induction bs with
      | nil => simp
      | cons c r ih =>
        intro h
        rcases List.mem_cons.1 h with rfl | h
        · simp
        · have := ih h
          rw [List.flatten_cons, List.length_append]; omega
    exact this _ hb
  refine ⟨?_, ?_, by omega, by omega⟩
  · unfold pcsB
    split
    · omega
    · split
      · simp
      · unfold lastOf; rw [List.length_drop]; omega
  · unfold pcsB
    intro b hb
    split at hb
    · have := h3 b hb; omega
    · split at hb
      · simp at hb; subst hb; simp at h2 ⊢; omega
      · have := h3 b (lastOf_sub _ hb); omega
end Go.Proofs.YtpckoeicbjfnhaaGreatDoor
namespace Go.Proofs.YtpckoeicbjfnhaaGreatDoor
open Go.RowKit
/-- tree.of of valid bytes, at most d deep: its result lies in new memory -/
def TOfOk (w0 : World) (sv : Value) (s : List Mes) (d : Nat) : Prop := ∀ (m : Nat) (w : World) (v : Value) (l : List UInt8), m < s.length → Below w0.heap.size w0 w → Bytes w v l → l.length ≤ 1099511627776 → (vmsg s d m l).2 = 0 →
  Calls Tryz.prog 111 #[sv, .int .i64 (m : Int), v] w fun e w' => ∃ v', e = .returned v' ∧ Below w.heap.size w w' ∧ Apart 0 w.heap.size w' fun w2 => MsgAt (d + 1) w2 v' (tof s d m l)
end Go.Proofs.YtpckoeicbjfnhaaGreatDoor
