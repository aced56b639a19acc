/- What a field's value is like in memory while its records are gone through (OfInv), and what it is at the end. No condition. darningref14.Of: what holds in a round for a record of a field (OfSt, OfMid); a message's call in it. No condition. -/
import Derived.Test.YtfimpmennkfjcaaGreatDoorZ20
import Derived.Test.YtfimpmennkfjcaaGreatDoorZ34
import Derived.Test.YtfimpmennkfjcaaGreatDoorZ46
namespace Go.Proofs.YtfimpmennkfjcaaGreatDoor
open Go.RowKit Go.Shelf
abbrev noneS : Value := .slice none 0 0
/-- the words s1, the texts s2, the messages s3, the joined bytes j of the records xs of a field f, in memory from block B on -/
def OfInv (s : List Mes) (d : Nat) (f : Fld) (l : List UInt8) (xs : List VW) (B : Nat) (w : World) (j s1 s2 s3 : Value) : Prop :=
  (knumber f.kind = true → s2 = noneS ∧ s3 = noneS ∧ j = noneS ∧ WordsOwn w B s1 ((counts f xs).flatMap (pieceW f l))) ∧
  (f.kind = 17 → s1 = noneS ∧ s2 = noneS ∧
    (f.rep = true → j = noneS ∧ RowsOwn (SubP d) 45 2 0 B w s3 (xs.flatMap fun x => tsub s d f.of (vbytes l x))) ∧
    (f.rep = false → s3 = noneS ∧ Own w B j (xs.flatMap (vbytes l)))) ∧
  (knumber f.kind = false → f.kind ≠ 17 → s1 = noneS ∧ s3 = noneS ∧ j = noneS ∧ StrsOwn w B s2 ((counts f xs).flatMap (pieceB f l)))
theorem own_form {w : World} {base : Nat} {v : Value} {l : List UInt8} (h : Own w base v l) : ∃ a c, v = .slice a l.length c := by
  rcases h.2 with ⟨h1, h2⟩ | ⟨g, cap, cur, hv, -⟩
  · exact ⟨none, 0, by rw [h1, h2]⟩
  · exact ⟨_, _, hv⟩
theorem OfInv.form {s : List Mes} {d : Nat} {f : Fld} {l : List UInt8} {xs : List VW} {B : Nat} {w : World} {j s1 s2 s3 : Value} (h : OfInv s d f l xs B w j s1 s2 s3) :
    ∃ a0 n0 c0 a1 n1 c1 a2 n2 c2 a3 n3 c3, j = .slice a0 n0 c0 ∧ s1 = .slice a1 n1 c1 ∧ s2 = .slice a2 n2 c2 ∧ s3 = .slice a3 n3 c3 := by
  obtain ⟨h1, h2, h3⟩ := h
  by_cases hk : knumber f.kind = true
  · obtain ⟨rfl, rfl, rfl, h4⟩ := h1 hk
    obtain ⟨a, c, rfl⟩ := h4.form
    exact ⟨_, _, _, _, _, _, _, _, _, _, _, _, rfl, rfl, rfl, rfl⟩
  · by_cases h17 : f.kind = 17
    · obtain ⟨rfl, rfl, h4, h5⟩ := h2 h17
      by_cases hr : f.rep = true
      · obtain ⟨rfl, h6⟩ := h4 hr
        obtain ⟨a, c, rfl⟩ := h6.form
        exact ⟨_, _, _, _, _, _, _, _, _, _, _, _, rfl, rfl, rfl, rfl⟩
      · obtain ⟨rfl, h6⟩ := h5 (by simpa using hr)
        obtain ⟨a, c, rfl⟩ := own_form h6
        exact ⟨_, _, _, _, _, _, _, _, _, _, _, _, rfl, rfl, rfl, rfl⟩
    · obtain ⟨rfl, rfl, rfl, h4⟩ := h3 (by simpa using hk) h17
      obtain ⟨a, c, rfl⟩ := h4.form
      exact ⟨_, _, _, _, _, _, _, _, _, _, _, _, rfl, rfl, rfl, rfl⟩
theorem OfInv.start (s : List Mes) (d : Nat) (f : Fld) (l : List UInt8) (B : Nat) (w : World) : OfInv s d f l [] B w noneS noneS noneS noneS := by
  have hc : counts f ([] : List VW) = [] := by unfold counts; split <;> rfl
  refine ⟨fun _ => ⟨rfl, rfl, rfl, ?_⟩, fun _ => ⟨rfl, rfl, fun _ => ⟨rfl, RowsOwn.nil _ _ _ _ _ _⟩, fun _ => ⟨rfl, own_nil _ _⟩⟩, fun _ _ => ⟨rfl, rfl, rfl, ?_⟩⟩
  · rw [hc]; exact World.ownsRow_nil _ _ _ _
  · rw [hc]; exact World.ownsRow_nil _ _ _ _
/-- what lies below B may change -/
theorem OfInv.keep {s : List Mes} {d : Nat} {f : Fld} {l : List UInt8} {xs : List VW} {B : Nat} {w w' : World} {j s1 s2 s3 : Value} (h : OfInv s d f l xs B w j s1 s2 s3)
    (hk : ∀ b, B ≤ b → b < w.heap.size → w'.heap[b]? = w.heap[b]?) (hs : w.heap.size ≤ w'.heap.size) : OfInv s d f l xs B w' j s1 s2 s3 := by
  have hr : ∀ {e : TypeId} {size n : Nat} {v : Value} {ys : List Value}, w.ownsRow B e size v n ys → w'.ownsRow B e size v n ys := fun h => row_keep h fun b _ hb he => hk b hb (Array.getElem?_eq_some_iff.1 he).1
  refine ⟨fun h1 => ?_, fun h1 => ?_, fun h1 h2 => ?_⟩
  · obtain ⟨g1, g2, g3, g4⟩ := h.1 h1
    exact ⟨g1, g2, g3, hr g4⟩
  · obtain ⟨g1, g2, g3, g4⟩ := h.2.1 h1
    exact ⟨g1, g2, fun hr => ⟨(g3 hr).1, (g3 hr).2.later (fun b hlt hc => hk b (by omega) hlt) hs⟩, fun hr' => ⟨(g4 hr').1, hr (g4 hr').2⟩⟩
  · obtain ⟨g1, g2, g3, g4⟩ := h.2.2 h1 h2
    exact ⟨g1, g2, g3, hr g4⟩
theorem counts_flat {α β : Type} (f : Fld) (xs : List α) (x : α) (g : α → List β) : (counts f (xs ++ [x])).flatMap g = (if f.rep = true then (counts f xs).flatMap g else []) ++ g x := by
  rw [counts_snoc, List.flatMap_append]
  by_cases h : f.rep = true
  · rw [if_pos h, if_pos h]; unfold counts; rw [if_pos h]; simp
  · rw [if_neg h, if_neg h]; simp
/-- one more record: of a number -/
theorem OfInv.num {s : List Mes} {d : Nat} {f : Fld} {l : List UInt8} {xs : List VW} {B : Nat} {w : World} {v : Value} {x : VW} (hk : knumber f.kind = true) (ws : List Nat) (hw : (if f.rep = true then (counts f xs).flatMap (pieceW f l) else []) ++ pieceW f l x = ws) (h : WordsOwn w B v ws) :
    OfInv s d f l (xs ++ [x]) B w noneS v noneS noneS := by
  refine ⟨fun _ => ⟨rfl, rfl, rfl, ?_⟩, fun h1 => ?_, fun h1 => ?_⟩
  · rw [counts_flat, hw]; exact h
  · rw [h1] at hk; exact absurd hk (by decide)
  · rw [h1] at hk; cases hk
theorem OfInv.text {s : List Mes} {d : Nat} {f : Fld} {l : List UInt8} {xs : List VW} {B : Nat} {w : World} {v : Value} {x : VW} (hk : knumber f.kind = false) (h17 : f.kind ≠ 17) (hx : x.run = false) (h : StrsOwn w B v ((if f.rep = true then (counts f xs).flatMap (pieceB f l) else []) ++ [vbytes l x])) :
    OfInv s d f l (xs ++ [x]) B w noneS noneS v noneS := by
  refine ⟨fun h1 => ?_, fun h1 => absurd h1 h17, fun _ _ => ⟨rfl, rfl, rfl, ?_⟩⟩
  · rw [h1] at hk; cases hk
  · rw [counts_flat]
    unfold pieceB at h ⊢
    rw [if_neg (show ¬ (x.run = true ∨ knumber f.kind = true) by rw [hx, hk]; simp)]
    exact h
theorem OfInv.sub {s : List Mes} {d : Nat} {f : Fld} {l : List UInt8} {xs : List VW} {B : Nat} {w : World} {v : Value} {x : VW} (h17 : f.kind = 17) (hr : f.rep = true)
    (h : RowsOwn (SubP d) 45 2 0 B w v ((xs.flatMap fun x => tsub s d f.of (vbytes l x)) ++ tsub s d f.of (vbytes l x))) : OfInv s d f l (xs ++ [x]) B w noneS noneS noneS v := by
  refine ⟨fun h1 => ?_, fun _ => ⟨rfl, rfl, fun _ => ⟨rfl, ?_⟩, fun h2 => ?_⟩, fun _ h1 => absurd h17 h1⟩
  · rw [h17] at h1; cases h1
  · rw [List.flatMap_append]; simpa using h
  · rw [hr] at h2; cases h2
theorem OfInv.join {s : List Mes} {d : Nat} {f : Fld} {l : List UInt8} {xs : List VW} {B : Nat} {w : World} {v : Value} {x : VW} (h17 : f.kind = 17) (hr : f.rep = false)
    (h : Own w B v (xs.flatMap (vbytes l) ++ vbytes l x)) : OfInv s d f l (xs ++ [x]) B w v noneS noneS noneS := by
  refine ⟨fun h1 => ?_, fun _ => ⟨rfl, rfl, fun h2 => ?_, fun _ => ⟨rfl, ?_⟩⟩, fun _ h1 => absurd h17 h1⟩
  · rw [h17] at h1; cases h1
  · rw [hr] at h2; cases h2
  · rw [List.flatMap_append]; simpa using h
theorem kread_lt (k : Int) (l : List UInt8) : (kread k l).1 < 2 ^ 64 := by
  unfold kread
  split
  · refine kcanon_lt k ?_
    split
    · rcases vread_cases l with ⟨x, n, e, -, -, -, hx⟩ | ⟨c, e, -⟩
      · rw [e]; exact hx
      · rw [e]; show 0 < _; decide
    · exact wordOf_lt l
  · show 0 < _; decide
theorem pieceW_lt {f : Fld} {l : List UInt8} {x : VW} {y : Nat} (h : y ∈ pieceW f l x) : y < 2 ^ 64 := by
  unfold pieceW at h
  split at h
  · unfold runWords at h
    split at h
    · unfold kwords at h
      obtain ⟨z, -, rfl⟩ := List.mem_map.1 h
      exact kread_lt _ _
    · simp at h
  · split at h
    · simp at h; subst h; exact kread_lt _ _
    · simp at h
/-- the bounds on all pieces -/
theorem words_bound {f : Fld} {l : List UInt8} {xs : List VW} (ht : ∀ x ∈ xs, Thin x) : ((counts f xs).flatMap (pieceW f l)).length ≤ vsum xs := by
  have hc := counts_sum f xs
  have := flat_sum (pieceW f l) List.length rfl (fun a b => List.length_append) (counts f xs) fun x hx => piece_words (ht x (counts_sub f xs hx))
  omega
theorem texts_bound {f : Fld} {l : List UInt8} {xs : List VW} (ht : ∀ x ∈ xs, Thin x) : ((counts f xs).flatMap (pieceB f l)).length ≤ vsum xs := by
  have hc := counts_sum f xs
  have := flat_sum (pieceB f l) List.length rfl (fun a b => List.length_append) (counts f xs) fun x hx => by
    have h1 := ht x (counts_sub f xs hx)
    unfold Thin at h1
    have := @pieceB_len f l x
    omega
  omega
theorem join_bound {l : List UInt8} {xs : List VW} (ht : ∀ x ∈ xs, Thin x) : (xs.flatMap (vbytes l)).length ≤ vsum xs :=
  flat_sum (vbytes l) List.length rfl (fun a b => List.length_append) xs fun x hx => by
    have h1 := ht x hx
    unfold Thin at h1
    have := vbytes_len l x
    omega
theorem tsub_len (s : List Mes) (d : Nat) (o : Int) (b : List UInt8) : (tsub s d o b).length ≤ 1 := by cases d <;> simp [tsub]
theorem subs_bound {s : List Mes} {d : Nat} {o : Int} {l : List UInt8} {xs : List VW} (ht : ∀ x ∈ xs, Thin x) : (xs.flatMap fun x => tsub s d o (vbytes l x)).length ≤ vsum xs :=
  flat_sum (fun x => tsub s d o (vbytes l x)) List.length rfl (fun a b => List.length_append) xs fun x hx => by
    have h1 := ht x hx
    unfold Thin at h1
    have := tsub_len s d o (vbytes l x)
    omega
theorem all_thin (fs : List Fld) (l : List UInt8) : ∀ x ∈ (vall fs l).1, Thin x := (vall_sum fs l l.length 0 (Nat.zero_le _)).2
theorem all_vsum (fs : List Fld) (l : List UInt8) : vsum (vall fs l).1 ≤ l.length := by have := (vall_sum fs l l.length 0 (Nat.zero_le _)).1; unfold vall; omega
theorem vsum_filter (p : VW → Bool) : ∀ (xs : List VW), vsum (xs.filter p) ≤ vsum xs
  | [] => by simp [vsum]
  | x :: r => by
    have := vsum_filter p r
    rw [List.filter_cons]
    unfold vsum at *
    split
    · rw [List.map_cons, List.sum_cons, List.map_cons, List.sum_cons]; omega
    · rw [List.map_cons, List.sum_cons]; omega
/-- of the first k views those of a field -/
theorem part_views (fs : List Fld) (l : List UInt8) (k : Nat) (q : Int) : (∀ x ∈ viewsOf ((vall fs l).1.take k) q, Thin x) ∧ vsum (viewsOf ((vall fs l).1.take k) q) ≤ l.length := by
  refine ⟨fun x hx => all_thin fs l x (List.mem_of_mem_take (viewsOf_mem hx).1), ?_⟩
  have h1 := vsum_filter (fun x => decide (x.k = q)) ((vall fs l).1.take k)
  have h2 := all_vsum fs l
  have h3 : vsum ((vall fs l).1.take k) ≤ vsum (vall fs l).1 := by
    conv => rhs; rw [← List.take_append_drop k (vall fs l).1, vsum_app]
    omega
  unfold viewsOf
  omega
/-- the value of a field, when all its records are gone through, where it is not one message -/
theorem OfInv.done {s : List Mes} {d : Nat} {f : Fld} {l : List UInt8} {xs : List VW} {B : Nat} {w : World} {j s1 s2 s3 : Value} (h : OfInv s d f l xs B w j s1 s2 s3)
    (hrun : ∀ x ∈ xs, x.run = true → knumber f.kind = true) (ht : ∀ x ∈ xs, Thin x) (hv : vsum xs ≤ 1099511627776) (hl : l.length ≤ 1099511627776) (hn : -9223372036854775808 ≤ f.number ∧ f.number ≤ 9223372036854775807)
    (hc : f.kind = 17 → f.rep = false → xs = []) : Apart 0 B w fun w2 => ValP' d w2 [.int .i64 f.number, s1, s2, s3] (fieldV (tsub s d) f l xs) := by
  intro w2 hw2
  have hr : ∀ {e : TypeId} {size n : Nat} {v : Value} {ys : List Value}, w.ownsRow B e size v n ys → w2.ownsRow B e size v n ys := fun h => row_keep h fun b _ hb he => hw2 b (Array.getElem?_eq_some_iff.1 he).1 (.inr hb)
  have hnil1 : WordsAt w2 noneS [] := ⟨row_seg (World.ownsRow_nil w2 0 86 1) (Nat.zero_le _), by simp⟩
  have hnil2 : StrsAt w2 noneS [] := ⟨row_seg (World.ownsRow_nil w2 0 9 1) (Nat.zero_le _), by simp⟩
  have hnil3 : SubsAt (MsgAt d) w2 noneS [] := (RowsOwn.nil (SubP d) 45 2 0 0 w2).at (by simp) fun _ _ _ => rfl
  have hw1 := words_bound (f := f) (l := l) ht
  have hw3 := texts_bound (f := f) (l := l) ht
  have hW : knumber f.kind = false → (counts f xs).flatMap (pieceW f l) = [] := by
    intro hk
    refine flat_nil _ _ fun x hx => ?_
    unfold pieceW
    have : ¬ x.run = true := fun h => by have := hrun x (counts_sub f xs hx) h; rw [hk] at this; cases this
    rw [if_neg this, if_neg (by rw [hk]; decide)]
  by_cases hk : knumber f.kind = true
  · have h17 : f.kind ≠ 17 := by intro e; rw [e] at hk; exact absurd hk (by decide)
    obtain ⟨rfl, rfl, rfl, h4⟩ := h.1 hk
    refine ⟨s1, noneS, noneS, rfl, hn, ?_, ?_, ?_⟩
    · exact ⟨row_seg (hr h4) (Nat.le_trans hw1 (by omega)), fun y hy => by
        obtain ⟨x, -, hx⟩ := List.mem_flatMap.1 (show y ∈ (counts f xs).flatMap (pieceW f l) from hy)
        exact pieceW_lt hx⟩
    · have : (fieldV (tsub s d) f l xs).texts = [] := by
        unfold fieldV
        simp only
        rw [if_neg h17]
        refine flat_nil _ _ fun x _ => ?_
        unfold pieceB
        rw [if_pos (.inr hk)]
      rw [this]; exact hnil2
    · have : (fieldV (tsub s d) f l xs).subs = [] := by unfold fieldV; simp only; rw [if_neg h17]
      rw [this]; exact hnil3
  · have hk' : knumber f.kind = false := by simpa using hk
    have hww : (fieldV (tsub s d) f l xs).words = [] := hW hk'
    by_cases h17 : f.kind = 17
    · obtain ⟨rfl, rfl, h4, h5⟩ := h.2.1 h17
      have htt : (fieldV (tsub s d) f l xs).texts = [] := by unfold fieldV; simp only; rw [if_pos h17]
      refine ⟨noneS, noneS, s3, rfl, hn, by rw [hww]; exact hnil1, by rw [htt]; exact hnil2, ?_⟩
      by_cases hrp : f.rep = true
      · have h6 := (h4 hrp).2
        have hss : (fieldV (tsub s d) f l xs).subs = xs.flatMap fun x => tsub s d f.of (vbytes l x) := by unfold fieldV; simp only; rw [if_pos h17, if_pos hrp]
        rw [hss]
        have hb := subs_bound (s := s) (d := d) (o := f.of) (l := l) ht
        exact h6.at (by omega) hw2
      · have hx := hc h17 (by simpa using hrp)
        obtain ⟨rfl, -⟩ := h5 (by simpa using hrp)
        have hss : (fieldV (tsub s d) f l xs).subs = [] := by unfold fieldV; simp only; rw [if_pos h17, if_neg hrp, if_pos hx]
        rw [hss]; exact hnil3
    · obtain ⟨rfl, rfl, rfl, h4⟩ := h.2.2 hk' h17
      refine ⟨noneS, s2, noneS, rfl, hn, by rw [hww]; exact hnil1, ?_, ?_⟩
      · have htt : (fieldV (tsub s d) f l xs).texts = (counts f xs).flatMap (pieceB f l) := by unfold fieldV; simp only; rw [if_neg h17]
        rw [htt]
        refine ⟨row_seg (hr h4) (by omega), fun t htm => ?_⟩
        obtain ⟨x, -, hx⟩ := List.mem_flatMap.1 htm
        unfold pieceB at hx
        split at hx
        · simp at hx
        · simp at hx
          subst hx
          have := vbytes_len l x
          have : (vbytes l x).length ≤ l.length := by unfold vbytes part; rw [List.length_take, List.length_drop]; omega
          omega
      · have : (fieldV (tsub s d) f l xs).subs = [] := by unfold fieldV; simp only; rw [if_neg h17]
        rw [this]; exact hnil3
/-- .. where it is one message -/
theorem OfInv.done1 {s : List Mes} {d : Nat} {f : Fld} {l : List UInt8} {xs : List VW} {B b : Nat} {w : World} {u1 u2 : Value} {y : M d} (h17 : f.kind = 17) (hr : f.rep = false) (hx : xs ≠ []) (hrun : ∀ x ∈ xs, x.run = false)
    (hn : -9223372036854775808 ≤ f.number ∧ f.number ≤ 9223372036854775807) (hy : tsub s d f.of (xs.flatMap (vbytes l)) = [y]) (hB : B ≤ b) (hb : Blk w b [u1, u2] 45)
    (hm : Apart 0 B w fun w2 => MsgAt d w2 (.agg #[u1, u2]) y) : Apart 0 B w fun w2 => ValP' d w2 [.int .i64 f.number, noneS, noneS, .slice (some ⟨b, 0, none⟩) 1 1] (fieldV (tsub s d) f l xs) := by
  intro w2 hw2
  have hww : (fieldV (tsub s d) f l xs).words = [] := by
    refine flat_nil _ _ fun x hx => ?_
    unfold pieceW
    rw [if_neg (by rw [hrun x (counts_sub f xs hx)]; decide), if_neg (by rw [h17]; decide)]
  have htt : (fieldV (tsub s d) f l xs).texts = [] := by unfold fieldV; simp only; rw [if_pos h17]
  have hss : (fieldV (tsub s d) f l xs).subs = [y] := by unfold fieldV; simp only; rw [if_pos h17, if_neg (by simp [hr]), if_neg hx, hy]
  have hb2 : Blk w2 b [u1, u2] 45 := (hw2 b hb.lt (.inr hB)).trans hb
  refine ⟨noneS, noneS, .slice (some ⟨b, 0, none⟩) 1 1, rfl, hn, ?_, ?_, ?_⟩
  · rw [hww]; exact ⟨row_seg (World.ownsRow_nil w2 0 86 1) (Nat.zero_le _), by simp⟩
  · rw [htt]; exact ⟨row_seg (World.ownsRow_nil w2 0 9 1) (Nat.zero_le _), by simp⟩
  · rw [hss]
    refine ⟨[[u1, u2]], rfl, by simp, seg_blk hb2 2 1 rfl (by omega), fun i r x hr hx => ?_⟩
    cases i with
    | zero => simp at hr hx; subst hr; subst hx; exact hm w2 hw2
    | succ i => simp at hr
end Go.Proofs.YtfimpmennkfjcaaGreatDoor
namespace Go.Proofs.YtfimpmennkfjcaaGreatDoor
open Go.RowKit Go.Shelf
/-- the value's box, block F + 1 -/
def OfSt (W5 : World) (F : Nat) (s : List Mes) (d : Nat) (f : Fld) (l : List UInt8) (xs : List VW) (w : World) (j s1 s2 s3 : Value) : Prop :=
  Below (F + 1) W5 w ∧ Blk w (F + 1) [.int .i64 f.number, s1, s2, s3] 91 ∧ OfInv s d f l xs (F + 1 + 1) w j s1 s2 s3
/-- .. where a single field's last value is gone -/
def OfMid (W5 : World) (F : Nat) (s : List Mes) (d : Nat) (f : Fld) (l : List UInt8) (xs : List VW) (w : World) (j s1 s2 s3 : Value) : Prop :=
  Below (F + 1) W5 w ∧ Blk w (F + 1) [.int .i64 f.number, s1, s2, s3] 91 ∧
  (knumber f.kind = true → s2 = noneS ∧ s3 = noneS ∧ j = noneS ∧ WordsOwn w (F + 1 + 1) s1 (if f.rep = true then (counts f xs).flatMap (pieceW f l) else [])) ∧
  (f.kind = 17 → s1 = noneS ∧ s2 = noneS ∧
    (f.rep = true → j = noneS ∧ RowsOwn (SubP d) 45 2 0 (F + 1 + 1) w s3 (xs.flatMap fun x => tsub s d f.of (vbytes l x))) ∧
    (f.rep = false → s3 = noneS ∧ Own w (F + 1 + 1) j (xs.flatMap (vbytes l)))) ∧
  (knumber f.kind = false → f.kind ≠ 17 → s1 = noneS ∧ s3 = noneS ∧ j = noneS ∧ StrsOwn w (F + 1 + 1) s2 (if f.rep = true then (counts f xs).flatMap (pieceB f l) else []))
theorem OfSt.mid {W5 : World} {F : Nat} {s : List Mes} {d : Nat} {f : Fld} {l : List UInt8} {xs : List VW} {w : World} {j s1 s2 s3 : Value} (h : OfSt W5 F s d f l xs w j s1 s2 s3) (hr : f.rep = true) : OfMid W5 F s d f l xs w j s1 s2 s3 := by
  refine ⟨h.1, h.2.1, fun hk => ?_, fun h17 => ?_, fun hk h17 => ?_⟩
  · rw [if_pos hr]; exact h.2.2.1 hk
  · exact h.2.2.2.1 h17
  · rw [if_pos hr]; exact h.2.2.2.2 hk h17
/-- the words and the texts go -/
theorem OfSt.clear {W5 : World} {F : Nat} {s : List Mes} {d : Nat} {f : Fld} {l : List UInt8} {xs : List VW} {w : World} {j s1 s2 s3 : Value} (h : OfSt W5 F s d f l xs w j s1 s2 s3) (hr : f.rep = false) :
    OfMid W5 F s d f l xs ((w.setCell ⟨F + 1, 1, none⟩ noneS).setCell ⟨F + 1, 2, none⟩ noneS) j noneS noneS s3 := by
  have hne : ¬ f.rep = true := by simp [hr]
  have hk : ∀ b, F + 1 + 1 ≤ b → ((w.setCell ⟨F + 1, 1, none⟩ noneS).setCell ⟨F + 1, 2, none⟩ noneS).heap[b]? = w.heap[b]? := fun b hb => by
    rw [Below.heap_setCell _ _ _ b (by show b ≠ F + 1; omega), Below.heap_setCell _ _ _ b (by show b ≠ F + 1; omega)]
  have h2 := h.2.2.keep (w' := (w.setCell ⟨F + 1, 1, none⟩ noneS).setCell ⟨F + 1, 2, none⟩ noneS) (fun b hb _ => hk b hb) (by simp)
  refine ⟨(h.1.setCell (by show F + 1 ≤ F + 1; omega) _).setCell (by show F + 1 ≤ F + 1; omega) _, by simpa using (h.2.1.set 1 noneS).set 2 noneS, fun hk => ?_, fun h17 => ?_, fun hk h17 => ?_⟩
  · rw [if_neg hne]
    obtain ⟨-, g2, g3, -⟩ := h2.1 hk
    exact ⟨rfl, g2, g3, World.ownsRow_nil _ _ _ _⟩
  · obtain ⟨-, -, g3, g4⟩ := h2.2.1 h17
    exact ⟨rfl, rfl, g3, g4⟩
  · rw [if_neg hne]
    obtain ⟨-, g2, g3, -⟩ := h2.2.2 hk h17
    exact ⟨rfl, g2, g3, World.ownsRow_nil _ _ _ _⟩
/-- a list of the value grows -/
theorem box_push {W5 w w2 : World} {F size n : Nat} {e T : TypeId} {cs ys : List Value} {v : Value} (hB : Below (F + 1) W5 w) (hs : F + 1 + 1 ≤ w.heap.size) (hb : Blk w (F + 1) cs T) (ho : w.ownsRow (F + 1 + 1) e size v n ys) (hg : w.grownBy w2 v.ownBlock) : Below (F + 1) W5 w2 ∧ Blk w2 (F + 1) cs T :=
  ⟨hB.grown hg (by omega) (fun q e => by have := (World.ownsRow.lt ho q e).1; omega), (hg.block (F + 1) hb.lt (fun e => by have := (World.ownsRow.lt ho _ e.symm).1; omega)).trans hb⟩
theorem own_set {w : World} {F size n k : Nat} {e : TypeId} {ys : List Value} {v x : Value} (h : w.ownsRow (F + 1 + 1) e size v n ys) : (w.setCell ⟨F + 1, k, none⟩ x).ownsRow (F + 1 + 1) e size v n ys :=
  row_keep h fun b _ hb _ => Below.heap_setCell w _ _ b (by show b ≠ F + 1; omega)
theorem OfMid.num {W5 : World} {F : Nat} {s : List Mes} {d : Nat} {f : Fld} {l : List UInt8} {xs : List VW} {w w2 : World} {j s1 s2 s3 v2 : Value} {x : VW} (h : OfMid W5 F s d f l xs w j s1 s2 s3) (hk : knumber f.kind = true) (hg : Below (F + 1) W5 w2) (hb : Blk w2 (F + 1) [.int .i64 f.number, s1, s2, s3] 91)
    (hO : WordsOwn w2 (F + 1 + 1) v2 ((if f.rep = true then (counts f xs).flatMap (pieceW f l) else []) ++ pieceW f l x)) : OfSt W5 F s d f l (xs ++ [x]) (w2.setCell ⟨F + 1, 1, none⟩ v2) j v2 s2 s3 := by
  obtain ⟨rfl, rfl, rfl, -⟩ := h.2.2.1 hk
  exact ⟨hg.setCell (by show F + 1 ≤ F + 1; omega) _, by simpa using hb.set 1 v2, OfInv.num hk _ rfl (own_set hO)⟩
theorem OfMid.text {W5 : World} {F : Nat} {s : List Mes} {d : Nat} {f : Fld} {l : List UInt8} {xs : List VW} {w w2 : World} {j s1 s2 s3 v2 : Value} {x : VW} (h : OfMid W5 F s d f l xs w j s1 s2 s3) (hk : knumber f.kind = false) (h17 : f.kind ≠ 17) (hx : x.run = false) (hg : Below (F + 1) W5 w2) (hb : Blk w2 (F + 1) [.int .i64 f.number, s1, s2, s3] 91)
    (hO : StrsOwn w2 (F + 1 + 1) v2 ((if f.rep = true then (counts f xs).flatMap (pieceB f l) else []) ++ [vbytes l x])) : OfSt W5 F s d f l (xs ++ [x]) (w2.setCell ⟨F + 1, 2, none⟩ v2) j s1 v2 s3 := by
  obtain ⟨rfl, rfl, rfl, -⟩ := h.2.2.2.2 hk h17
  exact ⟨hg.setCell (by show F + 1 ≤ F + 1; omega) _, by simpa using hb.set 2 v2, OfInv.text hk h17 hx (own_set hO)⟩
theorem OfMid.sub {W5 : World} {F : Nat} {s : List Mes} {d : Nat} {f : Fld} {l : List UInt8} {xs : List VW} {w w2 : World} {j s1 s2 s3 v2 : Value} {x : VW} (h : OfMid W5 F s d f l xs w j s1 s2 s3) (h17 : f.kind = 17) (hr : f.rep = true) (hg : Below (F + 1) W5 w2) (hb : Blk w2 (F + 1) [.int .i64 f.number, s1, s2, s3] 91)
    (hO : RowsOwn (SubP d) 45 2 0 (F + 1 + 1) w2 v2 ((xs.flatMap fun x => tsub s d f.of (vbytes l x)) ++ tsub s d f.of (vbytes l x))) : OfSt W5 F s d f l (xs ++ [x]) (w2.setCell ⟨F + 1, 3, none⟩ v2) j s1 s2 v2 := by
  obtain ⟨rfl, rfl, g, -⟩ := h.2.2.2.1 h17
  obtain ⟨rfl, -⟩ := g hr
  refine ⟨hg.setCell (by show F + 1 ≤ F + 1; omega) _, by simpa using hb.set 3 v2, OfInv.sub h17 hr (hO.later (fun b _ hc => Below.heap_setCell w2 _ _ b ?_) (by simp))⟩
  show b ≠ F + 1
  omega
theorem OfMid.join {W5 : World} {F : Nat} {s : List Mes} {d : Nat} {f : Fld} {l : List UInt8} {xs : List VW} {w w2 : World} {j s1 s2 s3 v2 : Value} {x : VW} (h : OfMid W5 F s d f l xs w j s1 s2 s3) (h17 : f.kind = 17) (hr : f.rep = false) (hg : Below (F + 1) W5 w2) (hb : Blk w2 (F + 1) [.int .i64 f.number, s1, s2, s3] 91)
    (hO : Own w2 (F + 1 + 1) v2 (xs.flatMap (vbytes l) ++ vbytes l x)) : OfSt W5 F s d f l (xs ++ [x]) w2 v2 s1 s2 s3 := by
  obtain ⟨rfl, rfl, -, g⟩ := h.2.2.2.1 h17
  obtain ⟨rfl, -⟩ := g hr
  exact ⟨hg, hb, OfInv.join h17 hr hO⟩
theorem OfSt.drewN {W5 : World} {F : Nat} {s : List Mes} {d : Nat} {f : Fld} {l : List UInt8} {xs : List VW} {w : World} {j s1 s2 s3 : Value} (h : OfSt W5 F s d f l xs w j s1 s2 s3) (n : Nat) : OfSt W5 F s d f l xs (w.drewN n) j s1 s2 s3 :=
  ⟨below_drewN h.1 _, h.2.1, h.2.2⟩
theorem words_append {w : World} {base : Nat} {v x : Value} {l m : List Nat} (h : WordsOwn w base v l) (hx : WordsAt w x m) (hlen : l.length + m.length ≤ 17592186044416) (hbase : base ≤ w.heap.size) :
    ∃ a c w', (Builtin.append_ #[88, 88] 88 #[v, x]).run Tryz.prog w = .ok (.slice a (l.length + m.length) c) w' ∧ WordsOwn w' base (.slice a (l.length + m.length) c) (l ++ m) ∧ w.grownBy w' v.ownBlock := by
  obtain ⟨v', w', hr, hO, hg, hat⟩ := seg_append (P := Tryz.prog) w base 88 88 86 (.int .u64 0) 1 8 under_words info_u64 rfl (by decide) v x l.length m.length _ _ h hx.1
    (by intro u hu; obtain ⟨c, -, rfl⟩ := List.mem_map.1 hu; rfl) (by omega) (by omega) hbase
  have h2 : WordsOwn w' base v' (l ++ m) := by
    unfold WordsOwn
    rw [List.length_append, List.map_append]
    exact hO
  obtain ⟨a, c, rfl⟩ := h2.form
  rw [List.length_append] at h2 hr
  exact ⟨a, c, w', hr, h2, hg⟩
theorem RowsOwn.rows {α : Type} {P : World → List Value → α → Prop} {T : TypeId} {k n0 base : Nat} {w : World} {v : Value} {l : List α} (h : RowsOwn P T k n0 base w v l) : ∃ n ys, w.ownsRow base T k v n ys := by
  obtain ⟨rows, -, -, h3, -⟩ := h
  exact ⟨_, _, h3⟩
/-- words of a run are appended -/
theorem OfMid.run_push {W5 : World} {F : Nat} {s : List Mes} {d : Nat} {f : Fld} {l : List UInt8} {xs : List VW} {w w6 : World} {j s1 s2 s3 v6 : Value} {x : VW} (h : OfMid W5 F s d f l xs w j s1 s2 s3) (hs : F + 1 + 1 ≤ w.heap.size) (hk : knumber f.kind = true) (hb6 : Below w.heap.size w w6)
    {ws : List Nat} (hO6 : WordsOwn w6 w.heap.size v6 ws) (hpw : pieceW f l x = ws) (hws : ws.length ≤ 1099511627776) (ht : ∀ y ∈ xs, Thin y) (hl : vsum xs ≤ 1099511627776) :
    ∃ a5 n5 c5 w7, (Builtin.append_ #[88, 88] 88 #[s1, v6]).run Tryz.prog w6 = .ok (.slice a5 n5 c5) w7 ∧ Blk w6 (F + 1) [.int .i64 f.number, s1, s2, s3] 91 ∧ Blk w7 (F + 1) [.int .i64 f.number, s1, s2, s3] 91 ∧
      OfSt W5 F s d f l (xs ++ [x]) (w7.setCell ⟨F + 1, 1, none⟩ (.slice a5 n5 c5)) j (.slice a5 n5 c5) s2 s3 := by
  obtain ⟨-, -, -, ho⟩ := h.2.2.1 hk
  have hb := words_bound (f := f) (l := l) ht
  have hll : (if f.rep = true then (counts f xs).flatMap (pieceW f l) else []).length ≤ 1099511627776 := by
    split
    · omega
    · simp
  have hlt : ∀ y ∈ ws, y < 2 ^ 64 := by rw [← hpw]; exact fun y hy => pieceW_lt hy
  obtain ⟨a5, c5, w7, hr, hO, hg⟩ := words_append (ho.later hb6) (hO6.words (by omega) hlt) (by omega) (by have := hb6.size; omega)
  have b6 : Blk w6 (F + 1) _ _ := h.2.1.below hb6
  have hB6 : Below (F + 1) W5 w6 := h.1.trans (hb6.mono (by omega))
  obtain ⟨g1, g2⟩ := box_push hB6 (by have := hb6.size; omega) b6 (ho.later hb6) hg
  refine ⟨a5, _, c5, w7, hr, b6, g2, OfMid.num h hk g1 g2 ?_⟩
  rw [hpw]; exact hO
/-- one word is appended -/
theorem OfMid.num_push {W5 : World} {F : Nat} {s : List Mes} {d : Nat} {f : Fld} {l : List UInt8} {xs : List VW} {w : World} {j s1 s2 s3 : Value} {x : VW} (h : OfMid W5 F s d f l xs w j s1 s2 s3) (hs : F + 1 + 1 ≤ w.heap.size) (hk : knumber f.kind = true)
    {y : Nat} (hpw : pieceW f l x = [y]) (ht : ∀ y ∈ xs, Thin y) (hl : vsum xs ≤ 1099511627776) :
    ∃ a5 n5 c5 w7, (Builtin.append_ #[88, 88] 88 #[s1, .slice (some ⟨w.heap.size, 0, none⟩) 1 1]).run Tryz.prog (w.alloc (.cells #[.int .u64 (y : Int)] 86)) = .ok (.slice a5 n5 c5) w7 ∧ Blk w7 (F + 1) [.int .i64 f.number, s1, s2, s3] 91 ∧
      OfSt W5 F s d f l (xs ++ [x]) (w7.setCell ⟨F + 1, 1, none⟩ (.slice a5 n5 c5)) j (.slice a5 n5 c5) s2 s3 := by
  obtain ⟨-, -, -, ho⟩ := h.2.2.1 hk
  have hb := words_bound (f := f) (l := l) ht
  have hll : (if f.rep = true then (counts f xs).flatMap (pieceW f l) else []).length ≤ 1099511627776 := by
    split
    · omega
    · simp
  obtain ⟨v', w7, hr, hO, hg⟩ := ho.one y hll hs
  obtain ⟨a5, c5, rfl⟩ := hO.form
  obtain ⟨g1, g2⟩ := box_push h.1 hs h.2.1 ho hg
  refine ⟨a5, _, c5, w7, hr, g2, OfMid.num h hk g1 g2 ?_⟩
  rw [hpw]; exact hO
/-- one text is appended -/
theorem OfMid.text_push {W5 : World} {F : Nat} {s : List Mes} {d : Nat} {f : Fld} {l : List UInt8} {xs : List VW} {w : World} {j s1 s2 s3 : Value} {x : VW} (h : OfMid W5 F s d f l xs w j s1 s2 s3) (hs : F + 1 + 1 ≤ w.heap.size) (hk : knumber f.kind = false) (h17 : f.kind ≠ 17) (hx : x.run = false)
    (ht : ∀ y ∈ xs, Thin y) (hl : vsum xs ≤ 1099511627776) {t : List UInt8} (htx : vbytes l x = t) :
    ∃ a5 n5 c5 w7, (Builtin.append_ #[25, 25] 25 #[s2, .slice (some ⟨w.heap.size, 0, none⟩) 1 1]).run Tryz.prog (w.alloc (.cells #[.string ⟨t.toArray⟩] 9)) = .ok (.slice a5 n5 c5) w7 ∧ Blk w7 (F + 1) [.int .i64 f.number, s1, s2, s3] 91 ∧
      OfSt W5 F s d f l (xs ++ [x]) (w7.setCell ⟨F + 1, 2, none⟩ (.slice a5 n5 c5)) j s1 (.slice a5 n5 c5) s3 := by
  obtain ⟨-, -, -, ho⟩ := h.2.2.2.2 hk h17
  have hb := texts_bound (f := f) (l := l) ht
  have hll : (if f.rep = true then (counts f xs).flatMap (pieceB f l) else []).length + 1 ≤ 1099511627777 := by
    split
    · omega
    · simp
  subst htx
  obtain ⟨v', w7, hr, hO, hg⟩ := ho.one (vbytes l x) hll hs
  obtain ⟨a5, c5, rfl⟩ := hO.form
  obtain ⟨g1, g2⟩ := box_push h.1 hs h.2.1 ho hg
  exact ⟨a5, _, c5, w7, hr, g2, OfMid.text h hk h17 hx g1 g2 hO⟩
/-- bytes are joined -/
theorem OfMid.join_push {W5 : World} {F : Nat} {s : List Mes} {d : Nat} {f : Fld} {l : List UInt8} {xs : List VW} {w : World} {j s1 s2 s3 v6 : Value} {x : VW} (h : OfMid W5 F s d f l xs w j s1 s2 s3) (hs : F + 1 + 1 ≤ w.heap.size) (h17 : f.kind = 17) (hr : f.rep = false)
    (ht : ∀ y ∈ xs, Thin y) (hl : vsum xs ≤ 1099511627776) (hb6 : Bytes w v6 (vbytes l x)) (hl6 : (vbytes l x).length ≤ 1099511627776) :
    ∃ a5 n5 c5 w7, (Builtin.append_ #[24, 24] 24 #[j, v6]).run Tryz.prog w = .ok (.slice a5 n5 c5) w7 ∧
      OfSt W5 F s d f l (xs ++ [x]) w7 (.slice a5 n5 c5) s1 s2 s3 := by
  obtain ⟨-, -, -, g⟩ := h.2.2.2.1 h17
  obtain ⟨-, ho⟩ := g hr
  have hb := join_bound (l := l) ht
  obtain ⟨v', w7, hrn, hO, hg, -⟩ := own_append ho hb6 (by omega) hs
  obtain ⟨a5, c5, rfl⟩ := own_form hO
  obtain ⟨g1, g2⟩ := box_push h.1 hs h.2.1 ho hg
  exact ⟨a5, _, c5, w7, hrn, OfMid.join h h17 hr g1 g2 hO⟩
/-- a message is appended -/
theorem OfMid.sub_push {W5 : World} {F : Nat} {s : List Mes} {d : Nat} {f : Fld} {l : List UInt8} {xs : List VW} {w w1 : World} {j s1 s2 : Value} {a3 : Option Addr} {n3 c3 : Nat} {x : VW} (h : OfMid W5 F s d f l xs w j s1 s2 (.slice a3 n3 c3)) (hs : F + 1 + 1 ≤ w.heap.size) (h17 : f.kind = 17) (hr : f.rep = true)
    (ht : ∀ y ∈ xs, Thin y) (hl : vsum xs ≤ 1099511627776) (hb : Below w.heap.size w w1) {u1 u2 : Value} (h1 : u1.oneCell' = true) (h2 : u2.oneCell' = true) {y : M d} (hy : tsub s d f.of (vbytes l x) = [y]) (hap : Apart 0 w.heap.size w1 fun w' => MsgAt d w' (.agg #[u1, u2]) y) :
    ∃ a5 c5 w5, (Builtin.append_ #[89, 89] 89 #[.slice a3 n3 c3, .slice (some ⟨w1.heap.size, 0, none⟩) 1 1]).run Tryz.prog (w1.alloc (.cells #[u1, u2] 45)) = .ok (.slice a5 (n3 + 1) c5) w5 ∧
      Below (F + 1 + 1) w (w1.alloc (.cells #[u1, u2] 45)) ∧ Below (F + 1 + 1) w w5 ∧
      OfSt W5 F s d f l (xs ++ [x]) (w5.setCell ⟨F + 1, 3, none⟩ (.slice a5 (n3 + 1) c5)) j s1 s2 (.slice a5 (n3 + 1) c5) := by
  obtain ⟨-, -, g, -⟩ := h.2.2.2.1 h17
  obtain ⟨-, ho⟩ := g hr
  have hbd := subs_bound (s := s) (d := d) (o := f.of) (l := l) ht
  obtain ⟨a', c', he⟩ := ho.form
  have hn3 : (xs.flatMap fun x => tsub s d f.of (vbytes l x)).length = n3 := by cases he; rfl
  obtain ⟨a5, c5, w5, hr5, hO5, hB4, hB5⟩ := RowsOwn.step ho hb (by decide) (Nat.zero_le _) hs hn3 89 _ 48 Tryz.underlying89 info_rmsg rfl #[u1, u2] rfl (by intro u hu; simp at hu; rcases hu with rfl | rfl <;> assumption) y hap (by omega) (by decide)
  refine ⟨a5, c5, w5, hr5, hB4, hB5, OfMid.sub h h17 hr (h.1.trans (hB5.mono (by omega))) ((hB5.block (F + 1) (by omega)).trans h.2.1) ?_⟩
  rw [hy]; exact hO5
/-- a message's call of a field of messages -/
def SubCall (w0 : World) (sv : Value) (s : List Mes) (d : Nat) (f : Fld) : Prop := ∀ (W : World) (v : Value) (b : List UInt8), Below w0.heap.size w0 W → Bytes W v b → b.length ≤ 1099511627776 → SubOk s d f.of b →
    Calls Tryz.prog 18 #[sv, .int .i64 f.of, v] W fun e w' => ∃ v' y, tsub s d f.of b = [y] ∧ e = .returned v' ∧ Below W.heap.size W w' ∧ Apart 0 W.heap.size w' fun w2 => MsgAt d w2 v' y
theorem SubCall.at {w0 : World} {sv : Value} {s : List Mes} {d : Nat} {f : Fld} (h : SubCall w0 sv s d f) {W : World} {v : Value} {b : List UInt8} (h1 : Below w0.heap.size w0 W) (h2 : Bytes W v b) (h3 : b.length ≤ 1099511627776) (h4 : SubOk s d f.of b) {o : Int} (ho : o = f.of) :
    Hid (Calls Tryz.prog 18 #[sv, .int .i64 o, v] W fun e w' => ∃ u1 u2 y, (u1.oneCell' = true ∧ u2.oneCell' = true) ∧ tsub s d f.of b = [y] ∧ e = .returned (.agg #[u1, u2]) ∧ Below W.heap.size W w' ∧ Apart 0 W.heap.size w' fun w2 => MsgAt d w2 (.agg #[u1, u2]) y) := by
  subst ho
  refine (h W v b h1 h2 h3 h4).mono ?_
  rintro e w' ⟨v', y, g1, rfl, g2, g3⟩
  obtain ⟨a1, n1, c1, a2, n2, c2, rfl⟩ := g3.here.form
  exact ⟨_, _, y, ⟨rfl, rfl⟩, g1, rfl, g2, g3⟩
theorem sub_call {w0 : World} {sv : Value} {s : List Mes} (hs : sright s = true) {d : Nat} (hrec : ∀ d', d = d' + 1 → ROfOk w0 sv s d') {m q : Nat} (hm : m < s.length) (hq : q < (s.getD m .zero).fields.length) : SubCall w0 sv s d ((s.getD m .zero).fields.getD q .zero) := by
  rintro W v b hB hb hl ⟨d', rfl, hv⟩
  have hr := of_range hs hm hq
  obtain ⟨f, hf⟩ : ∃ f, f = (s.getD m .zero).fields.getD q .zero := ⟨_, rfl⟩
  rw [← hf] at hr hv ⊢
  obtain ⟨o, ho⟩ : ∃ o : Nat, f.of = o := ⟨f.of.toNat, by omega⟩
  rw [ho, Int.toNat_natCast] at hv
  rw [ho]
  exact (hrec d' rfl o W v b (by omega) hB hb hl hv).mono fun e w' ⟨v', h1, h2, h3⟩ => ⟨v', _, rfl, h1, h2, h3⟩
theorem sub_call' {w0 : World} {sv : Value} {s : List Mes} (hs : sright s = true) {d : Nat} (hrec : ∀ d', d = d' + 1 → ROfOk w0 sv s d') {m q : Nat} (hm : m < s.length) {fs : List Fld} (hfs : fs = (s.getD m .zero).fields) (hq : q < fs.length) {f : Fld} (hf : f = fs.getD q .zero) : Hid (SubCall w0 sv s d f) := by
  subst hf; subst hfs; exact sub_call hs hrec hm hq
theorem field_recs' {s : List Mes} (hs : sright s = true) {d m : Nat} {l : List UInt8} (hm : m < s.length) (h : (vmsg s d m l).2 = 0) {fs : List Fld} (hfs : fs = (s.getD m .zero).fields) {q : Nat} (hq : q < fs.length) {f : Fld} (hf : f = fs.getD q .zero) {all : List VW} (ha : all = (vall fs l).1) :
    Hid (FieldRecs (SubOk s d) f l (viewsOf all (q : Int))) := by
  subst ha; subst hf; subst hfs; exact field_recs hs hm h hq
theorem OfSt.done1 {W5 : World} {F : Nat} {s : List Mes} {d : Nat} {f : Fld} {l : List UInt8} {xs : List VW} {w w1 : World} {j s1 s2 s3 u1 u2 : Value} {y : M d} (h : OfSt W5 F s d f l xs w j s1 s2 s3) (h17 : f.kind = 17) (hr : f.rep = false) (hx : xs ≠ []) (hrun : ∀ x ∈ xs, x.run = false)
    (hn : -9223372036854775808 ≤ f.number ∧ f.number ≤ 9223372036854775807) (hs : F + 1 + 1 ≤ w.heap.size) (hb : Below w.heap.size w w1) (hy : tsub s d f.of (xs.flatMap (vbytes l)) = [y]) (hap : Apart 0 w.heap.size w1 fun w2 => MsgAt d w2 (.agg #[u1, u2]) y) :
    ∀ W6, W6 = (w1.setCell ⟨F + 1, 3, none⟩ (.slice (some ⟨w1.heap.size, 0, none⟩) 1 1)).alloc (.cells #[u1, u2] 45) → Below (F + 1) W5 W6 ∧ Blk W6 (F + 1) [.int .i64 f.number, s1, s2, .slice (some ⟨w1.heap.size, 0, none⟩) 1 1] 91 ∧
      Apart 0 (F + 1 + 1) W6 fun w2 => ValP' d w2 [.int .i64 f.number, noneS, noneS, .slice (some ⟨w1.heap.size, 0, none⟩) 1 1] (fieldV (tsub s d) f l xs) := by
  rintro W6 rfl
  have hz := hb.size
  have hS : Below (F + 1) W5 (w1.setCell ⟨F + 1, 3, none⟩ (.slice (some ⟨w1.heap.size, 0, none⟩) 1 1)) := (h.1.trans (hb.mono (by omega))).setCell (by show F + 1 ≤ F + 1; omega) _
  have hsz : (w1.setCell ⟨F + 1, 3, none⟩ (.slice (some ⟨w1.heap.size, 0, none⟩) 1 1)).heap.size = w1.heap.size := by simp
  refine ⟨hS.alloc (by rw [hsz]; omega) _, (by simpa using ((h.2.1.below hb).set 3 (.slice (some ⟨w1.heap.size, 0, none⟩) 1 1)).alloc (.cells #[u1, u2] 45)), ?_⟩
  refine OfInv.done1 h17 hr hx hrun hn hy (by omega) (Blk.new' _ [u1, u2] 45 _ hsz.symm) fun w2 hw2 => hap w2 fun b hlt hc => ?_
  have hc' : F + 1 + 1 ≤ b := by omega
  refine (hw2 b (by simp; omega) (.inr hc')).trans ?_
  rw [Below.heap_alloc _ _ b (by rw [hsz]; exact hlt), Below.heap_setCell _ _ _ b (by show b ≠ F + 1; omega)]
/-- how many things a value in memory has -/
theorem val_many {d : Nat} {w : World} {num : Int} {a1 a2 a3 : Option Addr} {n1 n2 n3 c1 c2 c3 : Nat} {x : Val (M d)} (h : ValP' d w [.int .i64 num, .slice a1 n1 c1, .slice a2 n2 c2, .slice a3 n3 c3] x) : n1 + n2 + n3 = many x ∧ n1 ≤ 140737488355328 ∧ n2 ≤ 140737488355328 ∧ n3 ≤ 140737488355328 := by
  obtain ⟨wv, tv, sv, he, -, hW, hT, hS⟩ := h
  obtain ⟨h1, _, _, e1, -⟩ := hW.open
  obtain ⟨h2, _, _, e2, -⟩ := hT.open
  obtain ⟨h3, _, _, e3, -⟩ := hS.open
  subst e1; subst e2; subst e3
  simp at he
  obtain ⟨-, ⟨-, e1, -⟩, ⟨-, e2, -⟩, -, e3, -⟩ := he
  unfold many
  omega
end Go.Proofs.YtfimpmennkfjcaaGreatDoor
