/- darninglaw14.Of: a copy of any meaning, for each depth (OfOk), and OfValue likewise. slices.IndexFunc and slices.ContainsFunc of words, strings, messages: firstAt, any. The function handed in tells p of each element and changes nothing that was there. A string's bytes; schema.ByNumber (fieldAt); record.Split of one record; tree.stranger (strangeB). A string is at most 2^40 bytes. Plain laws: all views of bytes (vall). No condition. Plain laws of merging: two sorted rows, cut crosswise and sorted apart, make one sorted row. No condition. Plain laws: the places of fields by rising numbers, what is alike in its order. No condition. bits.Word, darningref01.Word: the word of at most eight bytes (wordOf). No condition. -/
import Derived.Test.YtbcpeckmnmhfhaaGreatZ01
import Derived.Test.YtbcpeckmnmhfhaaGreatZ05
import Derived.Test.YtbcpeckmnmhfhaaGreatZ10
import Derived.Test.YtbcpeckmnmhfhaaGreatZ13
import Derived.Test.YtbcpeckmnmhfhaaGreatZ20
import Derived.Laws.IdiomStrings
import Derived.Laws.AppendOwn
namespace Go.Proofs.YtbcpeckmnmhfhaaGreat
open Go.RowKit Go.Shelf
theorem ValAt.form {d : Nat} {w : World} {v : Value} {x : Val (M d)} (h : ValAt (MsgAt d) w v x) : ∃ m a1 n1 c1 a2 n2 c2 a3 n3 c3, v = .agg #[.int .i64 m, .slice a1 n1 c1, .slice a2 n2 c2, .slice a3 n3 c3] := by
  obtain ⟨wv, tv, sv, rfl, -, hW, hT, hS⟩ := h
  obtain ⟨-, wa, wc, rfl, -, -⟩ := hW.open
  obtain ⟨-, ta, tc, rfl, -, -⟩ := hT.open
  obtain ⟨-, sa, sc, rfl, -, -⟩ := hS.open
  exact ⟨_, _, _, _, _, _, _, _, _, _, rfl⟩
theorem unk_len {d : Nat} (x : M (d + 1)) (h : mwt (d + 1) x ≤ 1099511627776) : (M.unk x).length ≤ 1099511627776 ∧ (M.vals x).length ≤ 1099511627776 := by
  have h1 : ∀ l : List (List UInt8), l.length ≤ twt l := fun l => by
    induction l with
    | nil => simp
    | cons t l ih => unfold twt at *; simp; omega
  have h2 : ∀ l : List (Val (M d)), l.length ≤ (l.map (vwt (mwt d))).sum := fun l => by
    induction l with
    | nil => simp
    | cons t l ih =>
      have : 1 ≤ vwt (mwt d) t := by unfold vwt; omega
      simp; omega
  have h3 : 1 + twt (M.unk x) + ((M.vals x).map (vwt (mwt d))).sum ≤ 1099511627776 := h
  have := h1 (M.unk x)
  have := h2 (M.vals x)
  omega
end Go.Proofs.YtbcpeckmnmhfhaaGreat
namespace Go.Proofs.YtbcpeckmnmhfhaaGreat
open Go.RowKit
end Go.Proofs.YtbcpeckmnmhfhaaGreat
namespace Go.Proofs.YtbcpeckmnmhfhaaGreat
open Go.RowKit
theorem under_str : Tryz.prog.underlying 9 = some .string := Tryz.underlying9
theorem under_u8 : Tryz.prog.underlying 5 = some (.int .u8) := Tryz.underlying5
/-- string to bytes -/
theorem str_bytes (w : World) (t : List UInt8) (ht : t.length ≤ 140737488355328) :
    ∃ g c w', (convert 9 24 (.string ⟨t.toArray⟩)).run Tryz.prog w = .ok (.slice (some ⟨g, 0, none⟩) t.length c) w' ∧ Below w.heap.size w w' ∧ Bytes w' (.slice (some ⟨g, 0, none⟩) t.length c) t := by
  have h := run_bytes_of_string (P := Tryz.prog) w 9 24 5 ⟨t.toArray⟩ under_str under_bytes under_u8
  have hsz : (⟨t.toArray⟩ : ByteArray).size = t.length := by simp [ByteArray.size]
  rw [hsz] at h
  refine ⟨_, _, _, h, ((Below.refl w.heap.size w).drew).alloc (Nat.le_refl _) _, by simp, ht, _, _, rfl, grownCap_ge _ _ _ _, ?_, by simp, ?_⟩
  · have := grownCap_le_maxLen w t.length 0 5 (by unfold maxLen; omega)
    unfold maxLen at this; omega
  · intro j u hu
    refine ⟨_, _, rfl, ?_⟩
    rw [Nat.zero_add, List.getElem?_map] at *
    have hj : j < t.length := by
      rcases Nat.lt_or_ge j t.length with h | h
      · exact h
      · rw [List.getElem?_eq_none h] at hu; simp at hu
    have hb := bytesRow_at ⟨t.toArray⟩ (grownCap w t.length 0 5) j (by simpa using hj)
    rw [List.getElem?_eq_getElem hj] at hu
    simp only [Option.map_some, Option.some.injEq] at hu
    subst hu
    rw [show w.heap.size = w.drew.heap.size from rfl, cell_of_row _ _ _ _ _ _ (heap_alloc_new w.drew _)]
    rw [hb]
    simp [byteV]
/-- .. what was laid since the slice was last touched stays -/
theorem RowsOwn.step2 {α : Type} {P : World → List Value → α → Prop} {T : TypeId} {k n0 base i : Nat} {wr w1 : World} {oa : Option Addr} {oc : Nat} {l : List α} (h : RowsOwn P T k n0 base wr (.slice oa i oc) l) (hb : Below wr.heap.size wr w1) (hk : 0 < k) (hn0 : n0 ≤ base) (hbs : base ≤ wr.heap.size) (hil : l.length = i)
    {G : Program} (t : TypeId) (z : Value) (bytes : Nat) (ht : G.underlying t = some (.slice T)) (hinfo : (G.info? T).map (fun i => (i.zero, i.size, i.bytes)) = some (some z, k, bytes)) (hzs : z.cells.size = k)
    (cells : Array Value) (hr : cells.size = k) (h1 : ∀ u ∈ cells.toList, u.oneCell' = true) (x : α) (hP : Apart n0 wr.heap.size w1 fun w' => P w' cells.toList x) (hlen : i ≤ 1099511627776) (hby : bytes ≤ 120) :
    ∃ a' c' w5, (Builtin.append_ #[t, t] t #[.slice oa i oc, .slice (some ⟨w1.heap.size, 0, none⟩) 1 1]).run G (w1.alloc (.cells cells T)) = .ok (.slice a' (i + 1) c') w5 ∧ RowsOwn P T k n0 base w5 (.slice a' (i + 1) c') (l ++ [x]) ∧
      Below base wr (w1.alloc (.cells cells T)) ∧ Below base wr w5 ∧ ∀ b, wr.heap.size ≤ b → b < w1.heap.size → w5.heap[b]? = w1.heap[b]? := by
  have hs := hb.size
  have hB1 : Below base wr (w1.alloc (.cells cells T)) := (hb.mono hbs).alloc (by omega) _
  obtain ⟨v', w', hrun, hO, hg, -⟩ := (h.below hb).append hk hn0 t z bytes ht hinfo hzs cells hr h1 x wr.heap.size (fun b e => (h.own b e).2) hbs hP (by omega) hby (by omega)
  obtain ⟨a', c', rfl⟩ := hO.form
  rw [List.length_append, List.length_singleton, hil] at *
  refine ⟨a', c', w', hrun, hO, hB1, hB1.grown hg (by have := hB1.size; omega) fun q e => (h.own q e).1, fun b h1 h2 => ?_⟩
  refine (hg.block b (by simp; omega) (fun e => ?_)).trans (Below.heap_alloc w1 _ b h2)
  have := (h.own b e.symm).2
  omega
/-- is all of it one record? -/
def oneRec (l : List UInt8) : Prop := (rnext l 0).2 = 0 ∧ (rnext l 0).1.to = l.length
instance (l : List UInt8) : Decidable (oneRec l) := by unfold oneRec; infer_instance
theorem rnext_ok {l : List UInt8} {i : Nat} (h : (rnext l i).2 = 0) : i < l.length ∧ i < (rnext l i).1.to ∧ (rnext l i).1.to ≤ l.length := by
  rcases rnext_cases l i with ⟨h1, h2⟩ | ⟨h1, c, -, h2, h3⟩ | ⟨h1, k, x, n, -, h2, h3, h4, h5, h6, h7, ⟨a, m, c, -, g1, g2, g3, g4⟩ | ⟨a, m, -, g1, g2, g3, g4, g5⟩ | ⟨a, m, -, g1, g2, g3, g4⟩⟩
  · rw [h2] at h; simp at h
  · rw [h3] at h; simp at h; omega
  · rw [g4] at h; simp at h; omega
  · rw [g5] at h; simp at h
  · rw [g4]; exact ⟨h1, by simp; omega, by simp; omega⟩
end Go.Proofs.YtbcpeckmnmhfhaaGreat
namespace Go.Proofs.YtbcpeckmnmhfhaaGreat
open Go.RowKit
/-- a view: a record, its field, whether it is a run -/
structure VW where
  r : Rec
  k : Int
  run : Bool
def VW.cells (x : VW) : List Value := viewL x.r x.k x.run
def vallGo (fs : List Fld) (l : List UInt8) : Nat → Nat → List VW × Nat × Nat
  | 0, _ => ([], 0, 0)
  | n + 1, i =>
    if l.length ≤ i then ([], 0, 0) else
    if (vlook fs l i).2.2.2 ≠ 0 then ([], i, (vlook fs l i).2.2.2) else
    let x := vallGo fs l n (vlook fs l i).1.to
    if x.2.2 ≠ 0 then ([], x.2.1, x.2.2) else (⟨(vlook fs l i).1, (vlook fs l i).2.1, (vlook fs l i).2.2.1⟩ :: x.1, 0, 0)
/-- all views, the place and the code of the first that can't be told -/
def vall (fs : List Fld) (l : List UInt8) : List VW × Nat × Nat := vallGo fs l l.length 0
def glueV (pre : List VW) (x : List VW × Nat × Nat) : List VW × Nat × Nat := if x.2.2 ≠ 0 then ([], x.2.1, x.2.2) else (pre ++ x.1, 0, 0)
theorem vallGo_form (fs : List Fld) (l : List UInt8) : ∀ n i, (vallGo fs l n i).2.2 ≠ 0 → (vallGo fs l n i).1 = []
  | 0, _, h => by simp [vallGo] at h
  | n + 1, i, h => by
    rw [vallGo] at h ⊢
    split
    · rfl
    · split
      · rfl
      · simp only
        split
        · rfl
        · rename_i h1 h2 h3
          rw [if_neg h1, if_neg h2] at h
          simp only at h
          rw [if_neg h3] at h
          exact absurd rfl h
theorem vallGo_place (fs : List Fld) (l : List UInt8) : ∀ n i, (vallGo fs l n i).2.2 = 0 → (vallGo fs l n i).2.1 = 0
  | 0, _, _ => rfl
  | n + 1, i, h => by
    rw [vallGo] at h ⊢
    split
    · rfl
    · split
      · rename_i h1 h2
        rw [if_neg h1, if_pos h2] at h
        exact absurd h h2
      · simp only
        split
        · rename_i h1 h2 h3
          rw [if_neg h1, if_neg h2] at h
          simp only at h
          rw [if_pos h3] at h
          exact absurd h h3
        · rfl
theorem glueV_nil (fs : List Fld) (l : List UInt8) (n i : Nat) : glueV [] (vallGo fs l n i) = vallGo fs l n i := by
  unfold glueV
  split
  · rename_i h
    have := vallGo_form fs l n i h
    rw [← this]
  · rename_i h
    have h' : (vallGo fs l n i).2.2 = 0 := by omega
    have := vallGo_place fs l n i h'
    rw [List.nil_append]
    generalize vallGo fs l n i = x at *
    obtain ⟨a, b, c⟩ := x
    simp only at *
    subst h'
    subst this
    rfl
theorem vlook_ok {fs : List Fld} {l : List UInt8} {i : Nat} (h : (vlook fs l i).2.2.2 = 0) : i < l.length ∧ i < (vlook fs l i).1.to ∧ (vlook fs l i).1.to ≤ l.length ∧ (rnext l i).2 = 0 ∧ (vlook fs l i).1 = (rnext l i).1 := by
  have hr : (rnext l i).2 = 0 := by
    refine Decidable.byContradiction fun hn => ?_
    unfold vlook at h
    rw [if_pos hn] at h
    exact hn h
  have hv : (vlook fs l i).1 = (rnext l i).1 := by
    unfold vlook at h ⊢
    rw [if_neg (by omega)] at h ⊢
    split
    · rfl
    · rename_i h1
      rw [if_neg h1] at h
      simp only at h ⊢
      split
      · rfl
      · rename_i h2
        rw [if_neg h2] at h
        split
        · rename_i h3
          rw [if_pos h3] at h
          simp at h
        · rfl
  have := rnext_ok hr
  rw [hv]
  exact ⟨this.1, this.2.1, this.2.2, hr, rfl⟩
/-- one view more -/
theorem glueV_step {fs : List Fld} {l : List UInt8} {n i : Nat} {pre : List VW} {r : Rec} {k : Int} {run : Bool} (hi : i < l.length) (h : vlook fs l i = (r, k, run, 0)) :
    glueV pre (vallGo fs l (n + 1) i) = glueV (pre ++ [⟨r, k, run⟩]) (vallGo fs l n r.to) := by
  rw [vallGo, if_neg (by omega), h]
  simp only [ne_eq, not_true_eq_false, if_false]
  unfold glueV
  by_cases hx : (vallGo fs l n r.to).2.2 = 0
  · simp [hx]
  · simp [hx]
theorem glueV_bad {fs : List Fld} {l : List UInt8} {n i : Nat} {pre : List VW} {c : Nat} (hi : i < l.length) (h : (vlook fs l i).2.2.2 = c) (hc : c ≠ 0) : glueV pre (vallGo fs l (n + 1) i) = ([], i, c) := by
  rw [vallGo, if_neg (by omega), if_pos (by rw [h]; exact hc), h]
  unfold glueV
  simp [hc]
theorem glueV_end {fs : List Fld} {l : List UInt8} {n i : Nat} {pre : List VW} (hi : l.length ≤ i) : glueV pre (vallGo fs l n i) = (pre, 0, 0) := by
  cases n with
  | zero => simp [vallGo, glueV]
  | succ n => rw [vallGo, if_pos hi]; simp [glueV]
end Go.Proofs.YtbcpeckmnmhfhaaGreat
namespace Go.Proofs.YtbcpeckmnmhfhaaGreat
variable {T : Type} {R : T → T → Prop}
theorem srt_all_lt (ht : ∀ x y z, R x y → R y z → R x z) {L Q : List T} (hL : L.Pairwise R) (hQ : Q.Pairwise R) (h : L = [] ∨ Q = [] ∨ ∃ x y, L.getLast? = some x ∧ Q.head? = some y ∧ R x y) : ∀ a ∈ L, ∀ b ∈ Q, R a b := by
  intro a ha b hb
  rcases h with rfl | rfl | ⟨x, y, hx, hy, hxy⟩
  · cases ha
  · cases hb
  · have h1 : a = x ∨ R a x := by
      obtain ⟨L', rfl⟩ := List.getLast?_eq_some_iff.1 hx
      rcases List.mem_append.1 ha with h | h
      · exact .inr ((List.pairwise_append.1 hL).2.2 a h x (by simp))
      · exact .inl (by simpa using h)
    have h2 : b = y ∨ R y b := by
      obtain ⟨Q', rfl⟩ := List.head?_eq_some_iff.1 hy
      rcases List.mem_cons.1 hb with h | h
      · exact .inl h
      · exact .inr ((List.pairwise_cons.1 hQ).1 b h)
    rcases h1 with rfl | h1
    · rcases h2 with rfl | h2
      · exact hxy
      · exact ht _ _ _ hxy h2
    · rcases h2 with rfl | h2
      · exact ht _ _ _ h1 hxy
      · exact ht _ _ _ (ht _ _ _ h1 hxy) h2
theorem merge_join (ht : ∀ x y z, R x y → R y z → R x z) {L1 L2 Q1 Q2 Z1 Z2 : List T} (hL : (L1 ++ L2).Pairwise R) (hQ : (Q1 ++ Q2).Pairwise R)
    (h1 : L1 = [] ∨ Q2 = [] ∨ ∃ x y, L1.getLast? = some x ∧ Q2.head? = some y ∧ R x y) (h2 : Q1 = [] ∨ L2 = [] ∨ ∃ x y, Q1.getLast? = some x ∧ L2.head? = some y ∧ R x y)
    (hz1 : Z1.Perm (L1 ++ Q1)) (s1 : Z1.Pairwise R) (hz2 : Z2.Perm (L2 ++ Q2)) (s2 : Z2.Pairwise R) : (Z1 ++ Z2).Pairwise R ∧ (Z1 ++ Z2).Perm ((L1 ++ L2) ++ (Q1 ++ Q2)) := by
  obtain ⟨hl1, hl2, hl⟩ := List.pairwise_append.1 hL
  obtain ⟨hq1, hq2, hq⟩ := List.pairwise_append.1 hQ
  have k1 := srt_all_lt ht hl1 hq2 h1
  have k2 := srt_all_lt ht hq1 hl2 h2
  constructor
  · rw [List.pairwise_append]
    refine ⟨s1, s2, fun a ha b hb => ?_⟩
    rcases List.mem_append.1 (hz1.mem_iff.1 ha) with ha | ha <;> rcases List.mem_append.1 (hz2.mem_iff.1 hb) with hb | hb
    · exact hl a ha b hb
    · exact k1 a ha b hb
    · exact k2 a ha b hb
    · exact hq a ha b hb
  · refine (hz1.append hz2).trans ?_
    have e : ((L1 ++ Q1) ++ (L2 ++ Q2)).Perm (L1 ++ (L2 ++ (Q1 ++ Q2))) := by
      rw [List.append_assoc]
      refine List.Perm.append_left L1 ?_
      rw [← List.append_assoc, ← List.append_assoc]
      exact List.Perm.append_right Q2 List.perm_append_comm
    rw [List.append_assoc L1 L2]
    exact e
/-- one element, put into a sorted row -/
theorem srt_insert (ht : ∀ x y z, R x y → R y z → R x z) {Q : List T} {x : T} (hQ : Q.Pairwise R) (i : Nat) (h1 : i = 0 ∨ ∃ y, Q[i - 1]? = some y ∧ R y x) (h2 : Q.length ≤ i ∨ ∃ y, Q[i]? = some y ∧ R x y) :
    (Q.take i ++ x :: Q.drop i).Pairwise R := by
  have hQ' := hQ
  rw [← List.take_append_drop i Q] at hQ'
  obtain ⟨q1, q2, q⟩ := List.pairwise_append.1 hQ'
  have k1 : ∀ a ∈ Q.take i, R a x := by
    intro a ha
    refine srt_all_lt ht q1 (List.pairwise_singleton R x) ?_ a ha x (by simp)
    rcases h1 with rfl | ⟨y, hy, hyx⟩
    · exact .inl rfl
    · refine .inr (.inr ⟨y, x, ?_, rfl, hyx⟩)
      have hl : i - 1 < Q.length := (List.getElem?_eq_some_iff.1 hy).1
      by_cases hi : i = 0
      · subst hi; simp at ha
      · rw [List.getLast?_eq_getElem?, List.length_take, Nat.min_eq_left (by omega), List.getElem?_take, if_pos (by omega)]
        exact hy
  have k2 : ∀ a ∈ Q.drop i, R x a := by
    intro a ha
    refine srt_all_lt ht (List.pairwise_singleton R x) q2 ?_ x (by simp) a ha
    rcases h2 with h2 | ⟨y, hy, hxy⟩
    · exact .inr (.inl (List.drop_eq_nil_of_le h2))
    · refine .inr (.inr ⟨x, y, rfl, ?_, hxy⟩)
      rw [List.head?_drop]; exact hy
  rw [List.pairwise_append, List.pairwise_cons]
  exact ⟨q1, ⟨k2, q2⟩, fun a ha b hb => by
    rcases List.mem_cons.1 hb with rfl | hb
    · exact k1 a ha
    · exact q a ha b hb⟩
theorem perm_insert {Q : List T} (x : T) (i : Nat) : (Q.take i ++ x :: Q.drop i).Perm (x :: Q) := by
  refine List.perm_middle.trans ?_
  rw [List.take_append_drop]
/-- two sorted rows of the same things are one -/
theorem srt_unique (ha : ∀ x y, R x y → ¬ R y x) {l m : List T} (hl : l.Pairwise R) (hm : m.Pairwise R) (h : l.Perm m) : l = m := by
  induction l generalizing m with
  | nil => exact (List.Perm.nil_eq h)
  | cons x r ih =>
    cases m with
    | nil => exact absurd h.length_eq (by simp)
    | cons y s =>
      obtain ⟨hl1, hl2⟩ := List.pairwise_cons.1 hl
      obtain ⟨hm1, hm2⟩ := List.pairwise_cons.1 hm
      have e : x = y := by
        have h1 : x ∈ y :: s := h.mem_iff.1 (by simp)
        have h2 : y ∈ x :: r := h.mem_iff.2 (by simp)
        rcases List.mem_cons.1 h1 with h1 | h1
        · exact h1
        · rcases List.mem_cons.1 h2 with h2 | h2
          · exact h2.symm
          · exact absurd (hm1 x h1) (ha _ _ (hl1 y h2))
      subst e
      rw [ih hl2 hm2 ((List.perm_cons x).1 h)]
end Go.Proofs.YtbcpeckmnmhfhaaGreat
namespace Go.Proofs.YtbcpeckmnmhfhaaGreat
def numAt (fs : List Fld) (i : Int) : Int := (fs.getD i.toNat .zero).number
/-- comes a place ahead of another one? -/
def Ahead (fs : List Fld) (i j : Int) : Prop := numAt fs i < numAt fs j ∨ numAt fs i = numAt fs j ∧ i < j
theorem Ahead.trans {fs : List Fld} (x y z : Int) (h : Ahead fs x y) (h2 : Ahead fs y z) : Ahead fs x z := by unfold Ahead at *; omega
theorem Ahead.asymm {fs : List Fld} (x y : Int) (h : Ahead fs x y) : ¬ Ahead fs y x := by unfold Ahead at *; omega
def upTo (n : Nat) : List Int := (List.range n).map fun k : Nat => (k : Int)
theorem upTo_succ (n : Nat) : upTo (n + 1) = upTo n ++ [(n : Int)] := by unfold upTo; rw [List.range_succ, List.map_append]; rfl
theorem upTo_len (n : Nat) : (upTo n).length = n := by simp [upTo]
theorem upTo_mem {n : Nat} {x : Int} : x ∈ upTo n ↔ 0 ≤ x ∧ x < n := by
  unfold upTo
  rw [List.mem_map]
  constructor
  · rintro ⟨k, hk, rfl⟩
    have := List.mem_range.1 hk
    omega
  · intro h
    exact ⟨x.toNat, List.mem_range.2 (by omega), by omega⟩
/-- the place in a row where i is put -/
def posF (fs : List Fld) (i : Int) (o : List Int) : Nat := (o.takeWhile fun u => decide (numAt fs u ≤ numAt fs i)).length
def insF (fs : List Fld) (i : Int) (o : List Int) : List Int := o.take (posF fs i o) ++ i :: o.drop (posF fs i o)
def sortF (fs : List Fld) : Nat → List Int
  | 0 => []
  | n + 1 => insF fs (n : Int) (sortF fs n)
/-- the places of all fields -/
def sortedF (fs : List Fld) : List Int := sortF fs fs.length
theorem posF_le (fs : List Fld) (i : Int) (o : List Int) : posF fs i o ≤ o.length := (List.takeWhile_prefix _).length_le
theorem posF_from (fs : List Fld) (i : Int) (o : List Int) : (∀ k, k < posF fs i o → ∃ u, o[k]? = some u ∧ numAt fs u ≤ numAt fs i) ∧ (∀ u, o[posF fs i o]? = some u → numAt fs i < numAt fs u) := by
  unfold posF
  induction o with
  | nil => simp
  | cons u r ih =>
    rw [List.takeWhile_cons]
    by_cases h : numAt fs u ≤ numAt fs i
    · simp only [decide_eq_true h, if_true, List.length_cons]
      refine ⟨fun k hk => ?_, fun v hv => ih.2 v (by simpa using hv)⟩
      cases k with
      | zero => exact ⟨u, rfl, h⟩
      | succ k => simpa using ih.1 k (by omega)
    · simp only [decide_eq_false h, Bool.false_eq_true, if_false, List.length_nil]
      refine ⟨fun k hk => by omega, fun v hv => ?_⟩
      simp at hv
      subst hv
      omega
theorem sortF_ok (fs : List Fld) : ∀ n, (sortF fs n).Perm (upTo n) ∧ (sortF fs n).Pairwise (Ahead fs)
  | 0 => ⟨List.Perm.refl _, List.Pairwise.nil⟩
  | n + 1 => by
    obtain ⟨h1, h2⟩ := sortF_ok fs n
    obtain ⟨h3, h4⟩ := posF_from fs (n : Int) (sortF fs n)
    have hm : ∀ u ∈ sortF fs n, u < (n : Int) := fun u hu => (upTo_mem.1 (h1.mem_iff.1 hu)).2
    rw [sortF, upTo_succ]
    refine ⟨?_, ?_⟩
    · exact (perm_insert _ _).trans ((List.Perm.cons _ h1).trans (List.perm_append_singleton _ _).symm)
    · refine srt_insert Ahead.trans h2 _ ?_ ?_
      · by_cases h0 : posF fs n (sortF fs n) = 0
        · exact .inl h0
        · obtain ⟨u, hu, hle⟩ := h3 (posF fs n (sortF fs n) - 1) (by omega)
          refine .inr ⟨u, hu, ?_⟩
          have := hm u (List.mem_of_getElem? hu)
          unfold Ahead
          omega
      · by_cases hl : (sortF fs n).length ≤ posF fs n (sortF fs n)
        · exact .inl hl
        · have hu := List.getElem?_eq_getElem (l := sortF fs n) (i := posF fs n (sortF fs n)) (by omega)
          exact .inr ⟨_, hu, .inl (h4 _ hu)⟩
theorem sortF_len (fs : List Fld) (n : Nat) : (sortF fs n).length = n := by rw [(sortF_ok fs n).1.length_eq, upTo_len]
theorem sortedF_len (fs : List Fld) : (sortedF fs).length = fs.length := sortF_len fs _
theorem sortedF_mem {fs : List Fld} {x : Int} (h : x ∈ sortedF fs) : 0 ≤ x ∧ x < fs.length := upTo_mem.1 ((sortF_ok fs _).1.mem_iff.1 h)
/-- whatever is a sorted row of the places is that row -/
theorem sortedF_unique {fs : List Fld} {Z : List Int} (h : Z.Perm (upTo fs.length)) (hs : Z.Pairwise (Ahead fs)) : Z = sortedF fs :=
  srt_unique Ahead.asymm hs (sortF_ok fs _).2 (h.trans (sortF_ok fs _).1.symm)
theorem upTo_sorted (_fs : List Fld) (n : Nat) : (upTo n).Pairwise fun i j => i < j := by
  induction n with
  | zero => exact List.Pairwise.nil
  | succ n ih =>
    rw [upTo_succ, List.pairwise_append]
    refine ⟨ih, List.pairwise_singleton _ _, fun a ha b hb => ?_⟩
    have := upTo_mem.1 ha
    simp at hb
    omega
end Go.Proofs.YtbcpeckmnmhfhaaGreat
namespace Go.Proofs.YtbcpeckmnmhfhaaGreat
open Go.RowKit
def wordL : List UInt8 → Nat
  | [] => 0
  | c :: r => c.toNat + 256 * wordL r
def wordOf (l : List UInt8) : Nat := wordL (l.take 8)
theorem wordL_snoc (l : List UInt8) (c : UInt8) : wordL (l ++ [c]) = wordL l + c.toNat * 256 ^ l.length := by
  induction l with
  | nil => simp [wordL]
  | cons x r ih =>
    rw [List.cons_append, wordL, ih, wordL, List.length_cons, Nat.pow_succ, Nat.mul_add]
    have : c.toNat * (256 ^ r.length * 256) = 256 * (c.toNat * 256 ^ r.length) := by
      rw [← Nat.mul_assoc, Nat.mul_comm]
    omega
theorem wordL_lt (l : List UInt8) : wordL l < 256 ^ l.length := by
  induction l with
  | nil => simp [wordL]
  | cons x r ih =>
    have := UInt8.toNat_lt x
    rw [wordL, List.length_cons, Nat.pow_succ]
    omega
theorem wordOf_lt (l : List UInt8) : wordOf l < 18446744073709551616 := by
  have h1 := wordL_lt (l.take 8)
  have h2 : (256 : Nat) ^ (l.take 8).length ≤ 256 ^ 8 := Nat.pow_le_pow_right (by decide) (List.length_take_le _ _)
  have h3 : (256 : Nat) ^ 8 = 18446744073709551616 := by decide
  unfold wordOf
  omega
theorem or_byte (acc k c : Nat) (ha : acc < 256 ^ k) (hk : k ≤ 7) (hc : c < 256) :
    bits .or .u64 (acc : Int) (IntKind.u64.wrap (IntKind.u64.wrap (c : Int) * 2 ^ (8 * k))) = ((acc + c * 256 ^ k : Nat) : Int) := by
  have e2 : (2 : Int) ^ (8 * k) = ((256 ^ k : Nat) : Int) := by
    rw [Int.pow_mul]; simp
  have h2 : (256 : Nat) ^ (k + 1) ≤ 256 ^ 8 := Nat.pow_le_pow_right (by omega) (by omega)
  have e8 : (256 : Nat) ^ 8 = 2 ^ 64 := by decide
  have h1 : c * 256 ^ k ≤ 255 * 256 ^ k := Nat.mul_le_mul_right _ (by omega)
  rw [Nat.pow_succ] at h2
  have e3 : IntKind.u64.wrap (c : Int) = (c : Int) := by
    rw [IntKind.wrap_u64]; omega
  have e4 : IntKind.u64.wrap ((c : Int) * ((256 ^ k : Nat) : Int)) = ((c * 256 ^ k : Nat) : Int) := by
    rw [IntKind.wrap_u64, ← Int.natCast_mul]; omega
  rw [e3, e2, e4, bits_or_u64_nat _ _ (by omega) (by omega)]
  congr 1
  have := Nat.two_pow_add_eq_or_of_lt (i := 8 * k) (b := acc) (by rw [Nat.pow_mul]; exact ha) c
  rw [Nat.or_comm, Nat.add_comm, Nat.mul_comm c]
  rw [Nat.pow_mul] at this
  exact this.symm
theorem wordL_take (l : List UInt8) (i : Nat) (h : i < l.length) : wordL (l.take (i + 1)) = wordL (l.take i) + (l.getD i 0).toNat * 256 ^ i := by
  rw [List.take_succ_eq_append_getElem h, wordL_snoc, List.length_take, Nat.min_eq_left (by omega), List.getD_eq_getElem?_getD, List.getElem?_eq_getElem h]
  rfl
set_option maxRecDepth 100000 in
set_option maxHeartbeats 4000000 in
theorem bits_Word {w : World} {v : Value} {l : List UInt8} (h : Bytes w v l) :
    Calls Tryz.prog 94 #[v] w fun e w' => e = .returned (.int .u64 (wordOf l : Nat)) ∧ w = w' := by
  obtain ⟨hlen, a, cap, rfl, -, -, hnil, -⟩ := h.open
  obtain ⟨n, HN⟩ : ∃ n, Hid (n = l.length) := ⟨_, rfl⟩
  rw [← HN.out] at hlen h ⊢
  obtain ⟨k, HK⟩ : ∃ k, Hid (k = min n 8) := ⟨_, rfl⟩
  have hk8 : k ≤ 8 := by rw [HK.out]; omega
  have hkn : k ≤ n := by rw [HK.out]; omega
  obtain ⟨v2, hr, hb⟩ := h.h HN.out k hkn
  have HB := hid hb
  obtain ⟨-, a2, cap2, rfl, -, -, -, hat⟩ := hb.open
  have hl2 : (l.take k).length = k := by rw [List.length_take]; have := HN.out; omega
  rw [hl2] at hr hat
  have HAT := hid hat
  have HW : Hid (wordOf l = wordL (l.take k)) := by
    show wordL (l.take 8) = _
    rw [HK.out]
    by_cases h8 : n ≤ 8
    · rw [Nat.min_eq_left h8, List.take_of_length_le (by rw [← HN.out]; exact h8), List.take_of_length_le (by rw [← HN.out]; omega)]
    · rw [Nat.min_eq_right (by omega)]
  clear h hb hat hnil
  by_cases h8 : n ≤ 8
  · obtain rfl : k = n := by rw [HK.out]; omega
    go_enter Tryz.func94, Tryz.ntmps94
    go_wp2_with fail
    go_loopw [3, 12] (fun v3 v12 wr => ∃ i x : Nat, v12 = .int .i64 (i : Int) ∧ v3 = .int .u64 (x : Int) ∧ i ≤ k ∧ w = wr ∧ Hid (x = wordL ((l.take k).take i))) (fun _ v12 _ => k - (intOf v12).toNat)
    case atStart => exact ⟨0, 0, rfl, rfl, by omega, rfl, rfl⟩
    case round =>
      obtain ⟨i, x, rfl, rfl, hi, rfl, HV⟩ := hrel
      by_cases hlt : i < k
      · obtain ⟨b, o, ha, g0⟩ := HAT.out i hlt
        have hix := index_run1 under_bytes size_u8 ha i hlt (cap := cap2)
        obtain ⟨c, HC⟩ : ∃ c, Hid (c = (l.take k).getD i 0) := ⟨_, rfl⟩
        rw [← HC.out] at g0
        have HE : Hid (bits .or .u64 (x : Int) (IntKind.u64.wrap (IntKind.u64.wrap (c.toNat : Int) * 2 ^ (8 * i))) = ((wordL ((l.take k).take (i + 1)) : Nat) : Int)) := by
          have h1 := wordL_lt ((l.take k).take i)
          rw [List.length_take, hl2, Nat.min_eq_left (by omega)] at h1
          rw [Hid, or_byte x i c.toNat (by rw [HV.out]; exact h1) (by omega) (UInt8.toNat_lt c), wordL_take _ _ (by rw [hl2]; exact hlt), ← HV.out, ← HC.out]
        clear ha
        go_wp2_with fail
        go_roundw
        case rel => exact ⟨i + 1, wordL ((l.take k).take (i + 1)), by go_num, by rw [HE.out], hlt, by first | rfl | trivial, rfl⟩
        case measure => simp [intOf]; omega
      · obtain rfl : i = k := by omega
        have HE : Hid (x = wordOf l) := by rw [Hid, HV.out, HW.out, List.take_of_length_le (by rw [hl2]; omega)]
        go_wp2_with fail
        go_ret
        exact ⟨by rw [HE.out]; first | done | rfl, rfl⟩
  · obtain rfl : k = 8 := by rw [HK.out]; omega
    have hr8 : ∀ W, (Instr.slice 24 (.slice a n cap) none (some (.int .i64 8)) none).run Tryz.prog W = .ok (.slice a2 8 cap2) W := hr
    clear hr
    go_enter Tryz.func94, Tryz.ntmps94
    go_wp2_with fail
    go_loopw [3, 12] (fun v3 v12 wr => ∃ i x : Nat, v12 = .int .i64 (i : Int) ∧ v3 = .int .u64 (x : Int) ∧ i ≤ 8 ∧ w = wr ∧ Hid (x = wordL ((l.take 8).take i))) (fun _ v12 _ => 8 - (intOf v12).toNat)
    case atStart => exact ⟨0, 0, rfl, rfl, by omega, rfl, rfl⟩
    case round =>
      obtain ⟨i, x, rfl, rfl, hi, rfl, HV⟩ := hrel
      by_cases hlt : i < 8
      · obtain ⟨b, o, ha, g0⟩ := HAT.out i hlt
        have hix := index_run1 under_bytes size_u8 ha i hlt (cap := cap2)
        obtain ⟨c, HC⟩ : ∃ c, Hid (c = (l.take 8).getD i 0) := ⟨_, rfl⟩
        rw [← HC.out] at g0
        have HE : Hid (bits .or .u64 (x : Int) (IntKind.u64.wrap (IntKind.u64.wrap (c.toNat : Int) * 2 ^ (8 * i))) = ((wordL ((l.take 8).take (i + 1)) : Nat) : Int)) := by
          have h1 := wordL_lt ((l.take 8).take i)
          rw [List.length_take, hl2, Nat.min_eq_left (by omega)] at h1
          rw [Hid, or_byte x i c.toNat (by rw [HV.out]; exact h1) (by omega) (UInt8.toNat_lt c), wordL_take _ _ (by rw [hl2]; exact hlt), ← HV.out, ← HC.out]
        clear ha
        go_wp2_with fail
        go_roundw
        case rel => exact ⟨i + 1, wordL ((l.take 8).take (i + 1)), by go_num, by rw [HE.out], hlt, by first | rfl | trivial, rfl⟩
        case measure => simp [intOf]; omega
      · obtain rfl : i = 8 := by omega
        have HE : Hid (x = wordOf l) := by rw [Hid, HV.out, HW.out, List.take_of_length_le (by rw [hl2]; omega)]
        go_wp2_with fail
        go_ret
        exact ⟨by rw [HE.out]; first | done | rfl, rfl⟩
set_option maxRecDepth 100000 in
set_option maxHeartbeats 4000000 in
theorem ref01_Word {w : World} {v : Value} {l : List UInt8} (h : Bytes w v l) :
    Calls Tryz.prog 50 #[v] w fun e w' => e = .returned (.int .u64 (wordOf l : Nat)) ∧ w = w' := by
  obtain ⟨hlen, a, cap, rfl, -, -, hnil, hat⟩ := h.open
  obtain ⟨n, HN⟩ : ∃ n, Hid (n = l.length) := ⟨_, rfl⟩
  rw [← HN.out] at hlen hat ⊢
  have HAT := hid hat
  clear h hat hnil
  go_enter Tryz.func50, Tryz.ntmps50
  go_wp2_with fail
  go_loopw [3, 4, 5] (fun v3 v4 v5 wr => ∃ i x f : Nat, v5 = .int .i64 (i : Int) ∧ v3 = .int .u64 (x : Int) ∧ v4 = .int .u64 (f : Int) ∧ i ≤ n ∧ i ≤ 8 ∧ w = wr ∧ Hid (x = wordL (l.take i) ∧ (i < 8 → f = 256 ^ i))) (fun _ _ v5 _ => n - (intOf v5).toNat)
  case atStart => exact ⟨0, 0, 1, rfl, rfl, rfl, by omega, by omega, rfl, rfl, fun _ => rfl⟩
  case round =>
    obtain ⟨i, x, f, rfl, rfl, rfl, hi, hi8, rfl, HV⟩ := hrel
    by_cases hlt : i < n ∧ i < 8
    · obtain ⟨h1, h2⟩ := hlt
      obtain ⟨b, o, ha, g0⟩ := HAT.out i h1
      have hix := index_run1 under_bytes size_u8 ha i h1 (cap := cap)
      obtain ⟨c, HC⟩ : ∃ c, Hid (c = l.getD i 0) := ⟨_, rfl⟩
      rw [← HC.out] at g0
      obtain ⟨y, HY⟩ : ∃ y, Hid (y = wordL (l.take (i + 1))) := ⟨_, rfl⟩
      obtain ⟨f2, HF2⟩ : ∃ f2 : Nat, Hid ((f2 : Int) = IntKind.u64.wrap ((f : Int) * 256)) := ⟨(IntKind.u64.wrap ((f : Int) * 256)).toNat, by show (_ : Int) = _; rw [IntKind.wrap_u64]; omega⟩
      have HST : Hid (IntKind.u64.wrap ((x : Int) + IntKind.u64.wrap (IntKind.u64.wrap (c.toNat : Int) * (f : Int))) = (y : Int) ∧ (i + 1 < 8 → f2 = 256 ^ (i + 1))) := by
        have e1 := HV.out.2 h2
        have hy : y = x + c.toNat * f := by rw [HY.out, wordL_take _ _ (by rw [← HN.out]; exact h1), ← HV.out.1, ← HC.out, e1]
        have hlt2 : y < 18446744073709551616 := by
          rw [HY.out]
          have h3 := wordL_lt (l.take (i + 1))
          have h4 : (256 : Nat) ^ (l.take (i + 1)).length ≤ 256 ^ 8 := Nat.pow_le_pow_right (by decide) (by rw [List.length_take]; omega)
          have h5 : (256 : Nat) ^ 8 = 18446744073709551616 := by decide
          omega
        constructor
        · have h9 := UInt8.toNat_lt c
          rw [show IntKind.u64.wrap (c.toNat : Int) = (c.toNat : Int) by rw [IntKind.wrap_u64]; omega, ← Int.natCast_mul, IntKind.wrap_u64, IntKind.wrap_u64]
          omega
        · intro h3
          have h4 : (256 : Nat) ^ (i + 1) ≤ 256 ^ 7 := Nat.pow_le_pow_right (by decide) (by omega)
          have h5 : (256 : Nat) ^ 7 = 72057594037927936 := by decide
          have h6 := HF2.out
          rw [IntKind.wrap_u64, e1] at h6
          rw [Nat.pow_succ] at h4 ⊢
          omega
      clear ha
      go_wp2_with fail
      go_roundw
      case rel => exact ⟨i + 1, y, f2, by go_num, by rw [← HST.out.1], by rw [HF2.out], h1, by omega, by first | rfl | trivial, HY.out, HST.out.2⟩
      case measure => simp [intOf]; omega
    · have HE : Hid (x = wordOf l) := by
        rw [Hid, HV.out.1, wordOf]
        by_cases h8 : i = 8
        · rw [h8]
        · rw [List.take_of_length_le (by rw [← HN.out]; omega), List.take_of_length_le (by rw [← HN.out]; omega)]
      have hexit : (i < n ∧ i = 8) ∨ i = n := by omega
      clear hlt
      rcases hexit with ⟨h1, rfl⟩ | rfl
      · go_wp2_with fail
        go_ret
        exact ⟨by rw [HE.out]; first | done | rfl, rfl⟩
      · go_wp2_with fail
        go_ret
        exact ⟨by rw [HE.out]; first | done | rfl, rfl⟩
end Go.Proofs.YtbcpeckmnmhfhaaGreat
