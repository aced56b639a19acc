/- darninglaw14.Of: a copy of any meaning, for each depth (OfOk), and OfValue likewise. slices.IndexFunc and slices.ContainsFunc of words, strings, messages: firstAt, any. The function handed in tells p of each element and changes nothing that was there. A string's bytes; schema.ByNumber (fieldAt); record.Split of one record; tree.stranger (strangeB). A string is at most 2^40 bytes. Plain laws: all views of bytes (vall). No condition. Plain laws of merging: two sorted rows, cut crosswise and sorted apart, make one sorted row. No condition. Plain laws: the places of fields by rising numbers, what is alike in its order. No condition. bits.Word, darningref01.Word: the word of at most eight bytes (wordOf). No condition. scalar.Read, darningref08.Read, darningref05.Fits: a number's bytes (kread). The kind is a number's. append onto a row of the call's own, whatever is appended (a string's bytes too), as an equation of the run. No condition. run.Words: the words of a run (kwords), or its code. At most 2^40 bytes; the kind is a number's. -/
import Derived.Test.YtphkmpnahnakaaaZ01
import Derived.Test.YtphkmpnahnakaaaZ02
import Derived.Test.YtphkmpnahnakaaaZ04
import Derived.Test.YtphkmpnahnakaaaZ08
import Derived.Test.YtphkmpnahnakaaaZ10
import Derived.Test.YtphkmpnahnakaaaZ11
import Derived.Test.YtphkmpnahnakaaaZ13
import Derived.Test.YtphkmpnahnakaaaZ14
import Derived.Laws.IdiomStrings
import Derived.Laws.AppendOwn
import Derived.Deep.AppendSrc
import Derived.Maps.AppendAt
import Derived.OwnWalk
import Derived.OwnWalkIn
import Derived.RangeFuncNested
import Derived.RangeFuncCalls
namespace Go.Proofs.Ytphkmpnahnakaaa
open Go.RowKit Go.Shelf
theorem ValAt.form {d : Nat} {w : World} {v : Value} {x : Val (M d)} (h : ValAt (MsgAt d) w v x) : ∃ m a1 n1 c1 a2 n2 c2 a3 n3 c3, v = .agg #[.int .i64 m, .slice a1 n1 c1, .slice a2 n2 c2, .slice a3 n3 c3] := by
  obtain ⟨wv, tv, sv, rfl, -, hW, hT, hS⟩ := h
  obtain ⟨-, wa, wc, rfl, -, -⟩ := hW.open
  obtain ⟨-, ta, tc, rfl, -, -⟩ := hT.open
  obtain ⟨-, sa, sc, rfl, -, -⟩ := hS.open
  exact ⟨_, _, _, _, _, _, _, _, _, _, rfl⟩
end Go.Proofs.Ytphkmpnahnakaaa
namespace Go.Proofs.Ytphkmpnahnakaaa
open Go.RowKit
end Go.Proofs.Ytphkmpnahnakaaa
namespace Go.Proofs.Ytphkmpnahnakaaa
open Go.RowKit
/-- .. what was laid since the slice was last touched stays -/
theorem RowsOwn.step2 {α : Type} {P : World → List Value → α → Prop} {T : TypeId} {k n0 base i : Nat} {wr w1 : World} {oa : Option Addr} {oc : Nat} {l : List α} (h : RowsOwn P T k n0 base wr (.slice oa i oc) l) (hb : Below wr.heap.size wr w1) (hk : 0 < k) (hn0 : n0 ≤ base) (hbs : base ≤ wr.heap.size) (hil : l.length = i)
    {G : Program} (t : TypeId) (z : Value) (bytes : Nat) (ht : G.underlying t = some (.slice T)) (hinfo : (G.info? T).map (fun i => (i.zero, i.size, i.bytes)) = some (some z, k, bytes)) (hzs : z.cells.size = k)
    (cells : Array Value) (hr : cells.size = k) (h1 : ∀ u ∈ cells.toList, u.oneCell' = true) (x : α) (hP : Apart n0 wr.heap.size w1 fun w' => P w' cells.toList x) (hlen : i ≤ 1099511627776) (hby : bytes ≤ 120) :
    ∃ a' c' w5, (Builtin.append_ #[t, t] t #[.slice oa i oc, .slice (some ⟨w1.heap.size, 0, none⟩) 1 1]).run G (w1.alloc (.cells cells T)) = .ok (.slice a' (i + 1) c') w5 ∧ RowsOwn P T k n0 base w5 (.slice a' (i + 1) c') (l ++ [x]) ∧
      Below base wr (w1.alloc (.cells cells T)) ∧ Below base wr w5 ∧ ∀ b, wr.heap.size ≤ b → b < w1.heap.size → w5.heap[b]? = w1.heap[b]? := by
  have hs := hb.size
  have hB1 : Below base wr (w1.alloc (.cells cells T)) := (hb.mono hbs).alloc (by omega) _
  obtain ⟨v', w', hrun, hO, hg, -⟩ := (h.below hb).append hk hn0 t z bytes ht hinfo hzs cells hr h1 x wr.heap.size (fun b e => (h.own b e).2) hbs hP (by omega) hby (by omega)
  obtain ⟨a', c', rfl⟩ := hO.form
  rw [List.length_append, List.length_singleton, hil] at *
  refine ⟨a', c', w', hrun, hO, hB1, hB1.grown hg (by have := hB1.size; omega) fun q e => (h.own q e).1, fun b h1 h2 => ?_⟩
  refine (hg.block b (by simp; omega) (fun e => ?_)).trans (Below.heap_alloc w1 _ b h2)
  have := (h.own b e.symm).2
  omega
/-- is all of it one record? -/
def oneRec (l : List UInt8) : Prop := (rnext l 0).2 = 0 ∧ (rnext l 0).1.to = l.length
instance (l : List UInt8) : Decidable (oneRec l) := by unfold oneRec; infer_instance
theorem rnext_ok {l : List UInt8} {i : Nat} (h : (rnext l i).2 = 0) : i < l.length ∧ i < (rnext l i).1.to ∧ (rnext l i).1.to ≤ l.length := by
  rcases rnext_cases l i with ⟨h1, h2⟩ | ⟨h1, c, -, h2, h3⟩ | ⟨h1, k, x, n, -, h2, h3, h4, h5, h6, h7, ⟨a, m, c, -, g1, g2, g3, g4⟩ | ⟨a, m, -, g1, g2, g3, g4, g5⟩ | ⟨a, m, -, g1, g2, g3, g4⟩⟩
  · rw [h2] at h; simp at h
  · rw [h3] at h; simp at h; omega
  · rw [g4] at h; simp at h; omega
  · rw [g5] at h; simp at h
  · rw [g4]; exact ⟨h1, by simp; omega, by simp; omega⟩
end Go.Proofs.Ytphkmpnahnakaaa
namespace Go.Proofs.Ytphkmpnahnakaaa
open Go.RowKit
/-- a view: a record, its field, whether it is a run -/
structure VW where
  r : Rec
  k : Int
  run : Bool
def VW.cells (x : VW) : List Value := viewL x.r x.k x.run
def vallGo (fs : List Fld) (l : List UInt8) : Nat → Nat → List VW × Nat × Nat
  | 0, _ => ([], 0, 0)
  | n + 1, i =>
    if l.length ≤ i then ([], 0, 0) else
    if (vlook fs l i).2.2.2 ≠ 0 then ([], i, (vlook fs l i).2.2.2) else
    let x := vallGo fs l n (vlook fs l i).1.to
    if x.2.2 ≠ 0 then ([], x.2.1, x.2.2) else (⟨(vlook fs l i).1, (vlook fs l i).2.1, (vlook fs l i).2.2.1⟩ :: x.1, 0, 0)
/-- all views, the place and the code of the first that can't be told -/
def vall (fs : List Fld) (l : List UInt8) : List VW × Nat × Nat := vallGo fs l l.length 0
def glueV (pre : List VW) (x : List VW × Nat × Nat) : List VW × Nat × Nat := if x.2.2 ≠ 0 then ([], x.2.1, x.2.2) else (pre ++ x.1, 0, 0)
theorem vallGo_form (fs : List Fld) (l : List UInt8) : ∀ n i, (vallGo fs l n i).2.2 ≠ 0 → (vallGo fs l n i).1 = []
  | 0, _, h => by simp [vallGo] at h
  | n + 1, i, h => by
    rw [vallGo] at h ⊢
    split
    · rfl
    · split
      · rfl
      · simp only
        split
        · rfl
        · rename_i h1 h2 h3
          rw [if_neg h1, if_neg h2] at h
          simp only at h
          rw [if_neg h3] at h
          exact absurd rfl h
theorem vallGo_place (fs : List Fld) (l : List UInt8) : ∀ n i, (vallGo fs l n i).2.2 = 0 → (vallGo fs l n i).2.1 = 0
  | 0, _, _ => rfl
  | n + 1, i, h => by
    rw [vallGo] at h ⊢
    split
    · rfl
    · split
      · rename_i h1 h2
        rw [if_neg h1, if_pos h2] at h
        exact absurd h h2
      · simp only
        split
        · rename_i h1 h2 h3
          rw [if_neg h1, if_neg h2] at h
          simp only at h
          rw [if_pos h3] at h
          exact absurd h h3
        · rfl
theorem glueV_nil (fs : List Fld) (l : List UInt8) (n i : Nat) : glueV [] (vallGo fs l n i) = vallGo fs l n i := by
  unfold glueV
  split
  · rename_i h
    have := vallGo_form fs l n i h
    rw [← this]
  · rename_i h
    have h' : (vallGo fs l n i).2.2 = 0 := by omega
    have := vallGo_place fs l n i h'
    rw [List.nil_append]
    generalize vallGo fs l n i = x at *
    obtain ⟨a, b, c⟩ := x
    simp only at *
    subst h'
    subst this
    rfl
theorem vlook_ok {fs : List Fld} {l : List UInt8} {i : Nat} (h : (vlook fs l i).2.2.2 = 0) : i < l.length ∧ i < (vlook fs l i).1.to ∧ (vlook fs l i).1.to ≤ l.length ∧ (rnext l i).2 = 0 ∧ (vlook fs l i).1 = (rnext l i).1 := by
  have hr : (rnext l i).2 = 0 := by
    refine Decidable.byContradiction fun hn => ?_
    unfold vlook at h
    rw [if_pos hn] at h
    exact hn h
  have hv : (vlook fs l i).1 = (rnext l i).1 := by
    unfold vlook at h ⊢
    rw [if_neg (by omega)] at h ⊢
    split
    · rfl
    · rename_i h1
      rw [if_neg h1] at h
      simp only at h ⊢
      split
      · rfl
      · rename_i h2
        rw [if_neg h2] at h
        split
        · rename_i h3
          rw [if_pos h3] at h
          simp at h
        · rfl
  have := rnext_ok hr
  rw [hv]
  exact ⟨this.1, this.2.1, this.2.2, hr, rfl⟩
/-- one view more -/
theorem glueV_step {fs : List Fld} {l : List UInt8} {n i : Nat} {pre : List VW} {r : Rec} {k : Int} {run : Bool} (hi : i < l.length) (h : vlook fs l i = (r, k, run, 0)) :
    glueV pre (vallGo fs l (n + 1) i) = glueV (pre ++ [⟨r, k, run⟩]) (vallGo fs l n r.to) := by
  rw [vallGo, if_neg (by omega), h]
  simp only [ne_eq, not_true_eq_false, if_false]
  unfold glueV
  by_cases hx : (vallGo fs l n r.to).2.2 = 0
  · simp [hx]
  · simp [hx]
theorem glueV_bad {fs : List Fld} {l : List UInt8} {n i : Nat} {pre : List VW} {c : Nat} (hi : i < l.length) (h : (vlook fs l i).2.2.2 = c) (hc : c ≠ 0) : glueV pre (vallGo fs l (n + 1) i) = ([], i, c) := by
  rw [vallGo, if_neg (by omega), if_pos (by rw [h]; exact hc), h]
  unfold glueV
  simp [hc]
theorem glueV_end {fs : List Fld} {l : List UInt8} {n i : Nat} {pre : List VW} (hi : l.length ≤ i) : glueV pre (vallGo fs l n i) = (pre, 0, 0) := by
  cases n with
  | zero => simp [vallGo, glueV]
  | succ n => rw [vallGo, if_pos hi]; simp [glueV]
end Go.Proofs.Ytphkmpnahnakaaa
namespace Go.Proofs.Ytphkmpnahnakaaa
variable {T : Type} {R : T → T → Prop}
theorem srt_all_lt (ht : ∀ x y z, R x y → R y z → R x z) {L Q : List T} (hL : L.Pairwise R) (hQ : Q.Pairwise R) (h : L = [] ∨ Q = [] ∨ ∃ x y, L.getLast? = some x ∧ Q.head? = some y ∧ R x y) : ∀ a ∈ L, ∀ b ∈ Q, R a b := by
  intro a ha b hb
  rcases h with rfl | rfl | ⟨x, y, hx, hy, hxy⟩
  · cases ha
  · cases hb
  · have h1 : a = x ∨ R a x := by
      obtain ⟨L', rfl⟩ := List.getLast?_eq_some_iff.1 hx
      rcases List.mem_append.1 ha with h | h
      · exact .inr ((List.pairwise_append.1 hL).2.2 a h x (by simp))
      · exact .inl (by simpa using h)
    have h2 : b = y ∨ R y b := by
      obtain ⟨Q', rfl⟩ := List.head?_eq_some_iff.1 hy
      rcases List.mem_cons.1 hb with h | h
      · exact .inl h
      · exact .inr ((List.pairwise_cons.1 hQ).1 b h)
    rcases h1 with rfl | h1
    · rcases h2 with rfl | h2
      · exact hxy
      · exact ht _ _ _ hxy h2
    · rcases h2 with rfl | h2
      · exact ht _ _ _ h1 hxy
      · exact ht _ _ _ (ht _ _ _ h1 hxy) h2
theorem merge_join (ht : ∀ x y z, R x y → R y z → R x z) {L1 L2 Q1 Q2 Z1 Z2 : List T} (hL : (L1 ++ L2).Pairwise R) (hQ : (Q1 ++ Q2).Pairwise R)
    (h1 : L1 = [] ∨ Q2 = [] ∨ ∃ x y, L1.getLast? = some x ∧ Q2.head? = some y ∧ R x y) (h2 : Q1 = [] ∨ L2 = [] ∨ ∃ x y, Q1.getLast? = some x ∧ L2.head? = some y ∧ R x y)
    (hz1 : Z1.Perm (L1 ++ Q1)) (s1 : Z1.Pairwise R) (hz2 : Z2.Perm (L2 ++ Q2)) (s2 : Z2.Pairwise R) : (Z1 ++ Z2).Pairwise R ∧ (Z1 ++ Z2).Perm ((L1 ++ L2) ++ (Q1 ++ Q2)) := by
  obtain ⟨hl1, hl2, hl⟩ := List.pairwise_append.1 hL
  obtain ⟨hq1, hq2, hq⟩ := List.pairwise_append.1 hQ
  have k1 := srt_all_lt ht hl1 hq2 h1
  have k2 := srt_all_lt ht hq1 hl2 h2
  constructor
  · rw [List.pairwise_append]
    refine ⟨s1, s2, fun a ha b hb => ?_⟩
    rcases List.mem_append.1 (hz1.mem_iff.1 ha) with ha | ha <;> rcases List.mem_append.1 (hz2.mem_iff.1 hb) with hb | hb
    · exact hl a ha b hb
    · exact k1 a ha b hb
    · exact k2 a ha b hb
    · exact hq a ha b hb
  · refine (hz1.append hz2).trans ?_
    have e : ((L1 ++ Q1) ++ (L2 ++ Q2)).Perm (L1 ++ (L2 ++ (Q1 ++ Q2))) := by
      rw [List.append_assoc]
      refine List.Perm.append_left L1 ?_
      rw [← List.append_assoc, ← List.append_assoc]
      exact List.Perm.append_right Q2 List.perm_append_comm
    rw [List.append_assoc L1 L2]
    exact e
/-- one element, put into a sorted row -/
theorem srt_insert (ht : ∀ x y z, R x y → R y z → R x z) {Q : List T} {x : T} (hQ : Q.Pairwise R) (i : Nat) (h1 : i = 0 ∨ ∃ y, Q[i - 1]? = some y ∧ R y x) (h2 : Q.length ≤ i ∨ ∃ y, Q[i]? = some y ∧ R x y) :
    (Q.take i ++ x :: Q.drop i).Pairwise R := by
  have hQ' := hQ
  rw [← List.take_append_drop i Q] at hQ'
  obtain ⟨q1, q2, q⟩ := List.pairwise_append.1 hQ'
  have k1 : ∀ a ∈ Q.take i, R a x := by
    intro a ha
    refine srt_all_lt ht q1 (List.pairwise_singleton R x) ?_ a ha x (by simp)
    rcases h1 with rfl | ⟨y, hy, hyx⟩
    · exact .inl rfl
    · refine .inr (.inr ⟨y, x, ?_, rfl, hyx⟩)
      have hl : i - 1 < Q.length := (List.getElem?_eq_some_iff.1 hy).1
      by_cases hi : i = 0
      · subst hi; simp at ha
      · rw [List.getLast?_eq_getElem?, List.length_take, Nat.min_eq_left (by omega), List.getElem?_take, if_pos (by omega)]
        exact hy
  have k2 : ∀ a ∈ Q.drop i, R x a := by
    intro a ha
    refine srt_all_lt ht (List.pairwise_singleton R x) q2 ?_ x (by simp) a ha
    rcases h2 with h2 | ⟨y, hy, hxy⟩
    · exact .inr (.inl (List.drop_eq_nil_of_le h2))
    · refine .inr (.inr ⟨x, y, rfl, ?_, hxy⟩)
      rw [List.head?_drop]; exact hy
  rw [List.pairwise_append, List.pairwise_cons]
  exact ⟨q1, ⟨k2, q2⟩, fun a ha b hb => by
    rcases List.mem_cons.1 hb with rfl | hb
    · exact k1 a ha
    · exact q a ha b hb⟩
theorem perm_insert {Q : List T} (x : T) (i : Nat) : (Q.take i ++ x :: Q.drop i).Perm (x :: Q) := by
  refine List.perm_middle.trans ?_
  rw [List.take_append_drop]
end Go.Proofs.Ytphkmpnahnakaaa
namespace Go.Proofs.Ytphkmpnahnakaaa
def numAt (fs : List Fld) (i : Int) : Int := (fs.getD i.toNat .zero).number
/-- comes a place ahead of another one? -/
def Ahead (fs : List Fld) (i j : Int) : Prop := numAt fs i < numAt fs j ∨ numAt fs i = numAt fs j ∧ i < j
theorem Ahead.trans {fs : List Fld} (x y z : Int) (h : Ahead fs x y) (h2 : Ahead fs y z) : Ahead fs x z := by unfold Ahead at *; omega
end Go.Proofs.Ytphkmpnahnakaaa
namespace Go.Proofs.Ytphkmpnahnakaaa
open Go.RowKit
end Go.Proofs.Ytphkmpnahnakaaa
namespace Go.Proofs.Ytphkmpnahnakaaa
open Go.RowKit
theorem kright_num {k : Int} (h : knumber k = true) : kright k = true := by unfold knumber at h; unfold kright; simp at h ⊢; omega
end Go.Proofs.Ytphkmpnahnakaaa
namespace Go.Proofs.Ytphkmpnahnakaaa
open Go.RowKit
end Go.Proofs.Ytphkmpnahnakaaa
namespace Go.Proofs.Ytphkmpnahnakaaa
open Go.RowKit Go.Shelf
attribute [local go_sem] Oper.semAt_some
/-- A []uint64 of the call's own. -/
def WordsOwn (w : World) (base : Nat) (v : Value) (l : List Nat) : Prop := w.ownsRow base 107 1 v l.length (l.map wordV)
theorem WordsOwn.form {w : World} {base : Nat} {v : Value} {l : List Nat} (h : WordsOwn w base v l) : ∃ a c, v = .slice a l.length c := by
  rcases h.2 with ⟨h1, h2⟩ | ⟨g, cap, cur, hv, -⟩
  · exact ⟨none, 0, by rw [h1, h2]⟩
  · exact ⟨_, _, hv⟩
theorem WordsOwn.later {w w' : World} {base : Nat} {v : Value} {l : List Nat} (h : WordsOwn w base v l) (hb : Below w.heap.size w w') : WordsOwn w' base v l :=
  row_keep h fun b _ _ he => hb.block b (Array.getElem?_eq_some_iff.1 he).1
theorem WordsOwn.mono {W : World} {b b' : Nat} {v : Value} {l : List Nat} (h : WordsOwn W b v l) (hb : b' ≤ b) : WordsOwn W b' v l := by
  refine ⟨h.1, ?_⟩
  rcases h.2 with h2 | ⟨g, cap, cur, hv, hg, h3⟩
  · exact .inl h2
  · exact .inr ⟨g, cap, cur, hv, by omega, h3⟩
theorem WordsOwn.words {w : World} {base : Nat} {v : Value} {l : List Nat} (h : WordsOwn w base v l) (hn : l.length ≤ 140737488355328) (hl : ∀ x ∈ l, x < 2 ^ 64) : WordsAt w v l := ⟨row_seg h hn, hl⟩
end Go.Proofs.Ytphkmpnahnakaaa
