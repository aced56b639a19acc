/- Parts of a proof: texts of the author, merged. No condition of their own. -/
import Derived.Test.YtaefpjecalnbcaaGreatZ01
import Derived.Test.YtaefpjecalnbcaaGreatZ02
import Derived.Test.YtaefpjecalnbcaaGreatZ06
import Derived.Maps.AppendAt
import Derived.RangeFuncFrom
import Derived.Deep.RegionWith
import Derived.Deep.RegionHeld3
import Init
namespace Go.Proofs.YtaefpjecalnbcaaGreat
open Go.RowKit
def Blk (w : World) (b : Nat) (cs : List Value) (T : TypeId) : Prop := w.heap[b]? = some (.cells cs.toArray T (0, 0))
theorem Blk.cell {w : World} {b : Nat} {cs : List Value} {T : TypeId} (h : Blk w b cs T) (j : Nat) (u : Value) (hu : cs[j]? = some u) : w.cell? ⟨b, j, none⟩ = some u := by
  rw [cell_of_row _ _ _ _ T (0, 0) h]; simpa using hu
theorem Blk.free {w : World} {b : Nat} {cs : List Value} {T : TypeId} (h : Blk w b cs T) (j : Nat) : w.frozen? ⟨b, j, none⟩ = false := by
  unfold Blk at h
  simp [World.frozen?, h]
theorem Blk.lt {w : World} {b : Nat} {cs : List Value} {T : TypeId} (h : Blk w b cs T) : b < w.heap.size := by
  unfold Blk at h
  rw [Array.getElem?_eq_some_iff] at h
  exact h.1
theorem Blk.below {w w' : World} {b : Nat} {cs : List Value} {T : TypeId} (h : Blk w b cs T) (hb : Below w.heap.size w w') : Blk w' b cs T := (hb.block b h.lt).trans h
theorem Blk.alloc {w : World} {b : Nat} {cs : List Value} {T : TypeId} (h : Blk w b cs T) (o : Obj) : Blk (w.alloc o) b cs T := (Below.heap_alloc w o b h.lt).trans h
theorem Blk.new (w : World) (cs : List Value) (T : TypeId) : Blk (w.alloc (.cells cs.toArray T)) w.heap.size cs T := heap_alloc_new w _
theorem Blk.set_other {w : World} {b : Nat} {cs : List Value} {T : TypeId} (h : Blk w b cs T) (a : Addr) (v : Value) (hne : b ≠ a.block) : Blk (w.setCell a v) b cs T := (Below.heap_setCell w a v b hne).trans h
theorem Blk.set {w : World} {b : Nat} {cs : List Value} {T : TypeId} (h : Blk w b cs T) (j : Nat) (v : Value) : Blk (w.setCell ⟨b, j, none⟩ v) b (cs.set j v) T := by
  unfold Blk at *
  obtain ⟨hlt, hk⟩ := Array.getElem?_eq_some_iff.1 h
  show (w.heap.modify b _)[b]? = _
  rw [Array.getElem?_eq_getElem (by rw [Array.size_modify]; exact hlt), Array.getElem_modify_self, hk]
  simp
theorem Blk.new' (w : World) (cs : List Value) (T : TypeId) (n : Nat) (h : n = w.heap.size) : Blk (w.alloc (.cells cs.toArray T)) n cs T := by subst h; exact Blk.new w cs T
theorem row_keep {w w' : World} {base size n : Nat} {e : TypeId} {v : Value} {xs : List Value} (h : w.ownsRow base e size v n xs)
    (hk : ∀ b cur, base ≤ b → w.heap[b]? = some (.cells cur e (0, 0)) → w'.heap[b]? = w.heap[b]?) : w'.ownsRow base e size v n xs := by
  refine ⟨h.1, ?_⟩
  rcases h.2 with h2 | ⟨g, cap, cur, hv, hb, hg, hnc, hcm, hcs, ht⟩
  · exact .inl h2
  · exact .inr ⟨g, cap, cur, hv, hb, (hk g cur hb hg).trans hg, hnc, hcm, hcs, ht⟩
theorem seg_blk {w : World} {g : Nat} {cs : List Value} {T : TypeId} (h : Blk w g cs T) (size n : Nat) (hl : cs.length = n * size) (hn : n ≤ 140737488355328) : Seg w (.slice (some ⟨g, 0, none⟩) n n) size n cs :=
  ⟨hl, hn, _, _, rfl, Nat.le_refl _, by omega, by simp, fun j u hu => ⟨g, 0, rfl, by rw [Nat.zero_add]; exact h.cell j u hu⟩⟩
end Go.Proofs.YtaefpjecalnbcaaGreat
namespace Go.Proofs.YtaefpjecalnbcaaGreat
open Go.RowKit
def recL (r : Rec) : List Value := [.int .i64 r.number, .int .i64 r.wire, .int .i64 r.start, .int .i64 r.at', .int .i64 r.to]
end Go.Proofs.YtaefpjecalnbcaaGreat
namespace Go.Proofs.YtaefpjecalnbcaaGreat
open Go.RowKit
end Go.Proofs.YtaefpjecalnbcaaGreat
namespace Go.Proofs.YtaefpjecalnbcaaGreat
open Go.RowKit
end Go.Proofs.YtaefpjecalnbcaaGreat
namespace Go.Proofs.YtaefpjecalnbcaaGreat
open Go.RowKit
end Go.Proofs.YtaefpjecalnbcaaGreat
namespace Go.Proofs.YtaefpjecalnbcaaGreat
def uhead (c : Nat) : Nat × Nat :=
  if c < 128 then (1, c) else if 192 ≤ c ∧ c < 224 then (2, c % 32) else if 224 ≤ c ∧ c < 240 then (3, c % 16) else if 240 ≤ c ∧ c < 248 then (4, c % 8) else (0, 0)
def uleast (n : Nat) : Nat := if n ≤ 1 then 0 else if n = 2 then 128 else if n = 3 then 2048 else 65536
def ucont : Nat → Nat → List UInt8 → Option Nat
  | 0, r, _ => some r
  | _ + 1, _, [] => none
  | k + 1, r, c :: t => if 128 ≤ c.toNat ∧ c.toNat < 192 then ucont k (r * 64 + c.toNat % 64) t else none
def ubad (n r : Nat) : Bool := decide (r < uleast n ∨ 1114111 < r ∨ 55296 ≤ r ∧ r ≤ 57343)
def unext (l : List UInt8) : Nat :=
  match l with
  | [] => 0
  | c :: t =>
    if (uhead c.toNat).1 = 0 ∨ l.length < (uhead c.toNat).1 then 0 else
    match ucont ((uhead c.toNat).1 - 1) (uhead c.toNat).2 t with
    | none => 0
    | some r => if ubad (uhead c.toNat).1 r then 0 else (uhead c.toNat).1
theorem uhead_le (c : Nat) : (uhead c).1 ≤ 4 := by
  unfold uhead
  repeat' split
  all_goals simp
theorem unext_le (l : List UInt8) : unext l ≤ l.length ∧ unext l ≤ 4 := by
  unfold unext
  split
  · exact ⟨Nat.le_refl _, by omega⟩
  · rename_i c t
    have := uhead_le c.toNat
    split
    · exact ⟨Nat.zero_le _, by omega⟩
    · split
      · exact ⟨Nat.zero_le _, by omega⟩
      · split
        · exact ⟨Nat.zero_le _, by omega⟩
        · exact ⟨by omega, this⟩
def ugo : Nat → List UInt8 → Nat
  | 0, _ => 0
  | f + 1, l => if unext l = 0 then 0 else unext l + ugo f (l.drop (unext l))
def ufirst (l : List UInt8) : Nat := ugo l.length l
theorem ugo_more : ∀ (f g : Nat) (l : List UInt8), l.length ≤ f → f ≤ g → ugo g l = ugo f l
  | 0, g, l, h, _ => by
    obtain rfl : l = [] := List.eq_nil_of_length_eq_zero (by omega)
    cases g <;> simp [ugo, unext]
  | f + 1, 0, l, _, h => by omega
  | f + 1, g + 1, l, h, hg => by
    simp only [ugo]
    split
    · rfl
    · rw [ugo_more f g _ (by rw [List.length_drop]; omega) (by omega)]
theorem ufirst_step (l : List UInt8) : ufirst l = if unext l = 0 then 0 else unext l + ufirst (l.drop (unext l)) := by
  unfold ufirst
  cases h : l.length with
  | zero =>
    obtain rfl : l = [] := List.eq_nil_of_length_eq_zero h
    simp [ugo, unext]
  | succ f =>
    simp only [ugo]
    split
    · rfl
    · rename_i hne
      have := unext_le l
      rw [ugo_more (l.drop (unext l)).length f _ (Nat.le_refl _) (by rw [List.length_drop]; omega)]
def b8 (n : Nat) : UInt8 := UInt8.ofNat n
def uput (r : Nat) : List UInt8 :=
  if 1114111 < r ∨ 55296 ≤ r ∧ r ≤ 57343 then [] else
  if r < 128 then [b8 r] else
  if r < 2048 then [b8 (192 + r / 64), b8 (128 + r % 64)] else
  if r < 65536 then [b8 (224 + r / 4096), b8 (128 + r / 64 % 64), b8 (128 + r % 64)] else
  [b8 (240 + r / 262144), b8 (128 + r / 4096 % 64), b8 (128 + r / 64 % 64), b8 (128 + r % 64)]
def umod (n c : Nat) : Nat := if n ≤ 1 then c else if n = 2 then c % 32 else if n = 3 then c % 16 else c % 8
def ufold : Nat → List UInt8 → Nat
  | r, [] => r
  | r, c :: t => ufold (64 * r + c.toNat % 64) t
def uval (n : Nat) (l : List UInt8) : Nat := ufold (umod n (l.getD 0 0).toNat) ((l.take n).drop 1)
theorem b8_eq (n : Nat) (c : UInt8) (h : n < 256) : b8 n = c ↔ n = c.toNat := by
  constructor
  · rintro rfl; simp [b8]; omega
  · intro e; apply UInt8.toNat_inj.1; simp [b8]; omega
theorem uhead_cases (c : Nat) : (c < 128 ∧ uhead c = (1, c)) ∨ (192 ≤ c ∧ c < 224 ∧ uhead c = (2, c % 32)) ∨ (224 ≤ c ∧ c < 240 ∧ uhead c = (3, c % 16)) ∨ (240 ≤ c ∧ c < 248 ∧ uhead c = (4, c % 8)) ∨
    ((128 ≤ c ∧ c < 192 ∨ 248 ≤ c) ∧ uhead c = (0, 0)) := by
  unfold uhead
  by_cases h1 : c < 128
  · exact .inl ⟨h1, if_pos h1⟩
  · rw [if_neg h1]
    by_cases h2 : 192 ≤ c ∧ c < 224
    · exact .inr (.inl ⟨h2.1, h2.2, if_pos h2⟩)
    · rw [if_neg h2]
      by_cases h3 : 224 ≤ c ∧ c < 240
      · exact .inr (.inr (.inl ⟨h3.1, h3.2, if_pos h3⟩))
      · rw [if_neg h3]
        by_cases h4 : 240 ≤ c ∧ c < 248
        · exact .inr (.inr (.inr (.inl ⟨h4.1, h4.2, if_pos h4⟩)))
        · exact .inr (.inr (.inr (.inr ⟨by omega, if_neg h4⟩)))
def cont (c : UInt8) : Prop := 128 ≤ c.toNat ∧ c.toNat < 192
theorem unext1 (c : UInt8) (t : List UInt8) : unext (c :: t) = 1 ↔ c.toNat < 128 := by
  have hc := c.toNat_lt
  rcases uhead_cases c.toNat with ⟨h, e⟩ | ⟨h, h', e⟩ | ⟨h, h', e⟩ | ⟨h, h', e⟩ | ⟨h, e⟩
  · simp only [unext, e]
    have hb : ubad 1 c.toNat = false := by simp [ubad, uleast]; omega
    simp [ucont, hb, h]
  all_goals
    have hne : ¬ c.toNat < 128 := by omega
    simp only [hne, iff_false]
    simp only [unext, e]
    repeat' split
    all_goals omega
theorem unext2 (c d : UInt8) (t : List UInt8) : unext (c :: d :: t) = 2 ↔ 192 ≤ c.toNat ∧ c.toNat < 224 ∧ cont d ∧ 128 ≤ c.toNat % 32 * 64 + d.toNat % 64 := by
  have hc := c.toNat_lt
  rcases uhead_cases c.toNat with ⟨h, e⟩ | ⟨h, h', e⟩ | ⟨h, h', e⟩ | ⟨h, h', e⟩ | ⟨h, e⟩
  case inr.inl =>
    simp only [unext, e, ucont, cont]
    rw [if_neg (by simp)]
    by_cases hd : 128 ≤ d.toNat ∧ d.toNat < 192
    · simp only [hd, and_self, if_true, ubad, uleast]
      by_cases hr : 128 ≤ c.toNat % 32 * 64 + d.toNat % 64
      · rw [if_neg (by simp; omega)]
        simp [h, h', hr]
      · rw [if_pos (by simp; omega)]
        simp [hr]
    · simp [hd]
  all_goals
    have hne : ¬ (192 ≤ c.toNat ∧ c.toNat < 224 ∧ cont d ∧ 128 ≤ c.toNat % 32 * 64 + d.toNat % 64) := by omega
    simp only [hne, iff_false]
    simp only [unext, e]
    repeat' split
    all_goals omega
theorem unext3 (c d f : UInt8) (t : List UInt8) : unext (c :: d :: f :: t) = 3 ↔ 224 ≤ c.toNat ∧ c.toNat < 240 ∧ cont d ∧ cont f ∧
    2048 ≤ (c.toNat % 16 * 64 + d.toNat % 64) * 64 + f.toNat % 64 ∧ ¬ (55296 ≤ (c.toNat % 16 * 64 + d.toNat % 64) * 64 + f.toNat % 64 ∧ (c.toNat % 16 * 64 + d.toNat % 64) * 64 + f.toNat % 64 ≤ 57343) := by
  have hc := c.toNat_lt
  rcases uhead_cases c.toNat with ⟨h, e⟩ | ⟨h, h', e⟩ | ⟨h, h', e⟩ | ⟨h, h', e⟩ | ⟨h, e⟩
  case inr.inr.inl =>
    simp only [unext, e, ucont, cont]
    rw [if_neg (by simp)]
    by_cases hd : 128 ≤ d.toNat ∧ d.toNat < 192
    · by_cases hf : 128 ≤ f.toNat ∧ f.toNat < 192
      · simp only [hd, hf, and_self, if_true, ubad, uleast, true_and, h, h']
        by_cases hr : 2048 ≤ (c.toNat % 16 * 64 + d.toNat % 64) * 64 + f.toNat % 64 ∧ ¬ (55296 ≤ (c.toNat % 16 * 64 + d.toNat % 64) * 64 + f.toNat % 64 ∧ (c.toNat % 16 * 64 + d.toNat % 64) * 64 + f.toNat % 64 ≤ 57343)
        · rw [if_neg (by simp; omega)]
          simp only [hr, not_false_eq_true, and_self]
        · rw [if_pos (by simp; omega)]
          simp only [hr, iff_false]; omega
      · simp [hd, hf]
    · simp [hd]
  all_goals
    simp only [unext, e]
    repeat' split
    all_goals omega
theorem ubad4 (r : Nat) : ubad 4 r = decide (r < 65536 ∨ 1114111 < r) := by
  have e : uleast 4 = 65536 := rfl
  unfold ubad
  rw [e]
  congr 1
  apply propext
  omega
theorem unext4 (c d f g : UInt8) (t : List UInt8) : unext (c :: d :: f :: g :: t) = 4 ↔ 240 ≤ c.toNat ∧ c.toNat < 248 ∧ cont d ∧ cont f ∧ cont g ∧
    65536 ≤ ((c.toNat % 8 * 64 + d.toNat % 64) * 64 + f.toNat % 64) * 64 + g.toNat % 64 ∧ ((c.toNat % 8 * 64 + d.toNat % 64) * 64 + f.toNat % 64) * 64 + g.toNat % 64 ≤ 1114111 := by
  have hc := c.toNat_lt
  rcases uhead_cases c.toNat with ⟨h, e⟩ | ⟨h, h', e⟩ | ⟨h, h', e⟩ | ⟨h, h', e⟩ | ⟨h, e⟩
  case inr.inr.inr.inl =>
    simp only [unext, e, ucont, cont]
    rw [if_neg (by simp)]
    by_cases hd : 128 ≤ d.toNat ∧ d.toNat < 192
    · by_cases hf : 128 ≤ f.toNat ∧ f.toNat < 192
      · by_cases hg : 128 ≤ g.toNat ∧ g.toNat < 192
        · simp only [hd, hf, hg, and_self, if_true, ubad4, true_and, h, h']
          by_cases hr : 65536 ≤ ((c.toNat % 8 * 64 + d.toNat % 64) * 64 + f.toNat % 64) * 64 + g.toNat % 64 ∧ ((c.toNat % 8 * 64 + d.toNat % 64) * 64 + f.toNat % 64) * 64 + g.toNat % 64 ≤ 1114111
          · rw [if_neg (by simp; omega)]
            simp only [hr, and_self]
          · rw [if_pos (by simp; omega)]
            simp only [hr, iff_false]; omega
        · simp [hd, hf, hg]
      · simp [hd, hf]
    · simp [hd]
  all_goals
    simp only [unext, e]
    repeat' split
    all_goals omega
theorem uput_len (r : Nat) : (uput r).length = if 1114111 < r ∨ 55296 ≤ r ∧ r ≤ 57343 then 0 else if r < 128 then 1 else if r < 2048 then 2 else if r < 65536 then 3 else 4 := by
  unfold uput
  repeat' split
  all_goals simp
theorem uput_take (l : List UInt8) (n : Nat) (h1 : 1 ≤ n) (h4 : n ≤ 4) (hl : n ≤ l.length) : uput (uval n l) = l.take n ↔ unext l = n := by
  rcases (show n = 1 ∨ n = 2 ∨ n = 3 ∨ n = 4 by omega) with rfl | rfl | rfl | rfl
  · match l, hl with
    | c :: t, _ =>
      have hc := c.toNat_lt
      rw [unext1]
      have e : uval 1 (c :: t) = c.toNat := by simp [uval, ufold, umod]
      rw [e]
      by_cases h : c.toNat < 128
      · simp only [h, iff_true, uput]
        rw [if_neg (by omega), if_pos trivial]
        have : b8 c.toNat = c := (b8_eq _ _ (by omega)).2 rfl
        simp [this]
      · simp only [h, iff_false]
        intro e
        have := congrArg List.length e
        rw [uput_len, if_neg (by omega), if_neg (by omega), if_pos (by omega)] at this
        simp at this
  · match l, hl with
    | c :: d :: t, _ =>
      have hc := c.toNat_lt
      have hd := d.toNat_lt
      rw [unext2]
      have e : uval 2 (c :: d :: t) = c.toNat % 32 * 64 + d.toNat % 64 := by simp [uval, ufold, umod]; omega
      rw [e]
      generalize hr : c.toNat % 32 * 64 + d.toNat % 64 = r
      unfold cont
      by_cases h : 128 ≤ r
      · unfold uput
        rw [if_neg (by omega), if_neg (by omega), if_pos (by omega)]
        simp only [List.take_succ_cons, List.take_zero, List.cons.injEq, and_true]
        rw [b8_eq _ _ (by omega), b8_eq _ _ (by omega)]
        omega
      · have hne : ¬ (192 ≤ c.toNat ∧ c.toNat < 224 ∧ (128 ≤ d.toNat ∧ d.toNat < 192) ∧ 128 ≤ r) := by omega
        simp only [hne, iff_false]
        intro e
        have := congrArg List.length e
        rw [uput_len, if_neg (by omega), if_pos (by omega)] at this
        simp at this
  · match l, hl with
    | c :: d :: f :: t, _ =>
      have hc := c.toNat_lt
      have hd := d.toNat_lt
      have hf := f.toNat_lt
      rw [unext3]
      have e : uval 3 (c :: d :: f :: t) = (c.toNat % 16 * 64 + d.toNat % 64) * 64 + f.toNat % 64 := by simp [uval, ufold, umod]; omega
      rw [e]
      generalize hr : (c.toNat % 16 * 64 + d.toNat % 64) * 64 + f.toNat % 64 = r
      unfold cont
      by_cases h : 2048 ≤ r ∧ ¬ (55296 ≤ r ∧ r ≤ 57343)
      · unfold uput
        rw [if_neg (by omega), if_neg (by omega), if_neg (by omega), if_pos (by omega)]
        simp only [List.take_succ_cons, List.take_zero, List.cons.injEq, and_true]
        rw [b8_eq _ _ (by omega), b8_eq _ _ (by omega), b8_eq _ _ (by omega)]
        omega
      · constructor
        · intro e
          have := congrArg List.length e
          rw [uput_len] at this
          simp only [List.length_take, List.length_cons] at this
          repeat' split at this
          all_goals omega
        · omega
  · match l, hl with
    | c :: d :: f :: g :: t, _ =>
      have hc := c.toNat_lt
      have hd := d.toNat_lt
      have hf := f.toNat_lt
      have hg := g.toNat_lt
      rw [unext4]
      have e : uval 4 (c :: d :: f :: g :: t) = ((c.toNat % 8 * 64 + d.toNat % 64) * 64 + f.toNat % 64) * 64 + g.toNat % 64 := by simp [uval, ufold, umod]; omega
      rw [e]
      generalize hr : ((c.toNat % 8 * 64 + d.toNat % 64) * 64 + f.toNat % 64) * 64 + g.toNat % 64 = r
      unfold cont
      by_cases h : 65536 ≤ r ∧ r ≤ 1114111
      · unfold uput
        rw [if_neg (by omega), if_neg (by omega), if_neg (by omega), if_neg (by omega)]
        simp only [List.take_succ_cons, List.take_zero, List.cons.injEq, and_true]
        rw [b8_eq _ _ (by omega), b8_eq _ _ (by omega), b8_eq _ _ (by omega), b8_eq _ _ (by omega)]
        omega
      · constructor
        · intro e
          have := congrArg List.length e
          rw [uput_len] at this
          simp only [List.length_take, List.length_cons] at this
          repeat' split at this
          all_goals omega
        · omega
end Go.Proofs.YtaefpjecalnbcaaGreat
namespace Go.Proofs.YtaefpjecalnbcaaGreat
open Go.RowKit
/-! A right schema -/
theorem fieldsFault_none {n : Nat} : ∀ (fs bf : List Fld) (k : Nat), fieldsFault n bf fs k = none → ∀ f ∈ fs, ∃ nm nu, fieldFault n nm nu f = 0
  | [], _, _, _ => by simp
  | g :: r, bf, k, h => by
    rw [fieldsFault] at h
    by_cases h0 : fieldFault n (nameMet bf g.name) (numMet bf g.number) g = 0
    · rw [if_pos h0] at h
      intro f hf
      rcases List.mem_cons.1 hf with rfl | hf
      · exact ⟨_, _, h0⟩
      · exact fieldsFault_none r _ _ h f hf
    · rw [if_neg h0] at h; cases h
theorem scheckGo_ok {n : Nat} : ∀ (s bm : List Mes) (i : Nat), (scheckGo n bm s i).2.2 = 0 → ∀ m ∈ s, fieldsFault n [] m.fields 0 = none ∧ m.fields.length ≤ 200 ∧ nameOk m.name = true
  | [], _, _, _ => by simp
  | g :: r, bm, i, h => by
    rw [scheckGo] at h
    by_cases h1 : nameOk g.name = false
    · rw [if_pos h1] at h; simp at h
    rw [if_neg h1] at h
    by_cases h2 : mesMet bm g.name = true
    · rw [if_pos h2] at h; simp at h
    rw [if_neg h2] at h
    by_cases h3 : 200 < g.fields.length
    · rw [if_pos h3] at h; simp at h
    rw [if_neg h3] at h
    cases h4 : fieldsFault n [] g.fields 0 with
    | some p =>
      rw [h4] at h
      obtain ⟨k, x⟩ := p
      have : x ≠ 0 := by
        rintro rfl
        exact fieldsFault_nz _ _ _ h4
      simp at h
      exact absurd h this
    | none =>
      rw [h4] at h
      intro m hm
      rcases List.mem_cons.1 hm with rfl | hm
      · exact ⟨h4, by omega, by simpa using h1⟩
      · exact scheckGo_ok r _ _ h m hm
where
  fieldsFault_nz {n : Nat} : ∀ (fs bf : List Fld) (k : Nat) {j : Nat}, fieldsFault n bf fs k ≠ some (j, 0)
  | [], _, _, _ => by simp [fieldsFault]
  | g :: r, bf, k, j => by
    rw [fieldsFault]
    by_cases h0 : fieldFault n (nameMet bf g.name) (numMet bf g.number) g = 0
    · rw [if_pos h0]; exact fieldsFault_nz r _ _
    · rw [if_neg h0]
      intro h
      injection h with h
      exact h0 (congrArg Prod.snd h)
theorem fieldAt_cases (fs : List Fld) (n : Int) : fieldAt fs n = -1 ∨ ∃ k : Nat, k < fs.length ∧ fieldAt fs n = k ∧ (fs.getD k .zero).number = n := by
  have gen : ∀ (l : List Fld) (i : Nat), firstAt (fun f => decide (f.number = n)) l i = -1 ∨ ∃ k : Nat, k < l.length ∧ firstAt (fun f => decide (f.number = n)) l i = ((i + k : Nat) : Int) ∧ (l.getD k .zero).number = n := by
    intro l
    induction l with
    | nil => intro i; exact .inl rfl
    | cons f r ih =>
      intro i
      rw [firstAt]
      by_cases h : f.number = n
      · exact .inr ⟨0, by simp, by simp [h], by simpa using h⟩
      · rw [if_neg (by simpa using h)]
        rcases ih (i + 1) with h1 | ⟨k, h1, h2, h3⟩
        · exact .inl h1
        · exact .inr ⟨k + 1, by simpa using h1, by rw [h2]; congr 1; omega, by simpa using h3⟩
  rcases gen fs 0 with h | ⟨k, h1, h2, h3⟩
  · exact .inl h
  · exact .inr ⟨k, h1, by unfold fieldAt; rw [h2, Nat.zero_add], h3⟩
end Go.Proofs.YtaefpjecalnbcaaGreat
