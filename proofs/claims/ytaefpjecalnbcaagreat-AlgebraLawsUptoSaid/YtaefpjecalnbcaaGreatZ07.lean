/- Blocks known whole: their cells, what leaves them as they are; two results in boxes of their own; rows kept. No condition. What view.Look and the document's Look return of any bytes and any message: vlook. No condition beyond that the arguments read as data. What the document's Look returns of any bytes and any message: vlook, the same as view.Look. No condition beyond that the arguments read as data. What run.size returns: runSize. No condition beyond that the bytes read as data. The values of a run: how many, or the code of the first that is not there. Plain lists, no program in sight. Plain law: which bytes begin with a code point, and how many they are, told in two ways (by the head's bits; by each length's code point's own bytes). No program in sight. No condition. The first place where a message's bytes are not right: plain functions; and what a right schema says of its fields. -/
import Derived.Test.YtaefpjecalnbcaaGreatZ01
import Derived.Test.YtaefpjecalnbcaaGreatZ02
import Derived.Test.YtaefpjecalnbcaaGreatZ06
import Derived.Maps.AppendAt
import Derived.RangeFuncFrom
import Derived.Deep.RegionWith
import Derived.Deep.RegionHeld3
import Init
namespace Go.Proofs.YtaefpjecalnbcaaGreat
open Go.RowKit
/-- a block of one's own, known whole -/
def Blk (w : World) (b : Nat) (cs : List Value) (T : TypeId) : Prop := w.heap[b]? = some (.cells cs.toArray T (0, 0))
theorem Blk.cell {w : World} {b : Nat} {cs : List Value} {T : TypeId} (h : Blk w b cs T) (j : Nat) (u : Value) (hu : cs[j]? = some u) : w.cell? ⟨b, j, none⟩ = some u := by
  rw [cell_of_row _ _ _ _ T (0, 0) h]; simpa using hu
theorem Blk.free {w : World} {b : Nat} {cs : List Value} {T : TypeId} (h : Blk w b cs T) (j : Nat) : w.frozen? ⟨b, j, none⟩ = false := by
  unfold Blk at h
  simp [World.frozen?, h]
theorem Blk.lt {w : World} {b : Nat} {cs : List Value} {T : TypeId} (h : Blk w b cs T) : b < w.heap.size := by
  unfold Blk at h
  rw [Array.getElem?_eq_some_iff] at h
  exact h.1
theorem Blk.below {w w' : World} {b : Nat} {cs : List Value} {T : TypeId} (h : Blk w b cs T) (hb : Below w.heap.size w w') : Blk w' b cs T := (hb.block b h.lt).trans h
theorem Blk.alloc {w : World} {b : Nat} {cs : List Value} {T : TypeId} (h : Blk w b cs T) (o : Obj) : Blk (w.alloc o) b cs T := (Below.heap_alloc w o b h.lt).trans h
theorem Blk.new (w : World) (cs : List Value) (T : TypeId) : Blk (w.alloc (.cells cs.toArray T)) w.heap.size cs T := heap_alloc_new w _
theorem Blk.set_other {w : World} {b : Nat} {cs : List Value} {T : TypeId} (h : Blk w b cs T) (a : Addr) (v : Value) (hne : b ≠ a.block) : Blk (w.setCell a v) b cs T := (Below.heap_setCell w a v b hne).trans h
theorem Blk.set {w : World} {b : Nat} {cs : List Value} {T : TypeId} (h : Blk w b cs T) (j : Nat) (v : Value) : Blk (w.setCell ⟨b, j, none⟩ v) b (cs.set j v) T := by
  unfold Blk at *
  obtain ⟨hlt, hk⟩ := Array.getElem?_eq_some_iff.1 h
  show (w.heap.modify b _)[b]? = _
  rw [Array.getElem?_eq_getElem (by rw [Array.size_modify]; exact hlt), Array.getElem_modify_self, hk]
  simp
theorem Blk.new' (w : World) (cs : List Value) (T : TypeId) (n : Nat) (h : n = w.heap.size) : Blk (w.alloc (.cells cs.toArray T)) n cs T := by subst h; exact Blk.new w cs T
theorem row_keep {w w' : World} {base size n : Nat} {e : TypeId} {v : Value} {xs : List Value} (h : w.ownsRow base e size v n xs)
    (hk : ∀ b cur, base ≤ b → w.heap[b]? = some (.cells cur e (0, 0)) → w'.heap[b]? = w.heap[b]?) : w'.ownsRow base e size v n xs := by
  refine ⟨h.1, ?_⟩
  rcases h.2 with h2 | ⟨g, cap, cur, hv, hb, hg, hnc, hcm, hcs, ht⟩
  · exact .inl h2
  · exact .inr ⟨g, cap, cur, hv, hb, (hk g cur hb hg).trans hg, hnc, hcm, hcs, ht⟩
theorem Blk.grown {w w' : World} {b r : Nat} {cs : List Value} {T : TypeId} (h : Blk w b cs T) (hg : w.grownBy w' (some r)) (hne : b ≠ r) : Blk w' b cs T :=
  (hg.block b h.lt (fun e => hne (Option.some.inj e))).trans h
theorem Blk.put {W : World} {b r : Nat} {cs : List Value} {T : TypeId} (h : Blk W b cs T) (o : Obj) (hne : b ≠ r) : Blk (W.putObj r o) b cs T :=
  (World.putObj_heap_other hne).trans h
theorem seg_blk {w : World} {g : Nat} {cs : List Value} {T : TypeId} (h : Blk w g cs T) (size n : Nat) (hl : cs.length = n * size) (hn : n ≤ 140737488355328) : Seg w (.slice (some ⟨g, 0, none⟩) n n) size n cs :=
  ⟨hl, hn, _, _, rfl, Nat.le_refl _, by omega, by simp, fun j u hu => ⟨g, 0, rfl, by rw [Nat.zero_add]; exact h.cell j u hu⟩⟩
end Go.Proofs.YtaefpjecalnbcaaGreat
namespace Go.Proofs.YtaefpjecalnbcaaGreat
open Go.RowKit
/-- record, field, whether it is a run, code -/
def vlook (fs : List Fld) (l : List UInt8) (i : Nat) : Rec × Int × Bool × Nat :=
  if (rnext l i).2 ≠ 0 then (.none, 0, false, (rnext l i).2) else
  if fieldAt fs (rnext l i).1.number < 0 then ((rnext l i).1, -1, false, 0) else
  let f := fs.getD (fieldAt fs (rnext l i).1.number).toNat .zero
  if (f.rep && knumber f.kind && decide ((rnext l i).1.wire = 2)) = true then ((rnext l i).1, fieldAt fs (rnext l i).1.number, true, 0) else
  if kright f.kind = false ∨ kwire f.kind ≠ (rnext l i).1.wire then (.none, 0, false, 6) else ((rnext l i).1, fieldAt fs (rnext l i).1.number, false, 0)
def recL (r : Rec) : List Value := [.int .i64 r.number, .int .i64 r.wire, .int .i64 r.start, .int .i64 r.at', .int .i64 r.to]
def viewL (r : Rec) (k : Int) (run : Bool) : List Value := [.int .i64 r.number, .int .i64 r.wire, .int .i64 r.start, .int .i64 r.at', .int .i64 r.to, .int .i64 k, .bool run]
end Go.Proofs.YtaefpjecalnbcaaGreat
namespace Go.Proofs.YtaefpjecalnbcaaGreat
open Go.RowKit
end Go.Proofs.YtaefpjecalnbcaaGreat
namespace Go.Proofs.YtaefpjecalnbcaaGreat
open Go.RowKit
/-- length of the first value of a run and the code -/
def runSize (wire : Nat) (l : List UInt8) : Nat × Nat :=
  if wire = 0 then ((vread l).2.1, (vread l).2.2) else
  if l.length < (if wire = 1 then 8 else 4) then (0, 3) else (if wire = 1 then 8 else 4, 0)
end Go.Proofs.YtaefpjecalnbcaaGreat
namespace Go.Proofs.YtaefpjecalnbcaaGreat
open Go.RowKit
def runGo (wire : Nat) : Nat → List UInt8 → Nat × Nat
  | 0, _ => (0, 0)
  | k + 1, l => if l = [] then (0, 0) else
      if (runSize wire l).2 ≠ 0 then (0, (runSize wire l).2) else
      if (runGo wire k (l.drop (runSize wire l).1)).2 ≠ 0 then (0, (runGo wire k (l.drop (runSize wire l).1)).2) else
      ((runGo wire k (l.drop (runSize wire l).1)).1 + 1, 0)
/-- how many, the code -/
def runCount (wire : Nat) (l : List UInt8) : Nat × Nat := runGo wire l.length l
end Go.Proofs.YtaefpjecalnbcaaGreat
namespace Go.Proofs.YtaefpjecalnbcaaGreat
def uhead (c : Nat) : Nat × Nat :=
  if c < 128 then (1, c) else if 192 ≤ c ∧ c < 224 then (2, c % 32) else if 224 ≤ c ∧ c < 240 then (3, c % 16) else if 240 ≤ c ∧ c < 248 then (4, c % 8) else (0, 0)
def uleast (n : Nat) : Nat := if n ≤ 1 then 0 else if n = 2 then 128 else if n = 3 then 2048 else 65536
def ucont : Nat → Nat → List UInt8 → Option Nat
  | 0, r, _ => some r
  | _ + 1, _, [] => none
  | k + 1, r, c :: t => if 128 ≤ c.toNat ∧ c.toNat < 192 then ucont k (r * 64 + c.toNat % 64) t else none
def ubad (n r : Nat) : Bool := decide (r < uleast n ∨ 1114111 < r ∨ 55296 ≤ r ∧ r ≤ 57343)
/-- how many bytes the first code point has; 0: there is none -/
def unext (l : List UInt8) : Nat :=
  match l with
  | [] => 0
  | c :: t =>
    if (uhead c.toNat).1 = 0 ∨ l.length < (uhead c.toNat).1 then 0 else
    match ucont ((uhead c.toNat).1 - 1) (uhead c.toNat).2 t with
    | none => 0
    | some r => if ubad (uhead c.toNat).1 r then 0 else (uhead c.toNat).1
theorem uhead_le (c : Nat) : (uhead c).1 ≤ 4 := by
  unfold uhead
  repeat' split
  all_goals simp
theorem unext_le (l : List UInt8) : unext l ≤ l.length ∧ unext l ≤ 4 := by
  unfold unext
  split
  · exact ⟨Nat.le_refl _, by omega⟩
  · rename_i c t
    have := uhead_le c.toNat
    split
    · exact ⟨Nat.zero_le _, by omega⟩
    · split
      · exact ⟨Nat.zero_le _, by omega⟩
      · split
        · exact ⟨Nat.zero_le _, by omega⟩
        · exact ⟨by omega, this⟩
/-- how many bytes stand ahead of the first that is not right -/
def ugo : Nat → List UInt8 → Nat
  | 0, _ => 0
  | f + 1, l => if unext l = 0 then 0 else unext l + ugo f (l.drop (unext l))
def ufirst (l : List UInt8) : Nat := ugo l.length l
theorem ugo_more : ∀ (f g : Nat) (l : List UInt8), l.length ≤ f → f ≤ g → ugo g l = ugo f l
  | 0, g, l, h, _ => by
    obtain rfl : l = [] := List.eq_nil_of_length_eq_zero (by omega)
    cases g <;> simp [ugo, unext]
  | f + 1, 0, l, _, h => by omega
  | f + 1, g + 1, l, h, hg => by
    simp only [ugo]
    split
    · rfl
    · rw [ugo_more f g _ (by rw [List.length_drop]; omega) (by omega)]
theorem ufirst_step (l : List UInt8) : ufirst l = if unext l = 0 then 0 else unext l + ufirst (l.drop (unext l)) := by
  unfold ufirst
  cases h : l.length with
  | zero =>
    obtain rfl : l = [] := List.eq_nil_of_length_eq_zero h
    simp [ugo, unext]
  | succ f =>
    simp only [ugo]
    split
    · rfl
    · rename_i hne
      have := unext_le l
      rw [ugo_more (l.drop (unext l)).length f _ (Nat.le_refl _) (by rw [List.length_drop]; omega)]
theorem uhead_cases (c : Nat) : (c < 128 ∧ uhead c = (1, c)) ∨ (192 ≤ c ∧ c < 224 ∧ uhead c = (2, c % 32)) ∨ (224 ≤ c ∧ c < 240 ∧ uhead c = (3, c % 16)) ∨ (240 ≤ c ∧ c < 248 ∧ uhead c = (4, c % 8)) ∨
    ((128 ≤ c ∧ c < 192 ∨ 248 ≤ c) ∧ uhead c = (0, 0)) := by
  unfold uhead
  by_cases h1 : c < 128
  · exact .inl ⟨h1, if_pos h1⟩
  · rw [if_neg h1]
    by_cases h2 : 192 ≤ c ∧ c < 224
    · exact .inr (.inl ⟨h2.1, h2.2, if_pos h2⟩)
    · rw [if_neg h2]
      by_cases h3 : 224 ≤ c ∧ c < 240
      · exact .inr (.inr (.inl ⟨h3.1, h3.2, if_pos h3⟩))
      · rw [if_neg h3]
        by_cases h4 : 240 ≤ c ∧ c < 248
        · exact .inr (.inr (.inr (.inl ⟨h4.1, h4.2, if_pos h4⟩)))
        · exact .inr (.inr (.inr (.inr ⟨by omega, if_neg h4⟩)))
end Go.Proofs.YtaefpjecalnbcaaGreat
namespace Go.Proofs.YtaefpjecalnbcaaGreat
open Go.RowKit
/-! A right schema -/
theorem fieldAt_cases (fs : List Fld) (n : Int) : fieldAt fs n = -1 ∨ ∃ k : Nat, k < fs.length ∧ fieldAt fs n = k ∧ (fs.getD k .zero).number = n := by
  have gen : ∀ (l : List Fld) (i : Nat), firstAt (fun f => decide (f.number = n)) l i = -1 ∨ ∃ k : Nat, k < l.length ∧ firstAt (fun f => decide (f.number = n)) l i = ((i + k : Nat) : Int) ∧ (l.getD k .zero).number = n := by
    intro l
    induction l with
    | nil => intro i; exact .inl rfl
    | cons f r ih =>
      intro i
      rw [firstAt]
      by_cases h : f.number = n
      · exact .inr ⟨0, by simp, by simp [h], by simpa using h⟩
      · rw [if_neg (by simpa using h)]
        rcases ih (i + 1) with h1 | ⟨k, h1, h2, h3⟩
        · exact .inl h1
        · exact .inr ⟨k + 1, by simpa using h1, by rw [h2]; congr 1; omega, by simpa using h3⟩
  rcases gen fs 0 with h | ⟨k, h1, h2, h3⟩
  · exact .inl h
  · exact .inr ⟨k, h1, by unfold fieldAt; rw [h2, Nat.zero_add], h3⟩
/-- Every outcome of vlook: none, an unknown field, a field. -/
theorem vlook_cases (fs : List Fld) (l : List UInt8) (i : Nat) :
    (∃ c, c ≠ 0 ∧ vlook fs l i = (.none, 0, false, c) ∧ c < 256) ∨
    (∃ r : Rec, r.start = i ∧ i < r.at' ∧ r.at' ≤ r.to ∧ r.to ≤ l.length ∧ rnext l i = (r, 0) ∧
      (vlook fs l i = (r, -1, false, 0) ∨
      ∃ (k : Nat) (run : Bool), k < fs.length ∧ vlook fs l i = (r, (k : Int), run, 0) ∧ (fs.getD k .zero).number = r.number ∧
        (run = true → (fs.getD k .zero).rep = true ∧ knumber (fs.getD k .zero).kind = true ∧ r.wire = 2) ∧ (run = false → kright (fs.getD k .zero).kind = true ∧ kwire (fs.getD k .zero).kind = r.wire))) := by
  have hn : ∀ c, rnext l i = (.none, c) → c ≠ 0 → c < 256 → vlook fs l i = (.none, 0, false, c) := fun c h1 h2 _ => by
    unfold vlook
    rw [h1]
    simp [h2]
  rcases rnext_cases l i with ⟨hi, er⟩ | ⟨hi, c, et, hc, er⟩ | ⟨hi, k, x, n, et, h1, h2, h3, h4, h5, h6, hcs⟩
  · exact .inl ⟨2, by decide, hn _ er (by decide) (by decide), by decide⟩
  · exact .inl ⟨c, by omega, hn _ er (by omega) (by omega), by omega⟩
  · rcases hcs with ⟨a, m, c, es, hc, -, -, er⟩ | ⟨a, m, es, -, -, -, -, er⟩ | ⟨a, m, es, g1, g2, g3, er⟩
    · exact .inl ⟨c, by omega, hn _ er (by omega) (by omega), by omega⟩
    · exact .inl ⟨3, by decide, hn _ er (by decide) (by decide), by decide⟩
    · have hv : vlook fs l i = if fieldAt fs k < 0 then (⟨k, x, i, i + n + a, i + n + a + m⟩, -1, false, 0) else
          if ((fs.getD (fieldAt fs k).toNat .zero).rep && knumber (fs.getD (fieldAt fs k).toNat .zero).kind && decide (x = 2)) = true then (⟨k, x, i, i + n + a, i + n + a + m⟩, fieldAt fs k, true, 0) else
          if kright (fs.getD (fieldAt fs k).toNat .zero).kind = false ∨ kwire (fs.getD (fieldAt fs k).toNat .zero).kind ≠ x then (.none, 0, false, 6) else (⟨k, x, i, i + n + a, i + n + a + m⟩, fieldAt fs k, false, 0) := by
        unfold vlook
        rw [er]
        rfl
      rcases fieldAt_cases fs k with hf | ⟨j, hj, hf, hjn⟩
      · rw [hf, if_pos (by decide)] at hv
        exact .inr ⟨_, rfl, by simp; omega, by simp, by simp; omega, er, .inl hv⟩
      · rw [hf, if_neg (by omega)] at hv
        simp only [Int.toNat_natCast] at hv
        by_cases hrun : ((fs.getD j .zero).rep && knumber (fs.getD j .zero).kind && decide (x = 2)) = true
        · rw [if_pos hrun] at hv
          simp only [Bool.and_eq_true, decide_eq_true_eq] at hrun
          exact .inr ⟨_, rfl, by simp; omega, by simp, by simp; omega, er, .inr ⟨j, true, hj, hv, hjn, fun _ => ⟨hrun.1.1, hrun.1.2, hrun.2⟩, fun h => (by cases h)⟩⟩
        · rw [if_neg hrun] at hv
          by_cases hbad : kright (fs.getD j .zero).kind = false ∨ kwire (fs.getD j .zero).kind ≠ x
          · rw [if_pos hbad] at hv
            exact .inl ⟨6, by decide, hv, by decide⟩
          · rw [if_neg hbad] at hv
            have g4 : kright (fs.getD j .zero).kind = true := by
              cases h : kright (fs.getD j .zero).kind with
              | true => rfl
              | false => exact absurd (.inl h) hbad
            have g5 : kwire (fs.getD j .zero).kind = x := Decidable.byContradiction fun h => hbad (.inr h)
            exact .inr ⟨_, rfl, by simp; omega, by simp, by simp; omega, er, .inr ⟨j, false, hj, hv, hjn, fun h => (by cases h), fun _ => ⟨g4, g5⟩⟩⟩
/-! The first that is not right -/
def part (l : List UInt8) (i j : Nat) : List UInt8 := (l.drop i).take (j - i)
/-- place, code (0: right) of a record that was looked at -/
def vval (rec : Nat → List UInt8 → Nat × Nat) (deep : Bool) (fs : List Fld) (l : List UInt8) (v : Rec × Int × Bool × Nat) : Nat × Nat :=
  if v.2.1 < 0 then (0, 0) else
  let f := fs.getD v.2.1.toNat .zero
  if v.2.2.1 = true then (v.1.start, (runCount (kwire f.kind) (part l v.1.at' v.1.to)).2) else
  if f.kind = 15 then (if ufirst (part l v.1.at' v.1.to) = (part l v.1.at' v.1.to).length then (0, 0) else (v.1.start, 7)) else
  if f.kind = 17 then (if deep = true then (v.1.start, 8) else (v.1.at' + (rec f.of.toNat (part l v.1.at' v.1.to)).1, (rec f.of.toNat (part l v.1.at' v.1.to)).2)) else
  (0, 0)
def vloop (rec : Nat → List UInt8 → Nat × Nat) (deep : Bool) (fs : List Fld) (l : List UInt8) : Nat → Nat → Nat × Nat
  | 0, _ => (0, 0)
  | k + 1, i => if l.length ≤ i then (0, 0) else
    if (vlook fs l i).2.2.2 ≠ 0 then (i, (vlook fs l i).2.2.2) else
    if (vval rec deep fs l (vlook fs l i)).2 ≠ 0 then vval rec deep fs l (vlook fs l i) else vloop rec deep fs l k (vlook fs l i).1.to
/-- .. in a message's bytes, at most d deep -/
def vmsg (s : List Mes) : Nat → Nat → List UInt8 → Nat × Nat
  | 0, m, l => vloop (fun _ _ => (0, 0)) true (s.getD m .zero).fields l l.length 0
  | d + 1, m, l => vloop (vmsg s d) false (s.getD m .zero).fields l l.length 0
def vrec (s : List Mes) : Nat → Nat → List UInt8 → Nat × Nat
  | 0 => fun _ _ => (0, 0)
  | d + 1 => vmsg s d
end Go.Proofs.YtaefpjecalnbcaaGreat
