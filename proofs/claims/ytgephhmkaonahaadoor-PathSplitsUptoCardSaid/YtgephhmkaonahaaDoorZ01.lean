/- The vocabulary of this seat's walks: what it means that a slice value reads as a list of cells, of bytes; how such readings are carried to later worlds; small laws for the walk. No condition. Meanings: values of fields and messages, as data (M d: messages in which others lie at most d deep), and how they lie in memory. No condition. Plain law: a text's names between its points (sdot), and the text of names (sjoin). No program in sight. No condition. Maps of the call's own, told by the list of their entries in the order in which these came: what a look-up, an insertion of a new key, and m[k]++ of a new key do. What package kind's functions, and the document's, return of any number: kwire, kright, knumber. No condition. Keys that are structs of a number, a text and a number (schema's 'met'), and keys that are texts: how a map finds them; m[k]++ of a new key. No condition. -/
import Derived.Test.YtgephhmkaonahaaDoorProg
import Derived.WalkKit
import Derived.Deep.QuietTactic
import Derived.BigQuiet
import Derived.WalkSpells
import Derived.WalkLawsBesides
import Derived.Lib.IndexLaws
import Derived.Lib.Join
import Derived.MapKept
import Derived.Laws.StructEq
namespace Go.Proofs.YtgephhmkaonahaaDoor
open Go.RowKit

theorem hid {p : Prop} (h : p) : Hid p := h

/-- The slice value v of n elements (size cells each) reads as the cells xs in w. -/
def Seg (w : World) (v : Value) (size n : Nat) (xs : List Value) : Prop :=
  xs.length = n * size ∧ n ≤ 140737488355328 ∧ ∃ a cap, v = .slice a n cap ∧ n ≤ cap ∧ cap ≤ 9223372036854775807 ∧ (a = none → cap = 0) ∧
    ∀ j u, xs[j]? = some u → ∃ b o, a = some ⟨b, o, none⟩ ∧ w.cell? ⟨b, o + j, none⟩ = some u

/-- A []byte. -/
def byteV (c : UInt8) : Value := .int .u8 (c.toNat : Int)
def Bytes (w : World) (v : Value) (l : List UInt8) : Prop := Seg w v 1 l.length (l.map byteV)

theorem Seg.keep {w w' : World} {v : Value} {size n : Nat} {xs : List Value} (h : Seg w v size n xs) (hk : ∀ p u, w.cell? p = some u → w'.cell? p = some u) : Seg w' v size n xs := by
  obtain ⟨h1, h2, a, cap, hv, h3, h4, h5, h6⟩ := h
  exact ⟨h1, h2, a, cap, hv, h3, h4, h5, fun j u hu => let ⟨b, o, ha, hc⟩ := h6 j u hu; ⟨b, o, ha, hk _ _ hc⟩⟩

theorem below_keeps {w w' : World} (h : Below w.heap.size w w') : ∀ p u, w.cell? p = some u → w'.cell? p = some u := fun p _ hu =>
  (Below.cell h (World.block_lt_of_cell? w p hu)).trans hu

theorem Seg.below {w w' : World} {v : Value} {size n : Nat} {xs : List Value} (h : Seg w v size n xs) (hb : Below w.heap.size w w') : Seg w' v size n xs := h.keep (below_keeps hb)
theorem Bytes.below {w w' : World} {v : Value} {l : List UInt8} (h : Bytes w v l) (hb : Below w.heap.size w w') : Bytes w' v l := Seg.below h hb

theorem addr_add (b o k : Nat) : (⟨b, o, none⟩ : Addr).add k = ⟨b, o + k, none⟩ := by unfold Addr.add; split <;> simp_all

/-- What a walk wants of a []byte: its form, and at each place the address and the cell. -/
theorem Bytes.open {w : World} {v : Value} {l : List UInt8} (h : Bytes w v l) :
    l.length ≤ 140737488355328 ∧ ∃ a cap, v = .slice a l.length cap ∧ l.length ≤ cap ∧ cap ≤ 9223372036854775807 ∧ (a = none → cap = 0) ∧
      ∀ k, k < l.length → ∃ b o, a = some ⟨b, o, none⟩ ∧ w.cell? ⟨b, o + k, none⟩ = some (.int .u8 ((l.getD k 0).toNat : Int)) := by
  obtain ⟨_, h2, a, cap, hv, h3, h4, h5, h6⟩ := h
  refine ⟨h2, a, cap, hv, h3, h4, h5, fun k hk => ?_⟩
  refine h6 k _ ?_
  simp [List.getD, hk, byteV]

/-- The address of the k-th element, as an equation for the walk. -/
theorem index_run {P : Program} {t e : TypeId} {s : Nat} (ht : P.underlying t = some (.slice e)) (hs : ∀ w : World, (sizeOf e).run P w = .ok s w) {a : Option Addr} {b o len cap : Nat} (ha : a = some ⟨b, o, none⟩) (k : Nat) (hk : k < len) (w : World) :
    (Instr.indexAt t (.slice a len cap) (.int .i64 (k : Int))).run P w = .ok (.pointer (some ⟨b, o + k * s, none⟩)) w := by
  subst ha
  have ht' : P.underlying t = some (.slice (P.elem t)) := by rw [ht]; simp [Program.elem, ht]
  have he : P.elem t = e := by rw [ht] at ht'; cases ht'; rfl
  rw [run_indexAt_slice (h := ht'), if_pos (by omega), he, hs]
  simp [Result.andThen, addr_add]

theorem index_run1 {P : Program} {t e : TypeId} (ht : P.underlying t = some (.slice e)) (hs : ∀ w : World, (sizeOf e).run P w = .ok 1 w) {a : Option Addr} {b o len cap : Nat} (ha : a = some ⟨b, o, none⟩) (k : Nat) (hk : k < len) (w : World) :
    (Instr.indexAt t (.slice a len cap) (.int .i64 (k : Int))).run P w = .ok (.pointer (some ⟨b, o + k, none⟩)) w := by
  have := index_run ht hs ha k hk w (cap := cap)
  rwa [Nat.mul_one] at this

theorem size_u8 (w : World) : (sizeOf 5).run Tryd.prog w = .ok 1 w := by kernel_rfl
theorem under_bytes : Tryd.prog.underlying 53 = some (.slice 5) := Tryd.underlying53

theorem ret3 {a b c a' b' c' : Value} (ha : a = a') (hb : b = b') (hc : c = c') : Ending.returned (.tuple #[a, b, c]) = .returned (.tuple #[a', b', c']) := by rw [ha, hb, hc]
theorem ret2 {a b a' b' : Value} (ha : a = a') (hb : b = b') : Ending.returned (.tuple #[a, b]) = .returned (.tuple #[a', b']) := by rw [ha, hb]
theorem ret1 {a a' : Value} (ha : a = a') : Ending.returned a = .returned a' := by rw [ha]
theorem int_eq {k : IntKind} {a b : Int} (h : a = b) : Value.int k a = .int k b := by rw [h]

theorem bcell {W w1 : World} (hb : Below W.heap.size W w1) : (∀ b o, b < W.heap.size → w1.cell? ⟨b, o, none⟩ = W.cell? ⟨b, o, none⟩) ∧ (∀ b o, b < W.heap.size → w1.frozen? ⟨b, o, none⟩ = W.frozen? ⟨b, o, none⟩) :=
  ⟨fun b o h => hb.cell (p := ⟨b, o, none⟩) h, fun b o h => hb.frozen (p := ⟨b, o, none⟩) h⟩

/-! A slice of a slice -/
theorem Seg.sub {w : World} {a : Option Addr} {size n cap : Nat} {xs : List Value} (h : Seg w (.slice a n cap) size n xs) (i j : Nat) (hij : i ≤ j) (hj : j ≤ n) :
    Seg w (sliced a i j cap size) size (j - i) ((xs.drop (i * size)).take ((j - i) * size)) := by
  obtain ⟨h1, h2, a', cap', hv, h3, h4, h5, h6⟩ := h
  cases hv
  refine ⟨?_, by omega, _, _, rfl, by omega, by omega, ?_, ?_⟩
  · rw [List.length_take, List.length_drop, h1]
    have e1 : n * size - i * size = (n - i) * size := (Nat.sub_mul _ _ _).symm
    have : (j - i) * size ≤ (n - i) * size := Nat.mul_le_mul_right _ (by omega)
    omega
  · intro ha
    split at ha
    · omega
    · have : a = none := by cases a <;> simp_all
      have := h5 this
      omega
  · intro k u hu
    rw [List.getElem?_take] at hu
    split at hu
    · rename_i hk
      rw [List.getElem?_drop] at hu
      obtain ⟨b, o, ha, hc⟩ := h6 _ _ hu
      have hne : cap ≠ i := by
        intro e
        have : j - i = 0 := by omega
        simp [this] at hk
      refine ⟨b, o + i * size, ?_, by rw [Nat.add_assoc]; exact hc⟩
      rw [if_neg hne, ha]
      simp [addr_add]
    · cases hu

theorem slice_lh_run {P : Program} {t e : TypeId} {s : Nat} (ht : P.underlying t = some (.slice e)) (hs : ∀ w : World, (sizeOf e).run P w = .ok s w) (a : Option Addr) (len cap i j : Nat) (hij : i ≤ j) (hj : j ≤ cap) (W : World) :
    (Instr.slice t (.slice a len cap) (some (.int .i64 (i : Int))) (some (.int .i64 (j : Int))) none).run P W = .ok (sliced a i j cap s) W := by
  have ht' : P.underlying t = some (.slice (P.elem t)) := by rw [ht]; simp [Program.elem, ht]
  have he : P.elem t = e := by rw [ht] at ht'; cases ht'; rfl
  rw [run_slice_lh (ht := ht') (h0 := by omega) (h1 := by omega) (h2 := by omega), he, hs]
  simp [Result.andThen]
theorem slice_l_run {P : Program} {t e : TypeId} {s : Nat} (ht : P.underlying t = some (.slice e)) (hs : ∀ w : World, (sizeOf e).run P w = .ok s w) (a : Option Addr) (len cap i : Nat) (hi : i ≤ len) (W : World) :
    (Instr.slice t (.slice a len cap) (some (.int .i64 (i : Int))) none none).run P W = .ok (sliced a i len cap s) W := by
  have ht' : P.underlying t = some (.slice (P.elem t)) := by rw [ht]; simp [Program.elem, ht]
  have he : P.elem t = e := by rw [ht] at ht'; cases ht'; rfl
  rw [run_slice_l (ht := ht') (h0 := by omega) (h1 := by omega), he, hs]
  simp [Result.andThen]
theorem slice_h_run {P : Program} {t e : TypeId} {s : Nat} (ht : P.underlying t = some (.slice e)) (hs : ∀ w : World, (sizeOf e).run P w = .ok s w) (a : Option Addr) (len cap j : Nat) (hj : j ≤ cap) (W : World) :
    (Instr.slice t (.slice a len cap) none (some (.int .i64 (j : Int))) none).run P W = .ok (sliced a 0 j cap s) W := by
  have ht' : P.underlying t = some (.slice (P.elem t)) := by rw [ht]; simp [Program.elem, ht]
  have he : P.elem t = e := by rw [ht] at ht'; cases ht'; rfl
  rw [run_slice_h (ht := ht') (h0 := by omega) (h2 := by omega), he, hs]
  simp [Result.andThen]

/-- b[i:j] of bytes: the value, and what it reads as. -/
theorem Bytes.lh {w : World} {a : Option Addr} {n cap : Nat} {l : List UInt8} (h : Bytes w (.slice a n cap) l) (hn : n = l.length) (i j : Nat) (hij : i ≤ j) (hj : j ≤ n) :
    ∃ v', (∀ W, (Instr.slice 53 (.slice a n cap) (some (.int .i64 (i : Int))) (some (.int .i64 (j : Int))) none).run Tryd.prog W = .ok v' W) ∧ Bytes w v' ((l.drop i).take (j - i)) := by
  subst hn
  have hcap : l.length ≤ cap := by obtain ⟨_, _, a', cap', hv, h3, _⟩ := h; cases hv; exact h3
  refine ⟨_, fun W => slice_lh_run under_bytes size_u8 a _ cap i j hij (by omega) W, ?_⟩
  have hs := Seg.sub h i j hij hj
  unfold Bytes
  rw [List.length_take, List.length_drop, Nat.min_eq_left (by omega), List.map_take, List.map_drop]
  simpa using hs
theorem Bytes.l {w : World} {a : Option Addr} {n cap : Nat} {l : List UInt8} (h : Bytes w (.slice a n cap) l) (hn : n = l.length) (i : Nat) (hi : i ≤ n) :
    ∃ v', (∀ W, (Instr.slice 53 (.slice a n cap) (some (.int .i64 (i : Int))) none none).run Tryd.prog W = .ok v' W) ∧ Bytes w v' (l.drop i) := by
  subst hn
  refine ⟨_, fun W => slice_l_run under_bytes size_u8 a _ cap i hi W, ?_⟩
  have hs := Seg.sub h i l.length hi (Nat.le_refl _)
  unfold Bytes
  rw [List.length_drop, List.map_drop]
  rw [Nat.mul_one, Nat.mul_one, List.take_of_length_le (by simp)] at hs
  exact hs
theorem Bytes.h {w : World} {a : Option Addr} {n cap : Nat} {l : List UInt8} (h : Bytes w (.slice a n cap) l) (hn : n = l.length) (j : Nat) (hj : j ≤ n) :
    ∃ v', (∀ W, (Instr.slice 53 (.slice a n cap) none (some (.int .i64 (j : Int))) none).run Tryd.prog W = .ok v' W) ∧ Bytes w v' (l.take j) := by
  subst hn
  have hcap : l.length ≤ cap := by obtain ⟨_, _, a', cap', hv, h3, _⟩ := h; cases hv; exact h3
  refine ⟨_, fun W => slice_h_run under_bytes size_u8 a _ cap j (by omega) W, ?_⟩
  have hs := Seg.sub h 0 j (by omega) hj
  unfold Bytes
  rw [List.length_take, Nat.min_eq_left (by omega), List.map_take]
  simpa using hs

theorem cell_drewN (w : World) (n : Nat) (p : Addr) : (w.drewN n).cell? p = w.cell? p := rfl
theorem Bytes.drewN {w : World} {v : Value} {l : List UInt8} (h : Bytes w v l) (n : Nat) : Bytes (w.drewN n) v l := Seg.keep h fun _ _ hu => hu
theorem Seg.drewN {w : World} {v : Value} {size n : Nat} {xs : List Value} (h : Seg w v size n xs) (k : Nat) : Seg (w.drewN k) v size n xs := Seg.keep h fun _ _ hu => hu

/-- A contract that leaves the world alone, at a call inside a region that draws. -/
theorem quiet_eq {P : Program} {f : FuncId} {args : Array Value} {w : World} {n : Nat} {v : Value}
    (h : Calls P f args (w.drewN n) fun e w' => e = .returned v ∧ w.drewN n = w') : Calls P f args (w.drewN n) fun e w'' => e = .returned v ∧ ∃ m, w'' = w.drewN m :=
  h.mono fun _ _ ⟨he, hm⟩ => ⟨he, n, hm.symm⟩
theorem below_drewN {w w' : World} {B : Nat} (h : Below B w w') (n : Nat) : Below B w (w'.drewN n) := ⟨h.os, h.tape, h.output, h.size, h.block⟩
theorem ret_agg5 {a b c d e a' b' c' d' e' : Int} (h1 : a = a') (h2 : b = b') (h3 : c = c') (h4 : d = d') (h5 : e = e') : Value.agg #[.int .i64 a, .int .i64 b, .int .i64 c, .int .i64 d, .int .i64 e] = .agg #[.int .i64 a', .int .i64 b', .int .i64 c', .int .i64 d', .int .i64 e'] := by rw [h1, h2, h3, h4, h5]

/-- Behind a block of one's own and a callee: below all that was there, nothing has turned. -/
theorem below_new {w w1 : World} {o : Obj} (hb : Below (w.alloc o).heap.size (w.alloc o) w1) : Below w.heap.size w w1 :=
  ((Below.refl _ _).alloc (Nat.le_refl _) _).trans (hb.mono (by simp))
theorem below_step {B : Nat} {w w1 w2 : World} (h : Below B w w1) (hb : Below w1.heap.size w1 w2) (hB : B ≤ w1.heap.size) : Below B w w2 := h.trans (hb.mono hB)

/-- b[i:j] of bytes: the value written out, its address and cell at each place, and what it reads as. -/
theorem Bytes.cut {w : World} {a : Option Addr} {n cap : Nat} {l : List UInt8} (h : Bytes w (.slice a n cap) l) (hn : n = l.length) (i j : Nat) (hij : i ≤ j) (hj : j ≤ n) :
    ∃ a' cap', (∀ W, (Instr.slice 53 (.slice a n cap) (some (.int .i64 (i : Int))) (some (.int .i64 (j : Int))) none).run Tryd.prog W = .ok (.slice a' (j - i) cap') W) ∧
      (∀ k, k < j - i → ∃ b o, a' = some ⟨b, o, none⟩ ∧ w.cell? ⟨b, o + k, none⟩ = some (.int .u8 ((l.getD (i + k) 0).toNat : Int))) ∧ Bytes w (.slice a' (j - i) cap') ((l.drop i).take (j - i)) := by
  obtain ⟨v', hr, hb⟩ := h.lh hn i j hij hj
  have hb' := hb
  obtain ⟨_, a', cap', rfl, _, _, _, hc⟩ := hb.open
  have hl : ((l.drop i).take (j - i)).length = j - i := by rw [List.length_take, List.length_drop]; omega
  rw [hl] at hr hb' hc
  refine ⟨a', cap', hr, fun k hk => ?_, hb'⟩
  obtain ⟨b, o, ha, hcell⟩ := hc k hk
  refine ⟨b, o, ha, hcell.trans ?_⟩
  simp [List.getD, hk, List.getElem?_drop]

theorem index_0 {P : Program} {t e : TypeId} (ht : P.underlying t = some (.slice e)) (hs : ∀ w : World, (sizeOf e).run P w = .ok 1 w) {a : Option Addr} {b o len cap : Nat} (ha : a = some ⟨b, o, none⟩) (hk : 0 < len) (w : World) :
    (Instr.indexAt t (.slice a len cap) (.int .i64 0)).run P w = .ok (.pointer (some ⟨b, o, none⟩)) w := index_run1 ht hs ha 0 hk w

/-! string(b) -/
theorem foldl_push (l : List UInt8) (s : ByteArray) : (l.map fun c => (c.toNat : Int)).foldl (fun r n => r.push (UInt8.ofNat n.toNat)) s = ⟨s.data ++ l.toArray⟩ := by
  induction l generalizing s with
  | nil => simp
  | cons c t ih =>
    rw [List.map_cons, List.foldl_cons, ih]
    apply ByteArray.ext
    simp [ByteArray.push]

theorem Bytes.str {w : World} {v : Value} {l : List UInt8} (h : Bytes w v l) : (convert 53 9 v).run Tryd.prog w = .ok (.string ⟨l.toArray⟩) w := by
  obtain ⟨h1, h2, a, cap, rfl, h3, h4, h5, h6⟩ := h
  rw [run_convert_bytes_string w _ _ 5 a l.length cap under_bytes Tryd.underlying5 Tryd.underlying9]
  have hmap : l.map byteV = (l.map fun c => (c.toNat : Int)).map (Value.int .u8) := by simp [byteV]
  cases ha : a with
  | none =>
    have := h5 ha
    obtain rfl : l = [] := List.eq_nil_of_length_eq_zero (by omega)
    rfl
  | some ad =>
    have hl := run_loadCells_list (P := Tryd.prog) (w := w) ad (l.map byteV) (fun j u hu => by
      obtain ⟨b, o, e, hc⟩ := h6 j u hu
      rw [ha] at e
      cases e
      rw [addr_add]; exact hc)
    rw [List.length_map, hmap] at hl
    rw [run_bytesToString w ad l.length cap _ hl, foldl_push]
    simp

/-- A block of one's own bytes. -/
theorem bytes_new (w : World) (T : TypeId) (cells : Array Value) (l : List UInt8) (h : cells.toList = l.map byteV) (hl : l.length ≤ 140737488355328) :
    Bytes (w.alloc (.cells cells T)) (.slice (some ⟨w.heap.size, 0, none⟩) l.length l.length) l := by
  refine ⟨by simp, hl, _, _, rfl, Nat.le_refl _, by omega, by simp, fun j u hu => ⟨_, _, rfl, ?_⟩⟩
  rw [Nat.zero_add, cell_of_row _ _ _ cells T (0, 0) (heap_alloc_new w _)]
  rw [← h] at hu
  simpa using hu
theorem bytes_nil (w : World) : Bytes w (.slice none 0 0) [] := ⟨rfl, by simp, _, _, rfl, Nat.le_refl _, by omega, fun _ => rfl, fun j u hu => by simp at hu⟩

end Go.Proofs.YtgephhmkaonahaaDoor

namespace Go.Proofs.YtgephhmkaonahaaDoor
open Go.RowKit

structure Val (α : Type) where
  num : Int
  words : List Nat
  texts : List (List UInt8)
  subs : List α
structure Msgd (α : Type) where
  vals : List (Val α)
  unk : List (List UInt8)
def M : Nat → Type
  | 0 => Empty
  | d + 1 => Msgd (M d)
def M.vals {d : Nat} (x : M (d + 1)) : List (Val (M d)) := Msgd.vals x
def M.unk {d : Nat} (x : M (d + 1)) : List (List UInt8) := Msgd.unk x
def Val.zero {α : Type} : Val α := ⟨0, [], [], []⟩
def strV (t : List UInt8) : Value := .string ⟨t.toArray⟩
def wordV (x : Nat) : Value := .int .u64 (x : Int)

/-- A []string, a []uint64. -/
def StrsAt (w : World) (v : Value) (l : List (List UInt8)) : Prop := Seg w v 1 l.length (l.map strV) ∧ ∀ t ∈ l, t.length ≤ 140737488355328
def WordsAt (w : World) (v : Value) (l : List Nat) : Prop := Seg w v 1 l.length (l.map wordV) ∧ ∀ x ∈ l, x < 2 ^ 64
/-- A slice whose elements are k cells each, one element for each of l. -/
def RowsAt {α : Type} (P : World → List Value → α → Prop) (k : Nat) (w : World) (v : Value) (l : List α) : Prop :=
  ∃ rows : List (List Value), rows.length = l.length ∧ (∀ r ∈ rows, r.length = k) ∧ Seg w v k l.length rows.flatten ∧ ∀ (i : Nat) (r : List Value) (x : α), rows[i]? = some r → l[i]? = some x → P w r x
def SubsAt {α : Type} (P : World → Value → α → Prop) (w : World) (v : Value) (l : List α) : Prop := RowsAt (fun w r x => P w (.agg r.toArray) x) 2 w v l
def ValAt {α : Type} (P : World → Value → α → Prop) (w : World) (v : Value) (x : Val α) : Prop :=
  ∃ wv tv sv, v = .agg #[.int .i64 x.num, wv, tv, sv] ∧ (-9223372036854775808 ≤ x.num ∧ x.num ≤ 9223372036854775807) ∧ WordsAt w wv x.words ∧ StrsAt w tv x.texts ∧ SubsAt P w sv x.subs
def ValsAt {α : Type} (P : World → Value → α → Prop) (w : World) (v : Value) (l : List (Val α)) : Prop := RowsAt (fun w r x => ValAt P w (.agg r.toArray) x) 4 w v l
def MsgAt : (d : Nat) → World → Value → M d → Prop
  | 0, _, _, _ => False
  | d + 1, w, v, x => ∃ vv uv, v = .agg #[vv, uv] ∧ ValsAt (MsgAt d) w vv (M.vals x) ∧ StrsAt w uv (M.unk x)

theorem StrsAt.keep {w w' : World} {v : Value} {l : List (List UInt8)} (h : StrsAt w v l) (hk : ∀ p u, w.cell? p = some u → w'.cell? p = some u) : StrsAt w' v l := ⟨h.1.keep hk, h.2⟩
theorem WordsAt.keep {w w' : World} {v : Value} {l : List Nat} (h : WordsAt w v l) (hk : ∀ p u, w.cell? p = some u → w'.cell? p = some u) : WordsAt w' v l := ⟨h.1.keep hk, h.2⟩
theorem RowsAt.keep {α : Type} {P : World → List Value → α → Prop} {k : Nat} {w w' : World} {v : Value} {l : List α} (h : RowsAt P k w v l) (hk : ∀ p u, w.cell? p = some u → w'.cell? p = some u) (hP : ∀ r x, P w r x → P w' r x) : RowsAt P k w' v l :=
  let ⟨rows, h1, h0, h2, h3⟩ := h
  ⟨rows, h1, h0, h2.keep hk, fun i r x hr hx => hP _ _ (h3 i r x hr hx)⟩
theorem SubsAt.keep {α : Type} {P : World → Value → α → Prop} {w w' : World} {v : Value} {l : List α} (h : SubsAt P w v l) (hk : ∀ p u, w.cell? p = some u → w'.cell? p = some u) (hP : ∀ v x, P w v x → P w' v x) : SubsAt P w' v l :=
  RowsAt.keep h hk fun _ _ hx => hP _ _ hx
theorem ValAt.keep {α : Type} {P : World → Value → α → Prop} {w w' : World} {v : Value} {x : Val α} (h : ValAt P w v x) (hk : ∀ p u, w.cell? p = some u → w'.cell? p = some u) (hP : ∀ v x, P w v x → P w' v x) : ValAt P w' v x :=
  let ⟨wv, tv, sv, h1, h2, h3, h4, h5⟩ := h
  ⟨wv, tv, sv, h1, h2, h3.keep hk, h4.keep hk, h5.keep hk hP⟩
theorem ValsAt.keep {α : Type} {P : World → Value → α → Prop} {w w' : World} {v : Value} {l : List (Val α)} (h : ValsAt P w v l) (hk : ∀ p u, w.cell? p = some u → w'.cell? p = some u) (hP : ∀ v x, P w v x → P w' v x) : ValsAt P w' v l :=
  RowsAt.keep h hk fun _ _ hx => hx.keep hk hP
theorem MsgAt.keep : ∀ {d : Nat} {w w' : World} {v : Value} {x : M d}, MsgAt d w v x → (∀ p u, w.cell? p = some u → w'.cell? p = some u) → MsgAt d w' v x
  | 0, _, _, _, _, h, _ => h.elim
  | d + 1, _, _, _, _, h, hk => by
    obtain ⟨vv, uv, h1, h2, h3⟩ := h
    exact ⟨vv, uv, h1, h2.keep hk fun v x hx => MsgAt.keep hx hk, h3.keep hk⟩
theorem MsgAt.below {d : Nat} {w w' : World} {v : Value} {x : M d} (h : MsgAt d w v x) (hb : Below w.heap.size w w') : MsgAt d w' v x := h.keep (below_keeps hb)
theorem VMsg.keep {d : Nat} {w w' : World} {v : Value} {x : Val (M d)} (h : ValAt (MsgAt d) w v x) (hk : ∀ p u, w.cell? p = some u → w'.cell? p = some u) : ValAt (MsgAt d) w' v x := ValAt.keep h hk fun _ _ hx => hx.keep hk
theorem VMsg.below {d : Nat} {w w' : World} {v : Value} {x : Val (M d)} (h : ValAt (MsgAt d) w v x) (hb : Below w.heap.size w w') : ValAt (MsgAt d) w' v x := VMsg.keep h (below_keeps hb)

/-- What a walk wants of a []string. -/
theorem StrsAt.open {w : World} {v : Value} {l : List (List UInt8)} (h : StrsAt w v l) :
    l.length ≤ 140737488355328 ∧ ∃ a cap, v = .slice a l.length cap ∧ (a = none → cap = 0) ∧ ∀ k t, l[k]? = some t → t.length ≤ 140737488355328 ∧ ∃ b o, a = some ⟨b, o, none⟩ ∧ w.cell? ⟨b, o + k, none⟩ = some (strV t) := by
  obtain ⟨⟨_, h2, a, cap, hv, h3, h4, h5, h6⟩, hl⟩ := h
  refine ⟨h2, a, cap, hv, h5, fun k t hk => ⟨hl _ (List.mem_of_getElem? hk), h6 k _ ?_⟩⟩
  simp [hk]
theorem WordsAt.open {w : World} {v : Value} {l : List Nat} (h : WordsAt w v l) :
    l.length ≤ 140737488355328 ∧ ∃ a cap, v = .slice a l.length cap ∧ (a = none → cap = 0) ∧ ∀ k x, l[k]? = some x → x < 2 ^ 64 ∧ ∃ b o, a = some ⟨b, o, none⟩ ∧ w.cell? ⟨b, o + k, none⟩ = some (wordV x) := by
  obtain ⟨⟨_, h2, a, cap, hv, h3, h4, h5, h6⟩, hl⟩ := h
  refine ⟨h2, a, cap, hv, h5, fun k t hk => ⟨hl _ (List.mem_of_getElem? hk), h6 k _ ?_⟩⟩
  simp [hk]
theorem flatten_get {k : Nat} : ∀ (rows : List (List Value)) (i j : Nat) (r : List Value), (∀ r ∈ rows, r.length = k) → rows[i]? = some r → j < k → rows.flatten[i * k + j]? = r[j]?
  | [], _, _, _, _, h, _ => by simp at h
  | y :: l, 0, j, r, hk, h, hj => by
    simp at h
    subst h
    rw [List.flatten_cons, Nat.zero_mul, Nat.zero_add, List.getElem?_append_left (by rw [hk y (by simp)]; exact hj)]
  | y :: l, i + 1, j, r, hk, h, hj => by
    have := flatten_get l i j r (fun r hr => hk r (by simp [hr])) (by simpa using h) hj
    rw [List.flatten_cons, List.getElem?_append_right (by rw [hk y (by simp), Nat.succ_mul]; omega), hk y (by simp)]
    rw [show (i + 1) * k + j - k = i * k + j by rw [Nat.succ_mul]; omega]
    exact this
theorem RowsAt.open {α : Type} {P : World → List Value → α → Prop} {k : Nat} (hk0 : 0 < k) {w : World} {v : Value} {l : List α} (h : RowsAt P k w v l) :
    l.length ≤ 140737488355328 ∧ ∃ a cap, v = .slice a l.length cap ∧ (a = none → cap = 0) ∧ ∀ i x, l[i]? = some x → ∃ b o r, a = some ⟨b, o, none⟩ ∧ r.length = k ∧ (∀ j u, r[j]? = some u → w.cell? ⟨b, o + i * k + j, none⟩ = some u) ∧ P w r x := by
  obtain ⟨rows, hl, hk, ⟨_, h2, a, cap, hv, h3, h4, h5, h6⟩, hP⟩ := h
  refine ⟨h2, a, cap, hv, h5, fun i x hi => ?_⟩
  have hil : i < l.length := (List.getElem?_eq_some_iff.1 hi).1
  have hr : rows[i]? = some (rows[i]'(by omega)) := List.getElem?_eq_getElem (by omega)
  have hrk := hk _ (List.mem_of_getElem? hr)
  generalize rows[i]'(by omega) = r at hr hrk
  have hc := fun j (hj : j < k) => flatten_get rows i j r hk hr hj
  have h0 : r[0]? = some (r[0]'(by omega)) := List.getElem?_eq_getElem (by omega)
  obtain ⟨b, o, ha, g0⟩ := h6 _ _ ((hc 0 hk0).trans h0)
  refine ⟨b, o, r, ha, hrk, fun j u hu => ?_, hP i r x hr hi⟩
  have hj : j < k := by rw [← hrk]; exact (List.getElem?_eq_some_iff.1 hu).1
  obtain ⟨b', o', ha', hcell⟩ := h6 _ u ((hc j hj).trans hu)
  rw [ha] at ha'
  cases ha'
  rw [Nat.add_assoc]; exact hcell
theorem SubsAt.open {α : Type} {P : World → Value → α → Prop} {w : World} {v : Value} {l : List α} (h : SubsAt P w v l) :
    l.length ≤ 140737488355328 ∧ ∃ a cap, v = .slice a l.length cap ∧ (a = none → cap = 0) ∧ ∀ k x, l[k]? = some x → ∃ b o v1 v2, a = some ⟨b, o, none⟩ ∧ w.cell? ⟨b, o + k * 2, none⟩ = some v1 ∧ w.cell? ⟨b, o + k * 2 + 1, none⟩ = some v2 ∧ P w (.agg #[v1, v2]) x := by
  obtain ⟨h1, a, cap, h2, h3, h4⟩ := RowsAt.open (by decide) h
  refine ⟨h1, a, cap, h2, h3, fun k x hx => ?_⟩
  obtain ⟨b, o, r, ha, hr, hc, hP⟩ := h4 k x hx
  match r, hr with
  | [v1, v2], _ => exact ⟨b, o, v1, v2, ha, hc 0 _ rfl, hc 1 _ rfl, hP⟩
theorem ValsAt.open {α : Type} {P : World → Value → α → Prop} {w : World} {v : Value} {l : List (Val α)} (h : ValsAt P w v l) :
    l.length ≤ 140737488355328 ∧ ∃ a cap, v = .slice a l.length cap ∧ (a = none → cap = 0) ∧ ∀ k x, l[k]? = some x → ∃ b o v1 v2 v3, a = some ⟨b, o, none⟩ ∧
      w.cell? ⟨b, o + k * 4, none⟩ = some (.int .i64 x.num) ∧ w.cell? ⟨b, o + k * 4 + 1, none⟩ = some v1 ∧ w.cell? ⟨b, o + k * 4 + 2, none⟩ = some v2 ∧ w.cell? ⟨b, o + k * 4 + 3, none⟩ = some v3 ∧
      ValAt P w (.agg #[.int .i64 x.num, v1, v2, v3]) x := by
  obtain ⟨h1, a, cap, h2, h3, h4⟩ := RowsAt.open (by decide) h
  refine ⟨h1, a, cap, h2, h3, fun k x hx => ?_⟩
  obtain ⟨b, o, r, ha, hr, hc, hP⟩ := h4 k x hx
  match r, hr with
  | [v0, v1, v2, v3], _ =>
    have hP' := hP
    obtain ⟨wv, tv, sv, e, -⟩ := hP'
    cases e
    exact ⟨b, o, v1, v2, v3, ha, hc 0 _ rfl, hc 1 _ rfl, hc 2 _ rfl, hc 3 _ rfl, hP⟩

/-! The weight: how many things and bytes there are. -/
def twt (l : List (List UInt8)) : Nat := (l.map fun t => 1 + t.length).sum
def vwt {α : Type} (f : α → Nat) (v : Val α) : Nat := 1 + v.words.length + twt v.texts + (v.subs.map f).sum
def mwt : (d : Nat) → M d → Nat
  | 0, _ => 0
  | d + 1, x => 1 + twt (M.unk x) + ((M.vals x).map (vwt (mwt d))).sum

theorem sum_take {α : Type} (f : α → Nat) (l : List α) (k : Nat) (x : α) (h : l[k]? = some x) : ((l.take (k + 1)).map f).sum = ((l.take k).map f).sum + f x := by
  rw [List.take_add_one, h]
  simp
theorem sum_take_le {α : Type} (f : α → Nat) (l : List α) (k : Nat) : ((l.take k).map f).sum ≤ (l.map f).sum := by
  conv => rhs; rw [← List.take_append_drop k l]
  rw [List.map_append, List.sum_append]
  omega
theorem mem_sum_le {α : Type} (f : α → Nat) (l : List α) (x : α) (h : x ∈ l) : f x ≤ (l.map f).sum := by
  obtain ⟨k, hk⟩ := List.mem_iff_getElem?.1 h
  have h1 := sum_take f l k x hk
  have h2 := sum_take_le f l (k + 1)
  omega

end Go.Proofs.YtgephhmkaonahaaDoor

namespace Go.Proofs.YtgephhmkaonahaaDoor
open Go.RowKit

def sdot : List UInt8 → List (List UInt8)
  | [] => [[]]
  | c :: r => if c = 46 then [] :: sdot r else match sdot r with
    | [] => [[c]]
    | h :: t => (c :: h) :: t
theorem sdot_cons (l : List UInt8) : ∃ h t, sdot l = h :: t := by
  cases l with
  | nil => exact ⟨_, _, rfl⟩
  | cons c r =>
    rw [sdot]
    split
    · exact ⟨_, _, rfl⟩
    · split <;> exact ⟨_, _, rfl⟩
theorem sdot_none : ∀ {l : List UInt8}, (46 : UInt8) ∉ l → sdot l = [l]
  | [], _ => rfl
  | c :: r, h => by
    have hc : c ≠ 46 := fun e => h (by simp [e])
    rw [sdot, if_neg hc, sdot_none (l := r) (fun e => h (by simp [e]))]
theorem sdot_at : ∀ {a : List UInt8} (b : List UInt8), (46 : UInt8) ∉ a → sdot (a ++ 46 :: b) = a :: sdot b
  | [], b, _ => by rw [List.nil_append, sdot, if_pos rfl]
  | c :: r, b, h => by
    have hc : c ≠ 46 := fun e => h (by simp [e])
    rw [List.cons_append, sdot, if_neg hc, sdot_at (a := r) b (fun e => h (by simp [e]))]
theorem sdot_len : ∀ l : List UInt8, (sdot l).length ≤ l.length + 1
  | [] => by simp [sdot]
  | c :: r => by
    have := sdot_len r
    rw [sdot]
    split
    · simp; omega
    · split
      · simp
      · rename_i h t e
        rw [e] at this
        simp at this ⊢
        omega
theorem sdot_mem_len : ∀ (l : List UInt8) (t : List UInt8), t ∈ sdot l → t.length ≤ l.length
  | [], t, h => by simp [sdot] at h; simp [h]
  | c :: r, t, h => by
    have ih := sdot_mem_len r
    rw [sdot] at h
    split at h
    · rcases List.mem_cons.1 h with rfl | h
      · simp
      · have := ih t h; simp; omega
    · split at h
      · simp at h; subst h; simp
      · rename_i hd tl e
        rcases List.mem_cons.1 h with rfl | h
        · have := ih hd (by rw [e]; simp)
          simp; omega
        · have := ih t (by rw [e]; simp [h])
          simp; omega

/-- What the library's index of a point tells. -/
theorem sdot_index_none {l : List UInt8} (h : Lib.indexByte l 46 = -1) : sdot l = [l] :=
  sdot_none fun hm => by
    obtain ⟨k, hk⟩ := List.mem_iff_getElem?.1 hm
    exact Lib.indexByte_none h k hk
theorem sdot_index_some {l : List UInt8} {i : Nat} (h : Lib.indexByte l 46 = i) : i < l.length ∧ sdot l = l.take i :: sdot (l.drop (i + 1)) := by
  obtain ⟨h1, h2⟩ := Lib.indexByte_some h
  obtain ⟨hi, h3⟩ := List.getElem?_eq_some_iff.1 h1
  refine ⟨hi, ?_⟩
  have e : l = l.take i ++ 46 :: l.drop (i + 1) := by
    conv => lhs; rw [← List.take_append_drop i l]
    rw [List.drop_eq_getElem_cons hi, h3]
  conv => lhs; rw [e]
  refine sdot_at _ fun hm => ?_
  obtain ⟨k, hk⟩ := List.mem_iff_getElem?.1 hm
  rw [List.getElem?_take] at hk
  split at hk
  · rename_i hki
    exact h2 k hki hk
  · cases hk

/-- the text of names -/
def sjoin : List (List UInt8) → List UInt8
  | [] => []
  | [x] => x
  | x :: y :: r => x ++ 46 :: sjoin (y :: r)
theorem sjoin_lib : ∀ l : List (List UInt8), Lib.join l [46] = sjoin l
  | [] => rfl
  | [x] => by rw [Lib.join_one]; rfl
  | x :: y :: r => by
    rw [Lib.join_cons, sjoin, ← sjoin_lib (y :: r), Lib.join_cons]
    simp [Lib.joinTail]
theorem sjoin_sdot : ∀ l : List UInt8, sjoin (sdot l) = l
  | [] => rfl
  | c :: r => by
    have ih := sjoin_sdot r
    obtain ⟨h, t, e⟩ := sdot_cons r
    rw [sdot]
    split
    · rename_i hc
      rw [e] at ih ⊢
      rw [sjoin, ih, hc]; rfl
    · rw [e] at ih ⊢
      simp only
      cases t with
      | nil => simp [sjoin] at ih ⊢; exact ih
      | cons y q => rw [sjoin] at ih ⊢; rw [List.cons_append, ih]
theorem sdot_sjoin : ∀ {l : List (List UInt8)}, l ≠ [] → (∀ x ∈ l, (46 : UInt8) ∉ x) → sdot (sjoin l) = l
  | [], h, _ => absurd rfl h
  | [x], _, h => sdot_none (h x (by simp))
  | x :: y :: r, _, h => by
    rw [sjoin, sdot_at _ (h x (by simp)), sdot_sjoin (by simp) fun z hz => h z (by simp [List.mem_cons.1 hz])]
theorem sdot_no46 : ∀ (l : List UInt8), ∀ x ∈ sdot l, (46 : UInt8) ∉ x
  | [], x, h => by simp [sdot] at h; simp [h]
  | c :: r, x, h => by
    have ih := sdot_no46 r
    rw [sdot] at h
    split at h
    · rcases List.mem_cons.1 h with rfl | h
      · simp
      · exact ih x h
    · rename_i hc
      split at h
      · simp at h; subst h; simp; exact fun e => hc e.symm
      · rename_i hd tl e
        rcases List.mem_cons.1 h with rfl | h
        · have := ih hd (by rw [e]; simp)
          simp [this]; exact fun e => hc e.symm
        · exact ih x (by rw [e]; simp [h])

end Go.Proofs.YtgephhmkaonahaaDoor

namespace Go.Proofs.YtgephhmkaonahaaDoor
open Go.RowKit

variable {K : Type}

def entL (kv : K → Value) : List (K × Value) → Nat → List MapEntry
  | [], _ => []
  | (k, v) :: r, i => ⟨kv k, v, i⟩ :: entL kv r (i + 1)
def posOf [DecidableEq K] (k : K) : List (K × Value) → Nat → Option (Nat × Value)
  | [], _ => none
  | (k', v) :: r, i => if k = k' then some (i, v) else posOf k r (i + 1)
def getOf [DecidableEq K] (k : K) : List (K × Value) → Option Value
  | [] => none
  | (k', v) :: r => if k = k' then some v else getOf k r

/-- Of a key type: the keys kv k are held against each other as the k are. -/
structure KeyOk [DecidableEq K] (P : Program) (kt : TypeId) (kv : K → Value) : Prop where
  check : ∀ (w : World) (e : Bool) (k : K), (Instr.checkKey e 10000 kt (kv k)).run P w = .ok () w
  find : ∀ (w : World) (k : K) (es : List (K × Value)) (i : Nat), (Instr.findKey kt (kv k) (entL kv es i)).run P w = .ok (posOf k es 0) w

def MapIs (w : World) (r : Nat) (kv : K → Value) (es : List (K × Value)) : Prop := w.heap[r]? = some (.map (entL kv es 0).toArray es.length)

theorem posOf_getOf [DecidableEq K] (k : K) : ∀ (es : List (K × Value)) (i : Nat), (posOf k es i).map (·.2) = getOf k es
  | [], _ => rfl
  | (k', v) :: r, i => by
    simp only [posOf, getOf]
    split
    · rfl
    · exact posOf_getOf k r (i + 1)

theorem entL_len (kv : K → Value) : ∀ (es : List (K × Value)) (i : Nat), (entL kv es i).length = es.length
  | [], _ => rfl
  | (k, v) :: r, i => by simp [entL, entL_len kv r (i + 1)]

theorem entL_append (kv : K → Value) : ∀ (es fs : List (K × Value)) (i : Nat), entL kv (es ++ fs) i = entL kv es i ++ entL kv fs (i + es.length)
  | [], fs, i => by simp [entL]
  | (k, v) :: r, fs, i => by
    simp only [List.cons_append, entL, entL_append kv r fs (i + 1), List.length_cons]
    rw [show i + 1 + r.length = i + (r.length + 1) by omega]

theorem findNow_entL [DecidableEq K] {d : TypeDesc} {kv : K → Value} (h : ∀ k k', Instr.sameNow d (kv k) (kv k') = some (decide (k = k'))) (k : K) : ∀ (es : List (K × Value)) (i j : Nat), Instr.findNow d (kv k) (entL kv es i) j = some (posOf k es j)
  | [], _, _ => rfl
  | (k', v) :: r, i, j => by
    simp only [entL, Instr.findNow, h, posOf]
    by_cases e : k = k'
    · simp [e]
    · simp [e, findNow_entL h k r (i + 1) (j + 1)]

theorem keyOk_now [DecidableEq K] {P : Program} {kt : TypeId} {d : TypeDesc} {kv : K → Value} (hd : P.underlying kt = some d) (hk : ∀ k, MapKept.IsKey d (kv k)) (h : ∀ k k', Instr.sameNow d (kv k) (kv k') = some (decide (k = k'))) : KeyOk P kt kv where
  check _ e k := MapKept.run_checkKey hd (hk k) e 9999
  find _ k es i := MapKept.run_findKey hd (findNow_entL h k es i 0)

theorem map_lookup [DecidableEq K] {P : Program} {t kt et : TypeId} {kv : K → Value} (KO : KeyOk P kt kv) (ht : P.underlying t = some (.map kt et)) {z : Value} (hz : ∀ w : World, (zeroValue et).run P w = .ok z w)
    {w : World} {r : Nat} {es : List (K × Value)} (h : MapIs w r kv es) (k : K) (ok : Bool) :
    (Instr.lookup t (.map (some r)) (kv k) ok).run P w = .ok (if ok then .tuple #[(getOf k es).getD z, .bool (getOf k es).isSome] else (getOf k es).getD z) w := by
  have hf := KO.find w k es 0
  rw [← posOf_getOf k es 0]
  simp only [Instr.lookup, Sem.run_bind, run_underlying ht, Result.andThen, MapKept.run_getObj_map h, KO.check, Sem.run_pure, hf]
  cases hp : posOf k es 0 with
  | none =>
    cases ok
    · simp [hz]
    · simp [hz, Result.andThen]
  | some x => cases ok <;> simp [Sem.run_pure]

/-- The world with another map in the place of the one at r. -/
def putMap (w : World) (r : Nat) (kv : K → Value) (es : List (K × Value)) : World := { w with heap := w.heap.setIfInBounds r (.map (entL kv es 0).toArray es.length) }

theorem putMap_is {w : World} {r : Nat} {kv : K → Value} {es : List (K × Value)} (h : r < w.heap.size) : MapIs (putMap w r kv es) r kv es := by
  simp [MapIs, putMap, h]
theorem putMap_other {w : World} {r b : Nat} {kv : K → Value} {es : List (K × Value)} (h : b ≠ r) : (putMap w r kv es).heap[b]? = w.heap[b]? := by
  simp only [putMap, Array.getElem?_setIfInBounds]
  rw [if_neg (by omega)]
theorem putMap_size {w : World} {r : Nat} {kv : K → Value} {es : List (K × Value)} : (putMap w r kv es).heap.size = w.heap.size := by simp [putMap]
theorem putMap_alloc {w : World} {kv : K → Value} {es fs : List (K × Value)} : putMap (w.alloc (.map (entL kv es 0).toArray es.length)) w.heap.size kv fs = w.alloc (.map (entL kv fs 0).toArray fs.length) := by
  simp only [putMap, World.alloc]
  congr 1
  apply Array.ext_getElem?
  intro i
  simp only [Array.getElem?_setIfInBounds, Array.size_push, Array.getElem?_push]
  by_cases e : w.heap.size = i
  · subst e; simp
  · have : ¬ i = w.heap.size := fun h => e h.symm
    simp [e, this]

theorem map_insert [DecidableEq K] {P : Program} {t kt et : TypeId} {kv : K → Value} (KO : KeyOk P kt kv) (ht : P.underlying t = some (.map kt et)) {w : World} {r : Nat} {es : List (K × Value)} (h : MapIs w r kv es) (k : K) (v : Value) (hk : getOf k es = none) :
    (Instr.mapUpdate t (.map (some r)) (kv k) v).run P w = .ok () (putMap w r kv (es ++ [(k, v)])) := by
  have hf := KO.find w k es 0
  have hp : posOf k es 0 = none := by
    have := posOf_getOf k es 0
    rw [hk] at this
    cases hp : posOf k es 0 with
    | none => rfl
    | some x => rw [hp] at this; simp at this
  rw [hp] at hf
  simp only [Instr.mapUpdate, Sem.run_bind, run_underlying ht, Result.andThen, MapKept.run_getObj_map h, KO.check, hf, MapKept.run_setObj_map _ h, putMap]
  congr 3
  simp [entL_append, entL]

end Go.Proofs.YtgephhmkaonahaaDoor

namespace Go.Proofs.YtgephhmkaonahaaDoor
open Go.RowKit

def kright (k : Int) : Bool := decide (1 ≤ k ∧ k ≤ 17)
def kwire (k : Int) : Nat := if k < 1 ∨ 17 < k then 0 else if 15 ≤ k then 2 else if 12 ≤ k then 1 else if 9 ≤ k then 5 else 0
def knumber (k : Int) : Bool := decide (1 ≤ k ∧ k ≤ 14)
def kbits (k : Int) : Nat := if k < 1 ∨ 17 < k then 0 else if 15 ≤ k then 0 else if 12 ≤ k then 64 else if k = 2 ∨ k = 4 ∨ k = 6 then 64 else if k = 7 then 1 else 32

def formsL : List (Int × Value) := [
(1, .agg #[.string ⟨#[105, 110, 116, 51, 50]⟩, .int .i64 0, .int .i64 32]),
  (2, .agg #[.string ⟨#[105, 110, 116, 54, 52]⟩, .int .i64 0, .int .i64 64]),
  (3, .agg #[.string ⟨#[117, 105, 110, 116, 51, 50]⟩, .int .i64 0, .int .i64 32]),
  (4, .agg #[.string ⟨#[117, 105, 110, 116, 54, 52]⟩, .int .i64 0, .int .i64 64]),
  (5, .agg #[.string ⟨#[115, 105, 110, 116, 51, 50]⟩, .int .i64 0, .int .i64 32]),
  (6, .agg #[.string ⟨#[115, 105, 110, 116, 54, 52]⟩, .int .i64 0, .int .i64 64]),
  (7, .agg #[.string ⟨#[98, 111, 111, 108]⟩, .int .i64 0, .int .i64 1]),
  (8, .agg #[.string ⟨#[101, 110, 117, 109]⟩, .int .i64 0, .int .i64 32]),
  (9, .agg #[.string ⟨#[102, 105, 120, 101, 100, 51, 50]⟩, .int .i64 5, .int .i64 32]),
  (10, .agg #[.string ⟨#[115, 102, 105, 120, 101, 100, 51, 50]⟩, .int .i64 5, .int .i64 32]),
  (11, .agg #[.string ⟨#[102, 108, 111, 97, 116]⟩, .int .i64 5, .int .i64 32]),
  (12, .agg #[.string ⟨#[102, 105, 120, 101, 100, 54, 52]⟩, .int .i64 1, .int .i64 64]),
  (13, .agg #[.string ⟨#[115, 102, 105, 120, 101, 100, 54, 52]⟩, .int .i64 1, .int .i64 64]),
  (14, .agg #[.string ⟨#[100, 111, 117, 98, 108, 101]⟩, .int .i64 1, .int .i64 64]),
  (15, .agg #[.string ⟨#[115, 116, 114, 105, 110, 103]⟩, .int .i64 2, .int .i64 0]),
  (16, .agg #[.string ⟨#[98, 121, 116, 101, 115]⟩, .int .i64 2, .int .i64 0]),
  (17, .agg #[.string ⟨#[109, 101, 115, 115, 97, 103, 101]⟩, .int .i64 2, .int .i64 0])
]
def intK (k : Int) : Value := .int .i64 k
theorem intK_ok : KeyOk Tryd.prog 3 intK := keyOk_now Tryd.underlying3 (fun k => by simp [intK, MapKept.IsKey]) (fun k k' => by simp [intK, Instr.sameNow]; rfl)

def formsE (j : Nat) : Array MapEntry := (entL intK (formsL.take j) 0).toArray
theorem forms_step (w : World) (j : Nat) (hj : j < 17) (k : Int) (v : Value) (he : formsL[j]? = some (k, v)) (hk : getOf k (formsL.take j) = none) :
    (Instr.mapUpdate 96 (.map (some w.heap.size)) (.int .i64 k) v).run Tryd.prog (w.alloc (.map (formsE j) j)) = .ok () (w.alloc (.map (formsE (j + 1)) (j + 1))) := by
  have hl : (formsL.take j).length = j := by rw [List.length_take]; show min j 17 = j; omega
  have hl2 : (formsL.take (j + 1)).length = j + 1 := by rw [List.length_take]; show min (j + 1) 17 = j + 1; omega
  have hm : MapIs (w.alloc (.map (formsE j) j)) w.heap.size intK (formsL.take j) := by
    unfold MapIs
    rw [heap_alloc_new, hl]; rfl
  have := map_insert (P := Tryd.prog) intK_ok Tryd.underlying96 hm k v hk
  have e : formsL.take j ++ [(k, v)] = formsL.take (j + 1) := by rw [List.take_add_one, he]; rfl
  rw [e] at this
  have e2 := putMap_alloc (w := w) (kv := intK) (es := formsL.take j) (fs := formsL.take (j + 1))
  rw [hl, hl2] at e2
  exact this.trans (by rw [show (w.alloc (.map (formsE j) j)) = w.alloc (.map (entL intK (formsL.take j) 0).toArray j) from rfl, e2]; rfl)

set_option maxRecDepth 100000 in
theorem kind_forms (w : World) :
    Calls Tryd.prog 54 #[] w fun e w' => ∃ r, MapIs w' r intK formsL ∧ r < w'.heap.size ∧ Below w.heap.size w w' ∧ e = .returned (.map (some r)) := by
  have hmm := @run_makeMap Tryd.prog
  have h0 := forms_step w 0 (by omega) 1 (.agg #[.string ⟨#[105, 110, 116, 51, 50]⟩, .int .i64 0, .int .i64 32]) rfl rfl
  have h1 := forms_step w 1 (by omega) 2 (.agg #[.string ⟨#[105, 110, 116, 54, 52]⟩, .int .i64 0, .int .i64 64]) rfl rfl
  have h2 := forms_step w 2 (by omega) 3 (.agg #[.string ⟨#[117, 105, 110, 116, 51, 50]⟩, .int .i64 0, .int .i64 32]) rfl rfl
  have h3 := forms_step w 3 (by omega) 4 (.agg #[.string ⟨#[117, 105, 110, 116, 54, 52]⟩, .int .i64 0, .int .i64 64]) rfl rfl
  have h4 := forms_step w 4 (by omega) 5 (.agg #[.string ⟨#[115, 105, 110, 116, 51, 50]⟩, .int .i64 0, .int .i64 32]) rfl rfl
  have h5 := forms_step w 5 (by omega) 6 (.agg #[.string ⟨#[115, 105, 110, 116, 54, 52]⟩, .int .i64 0, .int .i64 64]) rfl rfl
  have h6 := forms_step w 6 (by omega) 7 (.agg #[.string ⟨#[98, 111, 111, 108]⟩, .int .i64 0, .int .i64 1]) rfl rfl
  have h7 := forms_step w 7 (by omega) 8 (.agg #[.string ⟨#[101, 110, 117, 109]⟩, .int .i64 0, .int .i64 32]) rfl rfl
  have h8 := forms_step w 8 (by omega) 9 (.agg #[.string ⟨#[102, 105, 120, 101, 100, 51, 50]⟩, .int .i64 5, .int .i64 32]) rfl rfl
  have h9 := forms_step w 9 (by omega) 10 (.agg #[.string ⟨#[115, 102, 105, 120, 101, 100, 51, 50]⟩, .int .i64 5, .int .i64 32]) rfl rfl
  have h10 := forms_step w 10 (by omega) 11 (.agg #[.string ⟨#[102, 108, 111, 97, 116]⟩, .int .i64 5, .int .i64 32]) rfl rfl
  have h11 := forms_step w 11 (by omega) 12 (.agg #[.string ⟨#[102, 105, 120, 101, 100, 54, 52]⟩, .int .i64 1, .int .i64 64]) rfl rfl
  have h12 := forms_step w 12 (by omega) 13 (.agg #[.string ⟨#[115, 102, 105, 120, 101, 100, 54, 52]⟩, .int .i64 1, .int .i64 64]) rfl rfl
  have h13 := forms_step w 13 (by omega) 14 (.agg #[.string ⟨#[100, 111, 117, 98, 108, 101]⟩, .int .i64 1, .int .i64 64]) rfl rfl
  have h14 := forms_step w 14 (by omega) 15 (.agg #[.string ⟨#[115, 116, 114, 105, 110, 103]⟩, .int .i64 2, .int .i64 0]) rfl rfl
  have h15 := forms_step w 15 (by omega) 16 (.agg #[.string ⟨#[98, 121, 116, 101, 115]⟩, .int .i64 2, .int .i64 0]) rfl rfl
  have h16 := forms_step w 16 (by omega) 17 (.agg #[.string ⟨#[109, 101, 115, 115, 97, 103, 101]⟩, .int .i64 2, .int .i64 0]) rfl rfl
  have e0 : formsE 0 = #[] := rfl
  rw [e0] at h0
  clear e0
  simp only [Nat.zero_add, Nat.reduceAdd] at *
  go_enter Tryd.func54, Tryd.ntmps54
  go_wp2
  go_ret
  refine ⟨w.heap.size, ?_, by simp, by (repeat (first | with_reducible exact Below.refl _ _ | with_reducible refine Below.setCell ?_ (by first | omega | (simp; omega) | (simp; done)) _ | with_reducible refine Below.alloc ?_ (by first | omega | (simp; omega) | (simp; done)) _ | with_reducible refine below_drewN ?_ _ | with_reducible refine Below.drew ?_)), rfl⟩
  unfold MapIs
  rw [heap_alloc_new]; rfl

def kname (k : Int) : ByteArray := 
  if k = 1 then ⟨#[105, 110, 116, 51, 50]⟩ else if k = 2 then ⟨#[105, 110, 116, 54, 52]⟩ else if k = 3 then ⟨#[117, 105, 110, 116, 51, 50]⟩ else if k = 4 then ⟨#[117, 105, 110, 116, 54, 52]⟩ else if k = 5 then ⟨#[115, 105, 110, 116, 51, 50]⟩ else if k = 6 then ⟨#[115, 105, 110, 116, 54, 52]⟩ else if k = 7 then ⟨#[98, 111, 111, 108]⟩ else if k = 8 then ⟨#[101, 110, 117, 109]⟩ else if k = 9 then ⟨#[102, 105, 120, 101, 100, 51, 50]⟩ else if k = 10 then ⟨#[115, 102, 105, 120, 101, 100, 51, 50]⟩ else if k = 11 then ⟨#[102, 108, 111, 97, 116]⟩ else if k = 12 then ⟨#[102, 105, 120, 101, 100, 54, 52]⟩ else if k = 13 then ⟨#[115, 102, 105, 120, 101, 100, 54, 52]⟩ else if k = 14 then ⟨#[100, 111, 117, 98, 108, 101]⟩ else if k = 15 then ⟨#[115, 116, 114, 105, 110, 103]⟩ else if k = 16 then ⟨#[98, 121, 116, 101, 115]⟩ else if k = 17 then ⟨#[109, 101, 115, 115, 97, 103, 101]⟩ else ⟨#[]⟩

theorem getOf_forms (k : Int) : getOf k formsL = if kright k then some (.agg #[.string (kname k), .int .i64 (kwire k), .int .i64 (kbits k)]) else none := by
  by_cases h : 1 ≤ k ∧ k ≤ 17
  · rcases (show k = 1 ∨ k = 2 ∨ k = 3 ∨ k = 4 ∨ k = 5 ∨ k = 6 ∨ k = 7 ∨ k = 8 ∨ k = 9 ∨ k = 10 ∨ k = 11 ∨ k = 12 ∨ k = 13 ∨ k = 14 ∨ k = 15 ∨ k = 16 ∨ k = 17 by omega) with rfl | rfl | rfl | rfl | rfl | rfl | rfl | rfl | rfl | rfl | rfl | rfl | rfl | rfl | rfl | rfl | rfl
    all_goals rfl
  · have hr : kright k = false := by simp [kright]; omega
    rw [hr]
    simp only [formsL, getOf]
    simp only [Bool.false_eq_true, if_false]
    repeat (rw [if_neg (by omega)])

theorem form_zero (w : World) : (zeroValue 94).run Tryd.prog w = .ok (.agg #[.string ⟨#[]⟩, .int .i64 0, .int .i64 0]) w := by kernel_rfl

set_option maxRecDepth 100000 in
theorem kind_Wire (k : Int) (w : World) :
    Calls Tryd.prog 53 #[.int .i64 k] w fun e w' => e = .returned (.tuple #[.int .i64 (kwire k), .int .u8 (if kright k then 0 else 2)]) ∧ Below w.heap.size w w' := by
  by_cases h : kright k = true
  · rw [if_pos h]
    go_enter Tryd.func53, Tryd.ntmps53
    go_wp2_with fail
    refine (kind_forms _).mono ?_
    rintro e w1 ⟨r, hm, hr, hb, rfl⟩
    have hz : w.heap.size ≤ w1.heap.size := hb.size
    have hl := map_lookup (P := Tryd.prog) intK_ok Tryd.underlying96 form_zero hm k true
    rw [getOf_forms, if_pos h] at hl
    simp only [if_true, Option.getD_some, Option.isSome_some, intK] at hl
    go_wp2
    go_ret2
    exact ⟨rfl, by (repeat (first | with_reducible exact Below.refl _ _ | with_reducible refine Below.setCell ?_ (by first | omega | (simp; omega) | (simp; done)) _ | with_reducible refine Below.alloc ?_ (by first | omega | (simp; omega) | (simp; done)) _ | with_reducible refine below_drewN ?_ _ | with_reducible refine Below.drew ?_)); exact below_step (Below.refl _ _) hb (Nat.le_refl _)⟩
  · have hk : kwire k = 0 := by
      have : ¬ (1 ≤ k ∧ k ≤ 17) := fun e => h (by simp [kright, e])
      unfold kwire
      rw [if_pos (by omega)]
    rw [if_neg h, hk]
    clear hk
    go_enter Tryd.func53, Tryd.ntmps53
    go_wp2_with fail
    refine (kind_forms _).mono ?_
    rintro e w1 ⟨r, hm, hr, hb, rfl⟩
    have hz : w.heap.size ≤ w1.heap.size := hb.size
    have hl := map_lookup (P := Tryd.prog) intK_ok Tryd.underlying96 form_zero hm k true
    rw [getOf_forms, if_neg h] at hl
    simp only [if_true, Option.getD_none, Option.isSome_none, intK] at hl
    go_wp2
    go_ret2
    exact ⟨rfl, by (repeat (first | with_reducible exact Below.refl _ _ | with_reducible refine Below.setCell ?_ (by first | omega | (simp; omega) | (simp; done)) _ | with_reducible refine Below.alloc ?_ (by first | omega | (simp; omega) | (simp; done)) _ | with_reducible refine below_drewN ?_ _ | with_reducible refine Below.drew ?_)); exact below_step (Below.refl _ _) hb (Nat.le_refl _)⟩

theorem knumber_eq (k : Int) : knumber k = (kright k && decide (kwire k ≠ 2)) := by
  unfold knumber kright kwire
  by_cases h : k < 1 ∨ 17 < k
  · rw [if_pos h, decide_eq_false (by omega), decide_eq_false (show ¬ (1 ≤ k ∧ k ≤ 17) by omega)]; rfl
  · rw [if_neg h]
    by_cases h15 : 15 ≤ k
    · rw [if_pos h15, decide_eq_false (by omega)]; simp
    · rw [if_neg h15, decide_eq_true (show 1 ≤ k ∧ k ≤ 14 by omega), decide_eq_true (show 1 ≤ k ∧ k ≤ 17 by omega)]
      split
      · rfl
      · split <;> rfl

set_option maxRecDepth 100000 in
theorem kind_Number (k : Int) (w : World) :
    Calls Tryd.prog 50 #[.int .i64 k] w fun e w' => e = .returned (.bool (knumber k)) ∧ Below w.heap.size w w' := by
  rw [knumber_eq]
  obtain ⟨x, HX⟩ : ∃ x, Hid (x = kwire k) := ⟨_, rfl⟩
  rw [← HX.out]
  cases h : kright k with
  | false =>
    have H := hid h
    clear h
    go_enter Tryd.func50, Tryd.ntmps50
    go_wp2_with (go_at_call 53; refine (kind_Wire _ _).mono ?_; rintro e w' ⟨rfl, hb⟩; rw [H.out, ← HX.out])
    go_ret
    exact ⟨rfl, hb⟩
  | true =>
    have H := hid h
    clear h
    go_enter Tryd.func50, Tryd.ntmps50
    go_wp2_with (go_at_call 53; refine (kind_Wire _ _).mono ?_; rintro e w' ⟨rfl, hb⟩; rw [H.out, ← HX.out])
    go_ret
    refine ⟨ret1 ?_, hb⟩
    show Value.bool ((x : Int) != 2) = _
    congr 1
    rw [Bool.eq_iff_iff]
    simp
    omega

set_option maxRecDepth 100000 in
theorem kind_Right (k : Int) (w : World) :
    Calls Tryd.prog 49 #[.int .i64 k] w fun e w' => e = .returned (.bool (kright k)) ∧ w = w' := by
  have H : Hid (kright k = (decide (1 ≤ k) && decide (k ≤ 17))) := by simp [Hid, kright]
  by_cases h1 : 1 ≤ k
  all_goals
    go_enter Tryd.func49, Tryd.ntmps49
    go_wp2
    go_ret
    refine ⟨ret1 ?_, rfl⟩
    rw [H.out]
    simp [h1] <;> omega

end Go.Proofs.YtgephhmkaonahaaDoor

namespace Go.Proofs.YtgephhmkaonahaaDoor
open Go.RowKit

def metK (k : Int × ByteArray × Int) : Value := .agg #[.int .i64 k.1, .string k.2.1, .int .i64 k.2.2]
def strK (s : ByteArray) : Value := .string s

theorem toList_inj (a b : ByteArray) : a.toList = b.toList ↔ a = b := by
  constructor
  · intro h
    rw [ByteArray.toList_eq, ByteArray.toList_eq] at h
    apply ByteArray.ext
    exact Array.toList_inj.1 h
  · rintro rfl; rfl

theorem met_equal (w : World) (a b : Int × ByteArray × Int) : (Op.equal 89 (metK a) (metK b)).run Tryd.prog w = .ok (decide (a = b)) w := by
  obtain ⟨a1, a2, a3⟩ := a
  obtain ⟨b1, b2, b3⟩ := b
  have hp : Tryd.prog.stoodInHeld 89 = false := by kernel_rfl
  simp only [metK]
  simp [Op.equal, Op.maxDepth, go_sem, hp, toList_inj]
  by_cases h1 : a1 = b1 <;> by_cases h2 : a2 = b2 <;> by_cases h3 : a3 = b3 <;> simp [h1, h2, h3]

theorem met_asking (w : World) (k : Int × ByteArray × Int) : ∀ (es : List ((Int × ByteArray × Int) × Value)) (i j : Nat),
    (Instr.findAsking 89 (metK k) (entL metK es i) j).run Tryd.prog w = .ok (posOf k es j) w
  | [], _, _ => rfl
  | (k', v) :: r, i, j => by
    simp only [entL, Instr.findAsking, Sem.run_bind, met_equal, Result.andThen, posOf]
    by_cases e : k = k'
    · simp [e, Sem.run_pure]
    · simp [e, met_asking w k r (i + 1) (j + 1)]

theorem met_check (w : World) (e : Bool) (k : Int × ByteArray × Int) : (Instr.checkKey e 10000 89 (metK k)).run Tryd.prog w = .ok () w := by
  obtain ⟨a1, a2, a3⟩ := k
  kernel_rfl

theorem met_ok : KeyOk Tryd.prog 89 metK where
  check w e k := met_check w e k
  find w k es i := by
    have hk := met_asking w k es i 0
    cases es with
    | nil => simp [Instr.findKey, entL, Instr.findNow, posOf, run_underlying Tryd.underlying89, Result.andThen]
    | cons x r =>
      obtain ⟨k', v⟩ := x
      have hn : ∀ (kind : TypeDesc) (l : List MapEntry) (j : Nat), Instr.findNow kind (metK k) (⟨metK k', v, i⟩ :: l) j = none := by
        intro kind l j
        have : Instr.sameNow kind (metK k) (metK k') = none := by cases kind <;> rfl
        simp only [Instr.findNow, this]
      rw [entL] at hk ⊢
      simp only [Instr.findKey, Sem.run_bind, run_underlying Tryd.underlying89, Result.andThen, hn]
      exact hk

theorem str_ok : KeyOk Tryd.prog 9 strK := keyOk_now Tryd.underlying9 (fun k => by simp [strK, MapKept.IsKey]) (fun k k' => by
  obtain ⟨r, h1, h2⟩ := MapKept.sameNow_of_keys (d := .string) (a := strK k) (b := strK k') (by simp [strK, MapKept.IsKey]) (by simp [strK, MapKept.IsKey])
  rw [h1]
  congr 1
  rw [Bool.eq_iff_iff, h2]
  simp [strK])

theorem modify_last {α : Type} (f : α → α) (x : α) : ∀ l : List α, (l ++ [x]).modify l.length f = l ++ [f x]
  | [] => rfl
  | y :: l => by simp [List.modify_succ_cons, modify_last f x l]

/-! m[k]++ of a new key -/
section
variable {K : Type} {P : Program} {t kt et : TypeId} {kv : K → Value}

theorem getOf_append [DecidableEq K] (k : K) : ∀ (es fs : List (K × Value)), getOf k (es ++ fs) = (getOf k es).orElse fun _ => getOf k fs
  | [], _ => rfl
  | (k', v) :: r, fs => by
    simp only [List.cons_append, getOf]
    split
    · rfl
    · exact getOf_append k r fs

theorem map_entry_new [DecidableEq K] (KO : KeyOk P kt kv) (ht : P.underlying t = some (.map kt et)) {z : Value} (hz : ∀ w : World, (zeroValue et).run P w = .ok z w) {w : World} {r : Nat} {es : List (K × Value)} (h : MapIs w r kv es) (k : K) (hk : getOf k es = none) :
    (Instr.mapEntry t (.map (some r)) (kv k)).run P w = .ok (.tuple #[z, .int .i64 es.length]) (putMap w r kv (es ++ [(k, z)])) := by
  have hf := KO.find w k es 0
  have hp : posOf k es 0 = none := by
    have := posOf_getOf k es 0
    rw [hk] at this
    cases hp : posOf k es 0 with
    | none => rfl
    | some x => rw [hp] at this; simp at this
  rw [hp] at hf
  simp only [Instr.mapEntry, Sem.run_bind, run_underlying ht, Result.andThen, MapKept.run_getObj_map h, KO.check, hf, hz, MapKept.run_setObj_map _ h, putMap, Sem.run_pure]
  congr 4
  · simp [entL_append, entL]
  · simp

theorem born_entL : ∀ (es : List (K × Value)) (i b : Nat), b < i → (entL kv es i).findIdx? (fun e => (e.born : Int) == (b : Int)) = none
  | [], _, _, _ => rfl
  | (k, v) :: r, i, b, h => by
    rw [entL, List.findIdx?_cons]
    have : (((⟨kv k, v, i⟩ : MapEntry).born : Int) == (b : Int)) = false := by simp; omega
    rw [this, born_entL r (i + 1) b (by omega)]
    rfl

theorem born_last : ∀ (es : List (K × Value)) (i : Nat) (k : K) (v : Value), (entL kv (es ++ [(k, v)]) i).findIdx? (fun e => (e.born : Int) == ((i + es.length : Nat) : Int)) = some es.length
  | [], i, k, v => by simp [entL]
  | (k', v') :: r, i, k, v => by
    rw [List.cons_append, entL, List.findIdx?_cons]
    have : (((⟨kv k', v', i⟩ : MapEntry).born : Int) == ((i + (r.length + 1) : Nat) : Int)) = false := by simp; omega
    simp only [List.length_cons, this]
    have ih := born_last r (i + 1) k v
    rw [show i + 1 + r.length = i + (r.length + 1) by omega] at ih
    rw [ih]
    rfl

theorem map_store_new [DecidableEq K] {w : World} {r : Nat} {es : List (K × Value)} {k : K} {z : Value} (h : MapIs w r kv (es ++ [(k, z)])) (v : Value) :
    (Instr.entryStore t (.map (some r)) (.int .i64 es.length) v).run P w = .ok () (putMap w r kv (es ++ [(k, v)])) := by
  have hl := born_last (kv := kv) es 0 k z
  rw [Nat.zero_add] at hl
  have hfi : (entL kv (es ++ [(k, z)]) 0).toArray.findIdx? (fun e => (e.born : Int) == (es.length : Int)) = some es.length := by
    rw [List.findIdx?_toArray]; exact hl
  have hmod : ((entL kv (es ++ [(k, z)]) 0).toArray.modify es.length fun e => { e with val := v }) = (entL kv (es ++ [(k, v)]) 0).toArray := by
    apply Array.toList_inj.1
    rw [Array.toList_modify, entL_append, entL_append]
    simp only [entL]
    have := modify_last (fun e : MapEntry => { e with val := v }) ⟨kv k, z, 0 + es.length⟩ (entL kv es 0)
    rw [entL_len] at this
    exact this
  have ha : (asInt (.int .i64 (es.length : Int))).run P w = .ok (es.length : Int) w := by simp [asInt, asIntOf]
  unfold Instr.entryStore
  simp only [Sem.run_bind, MapKept.run_getObj_map h, Result.andThen, ha]
  rw [hfi]
  simp only [MapKept.run_setObj_map _ h, putMap, hmod]
  simp
end

end Go.Proofs.YtgephhmkaonahaaDoor
