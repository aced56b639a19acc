/- The vocabulary of this seat's walks: what it means that a slice value reads as a list of cells, of bytes; how such readings are carried to later worlds; small laws for the walk. No condition. -/
import Derived.Test.YtgephhmkaonahaaProg
import Derived.WalkKit
import Derived.Deep.QuietTactic
import Derived.BigQuiet
import Derived.WalkSpells
import Derived.WalkLawsBesides
namespace Go.Proofs.Ytgephhmkaonahaa
open Go.RowKit

theorem hid {p : Prop} (h : p) : Hid p := h

/-- The slice value v of n elements (size cells each) reads as the cells xs in w. -/
def Seg (w : World) (v : Value) (size n : Nat) (xs : List Value) : Prop :=
  xs.length = n * size ∧ n ≤ 140737488355328 ∧ ∃ a cap, v = .slice a n cap ∧ n ≤ cap ∧ cap ≤ 9223372036854775807 ∧ (a = none → cap = 0) ∧
    ∀ j u, xs[j]? = some u → ∃ b o, a = some ⟨b, o, none⟩ ∧ w.cell? ⟨b, o + j, none⟩ = some u

/-- A []byte. -/
def byteV (c : UInt8) : Value := .int .u8 (c.toNat : Int)
def Bytes (w : World) (v : Value) (l : List UInt8) : Prop := Seg w v 1 l.length (l.map byteV)

theorem Seg.keep {w w' : World} {v : Value} {size n : Nat} {xs : List Value} (h : Seg w v size n xs) (hk : ∀ p u, w.cell? p = some u → w'.cell? p = some u) : Seg w' v size n xs := by
  obtain ⟨h1, h2, a, cap, hv, h3, h4, h5, h6⟩ := h
  exact ⟨h1, h2, a, cap, hv, h3, h4, h5, fun j u hu => let ⟨b, o, ha, hc⟩ := h6 j u hu; ⟨b, o, ha, hk _ _ hc⟩⟩

theorem below_keeps {w w' : World} (h : Below w.heap.size w w') : ∀ p u, w.cell? p = some u → w'.cell? p = some u := fun p _ hu =>
  (Below.cell h (World.block_lt_of_cell? w p hu)).trans hu

theorem Seg.below {w w' : World} {v : Value} {size n : Nat} {xs : List Value} (h : Seg w v size n xs) (hb : Below w.heap.size w w') : Seg w' v size n xs := h.keep (below_keeps hb)
theorem Bytes.below {w w' : World} {v : Value} {l : List UInt8} (h : Bytes w v l) (hb : Below w.heap.size w w') : Bytes w' v l := Seg.below h hb

theorem addr_add (b o k : Nat) : (⟨b, o, none⟩ : Addr).add k = ⟨b, o + k, none⟩ := by unfold Addr.add; split <;> simp_all

/-- What a walk wants of a []byte: its form, and at each place the address and the cell. -/
theorem Bytes.open {w : World} {v : Value} {l : List UInt8} (h : Bytes w v l) :
    l.length ≤ 140737488355328 ∧ ∃ a cap, v = .slice a l.length cap ∧ l.length ≤ cap ∧ cap ≤ 9223372036854775807 ∧ (a = none → cap = 0) ∧
      ∀ k, k < l.length → ∃ b o, a = some ⟨b, o, none⟩ ∧ w.cell? ⟨b, o + k, none⟩ = some (.int .u8 ((l.getD k 0).toNat : Int)) := by
  obtain ⟨_, h2, a, cap, hv, h3, h4, h5, h6⟩ := h
  refine ⟨h2, a, cap, hv, h3, h4, h5, fun k hk => ?_⟩
  refine h6 k _ ?_
  simp [List.getD, hk, byteV]

/-- The address of the k-th element, as an equation for the walk. -/
theorem index_run {P : Program} {t e : TypeId} {s : Nat} (ht : P.underlying t = some (.slice e)) (hs : ∀ w : World, (sizeOf e).run P w = .ok s w) {a : Option Addr} {b o len cap : Nat} (ha : a = some ⟨b, o, none⟩) (k : Nat) (hk : k < len) (w : World) :
    (Instr.indexAt t (.slice a len cap) (.int .i64 (k : Int))).run P w = .ok (.pointer (some ⟨b, o + k * s, none⟩)) w := by
  subst ha
  have ht' : P.underlying t = some (.slice (P.elem t)) := by rw [ht]; simp [Program.elem, ht]
  have he : P.elem t = e := by rw [ht] at ht'; cases ht'; rfl
  rw [run_indexAt_slice (h := ht'), if_pos (by omega), he, hs]
  simp [Result.andThen, addr_add]

theorem index_run1 {P : Program} {t e : TypeId} (ht : P.underlying t = some (.slice e)) (hs : ∀ w : World, (sizeOf e).run P w = .ok 1 w) {a : Option Addr} {b o len cap : Nat} (ha : a = some ⟨b, o, none⟩) (k : Nat) (hk : k < len) (w : World) :
    (Instr.indexAt t (.slice a len cap) (.int .i64 (k : Int))).run P w = .ok (.pointer (some ⟨b, o + k, none⟩)) w := by
  have := index_run ht hs ha k hk w (cap := cap)
  rwa [Nat.mul_one] at this

theorem size_u8 (w : World) : (sizeOf 5).run Try.prog w = .ok 1 w := by kernel_rfl
theorem under_bytes : Try.prog.underlying 22 = some (.slice 5) := Try.underlying22

theorem ret3 {a b c a' b' c' : Value} (ha : a = a') (hb : b = b') (hc : c = c') : Ending.returned (.tuple #[a, b, c]) = .returned (.tuple #[a', b', c']) := by rw [ha, hb, hc]
theorem ret2 {a b a' b' : Value} (ha : a = a') (hb : b = b') : Ending.returned (.tuple #[a, b]) = .returned (.tuple #[a', b']) := by rw [ha, hb]
theorem ret1 {a a' : Value} (ha : a = a') : Ending.returned a = .returned a' := by rw [ha]
theorem int_eq {k : IntKind} {a b : Int} (h : a = b) : Value.int k a = .int k b := by rw [h]

theorem bcell {W w1 : World} (hb : Below W.heap.size W w1) : (∀ b o, b < W.heap.size → w1.cell? ⟨b, o, none⟩ = W.cell? ⟨b, o, none⟩) ∧ (∀ b o, b < W.heap.size → w1.frozen? ⟨b, o, none⟩ = W.frozen? ⟨b, o, none⟩) :=
  ⟨fun b o h => hb.cell (p := ⟨b, o, none⟩) h, fun b o h => hb.frozen (p := ⟨b, o, none⟩) h⟩

/-! A slice of a slice -/
theorem Seg.sub {w : World} {a : Option Addr} {size n cap : Nat} {xs : List Value} (h : Seg w (.slice a n cap) size n xs) (i j : Nat) (hij : i ≤ j) (hj : j ≤ n) :
    Seg w (sliced a i j cap size) size (j - i) ((xs.drop (i * size)).take ((j - i) * size)) := by
  obtain ⟨h1, h2, a', cap', hv, h3, h4, h5, h6⟩ := h
  cases hv
  refine ⟨?_, by omega, _, _, rfl, by omega, by omega, ?_, ?_⟩
  · rw [List.length_take, List.length_drop, h1]
    have e1 : n * size - i * size = (n - i) * size := (Nat.sub_mul _ _ _).symm
    have : (j - i) * size ≤ (n - i) * size := Nat.mul_le_mul_right _ (by omega)
    omega
  · intro ha
    split at ha
    · omega
    · have : a = none := by cases a <;> simp_all
      have := h5 this
      omega
  · intro k u hu
    rw [List.getElem?_take] at hu
    split at hu
    · rename_i hk
      rw [List.getElem?_drop] at hu
      obtain ⟨b, o, ha, hc⟩ := h6 _ _ hu
      have hne : cap ≠ i := by
        intro e
        have : j - i = 0 := by omega
        simp [this] at hk
      refine ⟨b, o + i * size, ?_, by rw [Nat.add_assoc]; exact hc⟩
      rw [if_neg hne, ha]
      simp [addr_add]
    · cases hu

theorem slice_lh_run {P : Program} {t e : TypeId} {s : Nat} (ht : P.underlying t = some (.slice e)) (hs : ∀ w : World, (sizeOf e).run P w = .ok s w) (a : Option Addr) (len cap i j : Nat) (hij : i ≤ j) (hj : j ≤ cap) (W : World) :
    (Instr.slice t (.slice a len cap) (some (.int .i64 (i : Int))) (some (.int .i64 (j : Int))) none).run P W = .ok (sliced a i j cap s) W := by
  have ht' : P.underlying t = some (.slice (P.elem t)) := by rw [ht]; simp [Program.elem, ht]
  have he : P.elem t = e := by rw [ht] at ht'; cases ht'; rfl
  rw [run_slice_lh (ht := ht') (h0 := by omega) (h1 := by omega) (h2 := by omega), he, hs]
  simp [Result.andThen]
theorem slice_l_run {P : Program} {t e : TypeId} {s : Nat} (ht : P.underlying t = some (.slice e)) (hs : ∀ w : World, (sizeOf e).run P w = .ok s w) (a : Option Addr) (len cap i : Nat) (hi : i ≤ len) (W : World) :
    (Instr.slice t (.slice a len cap) (some (.int .i64 (i : Int))) none none).run P W = .ok (sliced a i len cap s) W := by
  have ht' : P.underlying t = some (.slice (P.elem t)) := by rw [ht]; simp [Program.elem, ht]
  have he : P.elem t = e := by rw [ht] at ht'; cases ht'; rfl
  rw [run_slice_l (ht := ht') (h0 := by omega) (h1 := by omega), he, hs]
  simp [Result.andThen]
theorem slice_h_run {P : Program} {t e : TypeId} {s : Nat} (ht : P.underlying t = some (.slice e)) (hs : ∀ w : World, (sizeOf e).run P w = .ok s w) (a : Option Addr) (len cap j : Nat) (hj : j ≤ cap) (W : World) :
    (Instr.slice t (.slice a len cap) none (some (.int .i64 (j : Int))) none).run P W = .ok (sliced a 0 j cap s) W := by
  have ht' : P.underlying t = some (.slice (P.elem t)) := by rw [ht]; simp [Program.elem, ht]
  have he : P.elem t = e := by rw [ht] at ht'; cases ht'; rfl
  rw [run_slice_h (ht := ht') (h0 := by omega) (h2 := by omega), he, hs]
  simp [Result.andThen]

/-- b[i:j] of bytes: the value, and what it reads as. -/
theorem Bytes.lh {w : World} {a : Option Addr} {n cap : Nat} {l : List UInt8} (h : Bytes w (.slice a n cap) l) (hn : n = l.length) (i j : Nat) (hij : i ≤ j) (hj : j ≤ n) :
    ∃ v', (∀ W, (Instr.slice 22 (.slice a n cap) (some (.int .i64 (i : Int))) (some (.int .i64 (j : Int))) none).run Try.prog W = .ok v' W) ∧ Bytes w v' ((l.drop i).take (j - i)) := by
  subst hn
  have hcap : l.length ≤ cap := by obtain ⟨_, _, a', cap', hv, h3, _⟩ := h; cases hv; exact h3
  refine ⟨_, fun W => slice_lh_run under_bytes size_u8 a _ cap i j hij (by omega) W, ?_⟩
  have hs := Seg.sub h i j hij hj
  unfold Bytes
  rw [List.length_take, List.length_drop, Nat.min_eq_left (by omega), List.map_take, List.map_drop]
  simpa using hs
theorem Bytes.l {w : World} {a : Option Addr} {n cap : Nat} {l : List UInt8} (h : Bytes w (.slice a n cap) l) (hn : n = l.length) (i : Nat) (hi : i ≤ n) :
    ∃ v', (∀ W, (Instr.slice 22 (.slice a n cap) (some (.int .i64 (i : Int))) none none).run Try.prog W = .ok v' W) ∧ Bytes w v' (l.drop i) := by
  subst hn
  refine ⟨_, fun W => slice_l_run under_bytes size_u8 a _ cap i hi W, ?_⟩
  have hs := Seg.sub h i l.length hi (Nat.le_refl _)
  unfold Bytes
  rw [List.length_drop, List.map_drop]
  rw [Nat.mul_one, Nat.mul_one, List.take_of_length_le (by simp)] at hs
  exact hs
theorem Bytes.h {w : World} {a : Option Addr} {n cap : Nat} {l : List UInt8} (h : Bytes w (.slice a n cap) l) (hn : n = l.length) (j : Nat) (hj : j ≤ n) :
    ∃ v', (∀ W, (Instr.slice 22 (.slice a n cap) none (some (.int .i64 (j : Int))) none).run Try.prog W = .ok v' W) ∧ Bytes w v' (l.take j) := by
  subst hn
  have hcap : l.length ≤ cap := by obtain ⟨_, _, a', cap', hv, h3, _⟩ := h; cases hv; exact h3
  refine ⟨_, fun W => slice_h_run under_bytes size_u8 a _ cap j (by omega) W, ?_⟩
  have hs := Seg.sub h 0 j (by omega) hj
  unfold Bytes
  rw [List.length_take, Nat.min_eq_left (by omega), List.map_take]
  simpa using hs

theorem cell_drewN (w : World) (n : Nat) (p : Addr) : (w.drewN n).cell? p = w.cell? p := rfl
theorem Bytes.drewN {w : World} {v : Value} {l : List UInt8} (h : Bytes w v l) (n : Nat) : Bytes (w.drewN n) v l := Seg.keep h fun _ _ hu => hu
theorem Seg.drewN {w : World} {v : Value} {size n : Nat} {xs : List Value} (h : Seg w v size n xs) (k : Nat) : Seg (w.drewN k) v size n xs := Seg.keep h fun _ _ hu => hu

/-- A contract that leaves the world alone, at a call inside a region that draws. -/
theorem quiet_eq {P : Program} {f : FuncId} {args : Array Value} {w : World} {n : Nat} {v : Value}
    (h : Calls P f args (w.drewN n) fun e w' => e = .returned v ∧ w.drewN n = w') : Calls P f args (w.drewN n) fun e w'' => e = .returned v ∧ ∃ m, w'' = w.drewN m :=
  h.mono fun _ _ ⟨he, hm⟩ => ⟨he, n, hm.symm⟩
theorem below_drewN {w w' : World} {B : Nat} (h : Below B w w') (n : Nat) : Below B w (w'.drewN n) := ⟨h.os, h.tape, h.output, h.size, h.block⟩
theorem ret_agg5 {a b c d e a' b' c' d' e' : Int} (h1 : a = a') (h2 : b = b') (h3 : c = c') (h4 : d = d') (h5 : e = e') : Value.agg #[.int .i64 a, .int .i64 b, .int .i64 c, .int .i64 d, .int .i64 e] = .agg #[.int .i64 a', .int .i64 b', .int .i64 c', .int .i64 d', .int .i64 e'] := by rw [h1, h2, h3, h4, h5]

/-- Behind a block of one's own and a callee: below all that was there, nothing has turned. -/
theorem below_new {w w1 : World} {o : Obj} (hb : Below (w.alloc o).heap.size (w.alloc o) w1) : Below w.heap.size w w1 :=
  ((Below.refl _ _).alloc (Nat.le_refl _) _).trans (hb.mono (by simp))
theorem below_step {B : Nat} {w w1 w2 : World} (h : Below B w w1) (hb : Below w1.heap.size w1 w2) (hB : B ≤ w1.heap.size) : Below B w w2 := h.trans (hb.mono hB)

/-- b[i:j] of bytes: the value written out, its address and cell at each place, and what it reads as. -/
theorem Bytes.cut {w : World} {a : Option Addr} {n cap : Nat} {l : List UInt8} (h : Bytes w (.slice a n cap) l) (hn : n = l.length) (i j : Nat) (hij : i ≤ j) (hj : j ≤ n) :
    ∃ a' cap', (∀ W, (Instr.slice 22 (.slice a n cap) (some (.int .i64 (i : Int))) (some (.int .i64 (j : Int))) none).run Try.prog W = .ok (.slice a' (j - i) cap') W) ∧
      (∀ k, k < j - i → ∃ b o, a' = some ⟨b, o, none⟩ ∧ w.cell? ⟨b, o + k, none⟩ = some (.int .u8 ((l.getD (i + k) 0).toNat : Int))) ∧ Bytes w (.slice a' (j - i) cap') ((l.drop i).take (j - i)) := by
  obtain ⟨v', hr, hb⟩ := h.lh hn i j hij hj
  have hb' := hb
  obtain ⟨_, a', cap', rfl, _, _, _, hc⟩ := hb.open
  have hl : ((l.drop i).take (j - i)).length = j - i := by rw [List.length_take, List.length_drop]; omega
  rw [hl] at hr hb' hc
  refine ⟨a', cap', hr, fun k hk => ?_, hb'⟩
  obtain ⟨b, o, ha, hcell⟩ := hc k hk
  refine ⟨b, o, ha, hcell.trans ?_⟩
  simp [List.getD, hk, List.getElem?_drop]

theorem index_0 {P : Program} {t e : TypeId} (ht : P.underlying t = some (.slice e)) (hs : ∀ w : World, (sizeOf e).run P w = .ok 1 w) {a : Option Addr} {b o len cap : Nat} (ha : a = some ⟨b, o, none⟩) (hk : 0 < len) (w : World) :
    (Instr.indexAt t (.slice a len cap) (.int .i64 0)).run P w = .ok (.pointer (some ⟨b, o, none⟩)) w := index_run1 ht hs ha 0 hk w

/-! string(b) -/
theorem foldl_push (l : List UInt8) (s : ByteArray) : (l.map fun c => (c.toNat : Int)).foldl (fun r n => r.push (UInt8.ofNat n.toNat)) s = ⟨s.data ++ l.toArray⟩ := by
  induction l generalizing s with
  | nil => simp
  | cons c t ih =>
    rw [List.map_cons, List.foldl_cons, ih]
    apply ByteArray.ext
    simp [ByteArray.push]

theorem Bytes.str {w : World} {v : Value} {l : List UInt8} (h : Bytes w v l) : (convert 22 9 v).run Try.prog w = .ok (.string ⟨l.toArray⟩) w := by
  obtain ⟨h1, h2, a, cap, rfl, h3, h4, h5, h6⟩ := h
  rw [run_convert_bytes_string w _ _ 5 a l.length cap under_bytes Try.underlying5 Try.underlying9]
  have hmap : l.map byteV = (l.map fun c => (c.toNat : Int)).map (Value.int .u8) := by simp [byteV]
  cases ha : a with
  | none =>
    have := h5 ha
    obtain rfl : l = [] := List.eq_nil_of_length_eq_zero (by omega)
    rfl
  | some ad =>
    have hl := run_loadCells_list (P := Try.prog) (w := w) ad (l.map byteV) (fun j u hu => by
      obtain ⟨b, o, e, hc⟩ := h6 j u hu
      rw [ha] at e
      cases e
      rw [addr_add]; exact hc)
    rw [List.length_map, hmap] at hl
    rw [run_bytesToString w ad l.length cap _ hl, foldl_push]
    simp

/-- A block of one's own bytes. -/
theorem bytes_new (w : World) (T : TypeId) (cells : Array Value) (l : List UInt8) (h : cells.toList = l.map byteV) (hl : l.length ≤ 140737488355328) :
    Bytes (w.alloc (.cells cells T)) (.slice (some ⟨w.heap.size, 0, none⟩) l.length l.length) l := by
  refine ⟨by simp, hl, _, _, rfl, Nat.le_refl _, by omega, by simp, fun j u hu => ⟨_, _, rfl, ?_⟩⟩
  rw [Nat.zero_add, cell_of_row _ _ _ cells T (0, 0) (heap_alloc_new w _)]
  rw [← h] at hu
  simpa using hu
theorem bytes_nil (w : World) : Bytes w (.slice none 0 0) [] := ⟨rfl, by simp, _, _, rfl, Nat.le_refl _, by omega, fun _ => rfl, fun j u hu => by simp at hu⟩

end Go.Proofs.Ytgephhmkaonahaa
