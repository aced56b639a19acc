/- The vocabulary of this seat's walks: what it means that a slice value reads as a list of cells, of bytes; how such readings are carried to later worlds; small laws for the walk. No condition. Plain law: what a varint's bytes tell, in two spellings (one pass from the first piece; all pieces from the last). No program in sight. No condition. What varint.Read, varint.Skip and the document's Read of a varint return on any bytes: vread. No condition beyond that the argument reads as bytes. What the document's Read of a varint at a place returns: vread of the bytes from that place on. The place is no more than the bytes' number. What tag.Right, tag.Read and the document's Right and Read of tags return on any bytes: tread. No condition beyond that the argument reads as bytes. -/
import Derived.Test.YtaefpjecalnbcaaGreatProg
import Derived.WalkKit
import Derived.Deep.QuietTactic
import Derived.BigQuiet
import Derived.WalkSpells
import Derived.WalkLawsBesides
import Init
namespace Go.Proofs.YtaefpjecalnbcaaGreat
open Go.RowKit
theorem hid {p : Prop} (h : p) : Hid p := h
/-- The slice value v of n elements (size cells each) reads as the cells xs in w. -/
def Seg (w : World) (v : Value) (size n : Nat) (xs : List Value) : Prop :=
  xs.length = n * size ∧ n ≤ 140737488355328 ∧ ∃ a cap, v = .slice a n cap ∧ n ≤ cap ∧ cap ≤ 9223372036854775807 ∧ (a = none → cap = 0) ∧
    ∀ j u, xs[j]? = some u → ∃ b o, a = some ⟨b, o, none⟩ ∧ w.cell? ⟨b, o + j, none⟩ = some u
/-- A []byte. -/
def byteV (c : UInt8) : Value := .int .u8 (c.toNat : Int)
def Bytes (w : World) (v : Value) (l : List UInt8) : Prop := Seg w v 1 l.length (l.map byteV)
theorem Seg.keep {w w' : World} {v : Value} {size n : Nat} {xs : List Value} (h : Seg w v size n xs) (hk : ∀ p u, w.cell? p = some u → w'.cell? p = some u) : Seg w' v size n xs := by
  obtain ⟨h1, h2, a, cap, hv, h3, h4, h5, h6⟩ := h
  exact ⟨h1, h2, a, cap, hv, h3, h4, h5, fun j u hu => let ⟨b, o, ha, hc⟩ := h6 j u hu; ⟨b, o, ha, hk _ _ hc⟩⟩
theorem below_keeps {w w' : World} (h : Below w.heap.size w w') : ∀ p u, w.cell? p = some u → w'.cell? p = some u := fun p _ hu =>
  (Below.cell h (World.block_lt_of_cell? w p hu)).trans hu
theorem Seg.below {w w' : World} {v : Value} {size n : Nat} {xs : List Value} (h : Seg w v size n xs) (hb : Below w.heap.size w w') : Seg w' v size n xs := h.keep (below_keeps hb)
theorem Bytes.below {w w' : World} {v : Value} {l : List UInt8} (h : Bytes w v l) (hb : Below w.heap.size w w') : Bytes w' v l := Seg.below h hb
theorem addr_add (b o k : Nat) : (⟨b, o, none⟩ : Addr).add k = ⟨b, o + k, none⟩ := by unfold Addr.add; split <;> simp_all
/-- What a walk wants of a []byte: its form, and at each place the address and the cell. -/
theorem Bytes.open {w : World} {v : Value} {l : List UInt8} (h : Bytes w v l) :
    l.length ≤ 140737488355328 ∧ ∃ a cap, v = .slice a l.length cap ∧ l.length ≤ cap ∧ cap ≤ 9223372036854775807 ∧ (a = none → cap = 0) ∧
      ∀ k, k < l.length → ∃ b o, a = some ⟨b, o, none⟩ ∧ w.cell? ⟨b, o + k, none⟩ = some (.int .u8 ((l.getD k 0).toNat : Int)) := by
  obtain ⟨_, h2, a, cap, hv, h3, h4, h5, h6⟩ := h
  refine ⟨h2, a, cap, hv, h3, h4, h5, fun k hk => ?_⟩
  refine h6 k _ ?_
  simp [List.getD, hk, byteV]
/-- The address of the k-th element, as an equation for the walk. -/
theorem index_run {P : Program} {t e : TypeId} {s : Nat} (ht : P.underlying t = some (.slice e)) (hs : ∀ w : World, (sizeOf e).run P w = .ok s w) {a : Option Addr} {b o len cap : Nat} (ha : a = some ⟨b, o, none⟩) (k : Nat) (hk : k < len) (w : World) :
    (Instr.indexAt t (.slice a len cap) (.int .i64 (k : Int))).run P w = .ok (.pointer (some ⟨b, o + k * s, none⟩)) w := by
  subst ha
  have ht' : P.underlying t = some (.slice (P.elem t)) := by rw [ht]; simp [Program.elem, ht]
  have he : P.elem t = e := by rw [ht] at ht'; cases ht'; rfl
  rw [run_indexAt_slice (h := ht'), if_pos (by omega), he, hs]
  simp [Result.andThen, addr_add]
theorem index_run1 {P : Program} {t e : TypeId} (ht : P.underlying t = some (.slice e)) (hs : ∀ w : World, (sizeOf e).run P w = .ok 1 w) {a : Option Addr} {b o len cap : Nat} (ha : a = some ⟨b, o, none⟩) (k : Nat) (hk : k < len) (w : World) :
    (Instr.indexAt t (.slice a len cap) (.int .i64 (k : Int))).run P w = .ok (.pointer (some ⟨b, o + k, none⟩)) w := by
  have := index_run ht hs ha k hk w (cap := cap)
  rwa [Nat.mul_one] at this
theorem size_u8 (w : World) : (sizeOf 5).run Tryz.prog w = .ok 1 w := by kernel_rfl
theorem under_bytes : Tryz.prog.underlying 99 = some (.slice 5) := Tryz.underlying99
theorem ret3 {a b c a' b' c' : Value} (ha : a = a') (hb : b = b') (hc : c = c') : Ending.returned (.tuple #[a, b, c]) = .returned (.tuple #[a', b', c']) := by rw [ha, hb, hc]
theorem ret2 {a b a' b' : Value} (ha : a = a') (hb : b = b') : Ending.returned (.tuple #[a, b]) = .returned (.tuple #[a', b']) := by rw [ha, hb]
theorem ret1 {a a' : Value} (ha : a = a') : Ending.returned a = .returned a' := by rw [ha]
theorem int_eq {k : IntKind} {a b : Int} (h : a = b) : Value.int k a = .int k b := by rw [h]
theorem bcell {W w1 : World} (hb : Below W.heap.size W w1) : (∀ b o, b < W.heap.size → w1.cell? ⟨b, o, none⟩ = W.cell? ⟨b, o, none⟩) ∧ (∀ b o, b < W.heap.size → w1.frozen? ⟨b, o, none⟩ = W.frozen? ⟨b, o, none⟩) :=
  ⟨fun b o h => hb.cell (p := ⟨b, o, none⟩) h, fun b o h => hb.frozen (p := ⟨b, o, none⟩) h⟩
/-! A slice of a slice -/
theorem Seg.sub {w : World} {a : Option Addr} {size n cap : Nat} {xs : List Value} (h : Seg w (.slice a n cap) size n xs) (i j : Nat) (hij : i ≤ j) (hj : j ≤ n) :
    Seg w (sliced a i j cap size) size (j - i) ((xs.drop (i * size)).take ((j - i) * size)) := by
  obtain ⟨h1, h2, a', cap', hv, h3, h4, h5, h6⟩ := h
  cases hv
  refine ⟨?_, by omega, _, _, rfl, by omega, by omega, ?_, ?_⟩
  · rw [List.length_take, List.length_drop, h1]
    have e1 : n * size - i * size = (n - i) * size := (Nat.sub_mul _ _ _).symm
    have : (j - i) * size ≤ (n - i) * size := Nat.mul_le_mul_right _ (by omega)
    omega
  · intro ha
    split at ha
    · omega
    · have : a = none := by cases a <;> simp_all
      have := h5 this
      omega
  · intro k u hu
    rw [List.getElem?_take] at hu
    split at hu
    · rename_i hk
      rw [List.getElem?_drop] at hu
      obtain ⟨b, o, ha, hc⟩ := h6 _ _ hu
      have hne : cap ≠ i := by
        intro e
        have : j - i = 0 := by omega
        simp [this] at hk
      refine ⟨b, o + i * size, ?_, by rw [Nat.add_assoc]; exact hc⟩
      rw [if_neg hne, ha]
      simp [addr_add]
    · cases hu
theorem slice_lh_run {P : Program} {t e : TypeId} {s : Nat} (ht : P.underlying t = some (.slice e)) (hs : ∀ w : World, (sizeOf e).run P w = .ok s w) (a : Option Addr) (len cap i j : Nat) (hij : i ≤ j) (hj : j ≤ cap) (W : World) :
    (Instr.slice t (.slice a len cap) (some (.int .i64 (i : Int))) (some (.int .i64 (j : Int))) none).run P W = .ok (sliced a i j cap s) W := by
  have ht' : P.underlying t = some (.slice (P.elem t)) := by rw [ht]; simp [Program.elem, ht]
  have he : P.elem t = e := by rw [ht] at ht'; cases ht'; rfl
  rw [run_slice_lh (ht := ht') (h0 := by omega) (h1 := by omega) (h2 := by omega), he, hs]
  simp [Result.andThen]
theorem slice_l_run {P : Program} {t e : TypeId} {s : Nat} (ht : P.underlying t = some (.slice e)) (hs : ∀ w : World, (sizeOf e).run P w = .ok s w) (a : Option Addr) (len cap i : Nat) (hi : i ≤ len) (W : World) :
    (Instr.slice t (.slice a len cap) (some (.int .i64 (i : Int))) none none).run P W = .ok (sliced a i len cap s) W := by
  have ht' : P.underlying t = some (.slice (P.elem t)) := by rw [ht]; simp [Program.elem, ht]
  have he : P.elem t = e := by rw [ht] at ht'; cases ht'; rfl
  rw [run_slice_l (ht := ht') (h0 := by omega) (h1 := by omega), he, hs]
  simp [Result.andThen]
theorem slice_h_run {P : Program} {t e : TypeId} {s : Nat} (ht : P.underlying t = some (.slice e)) (hs : ∀ w : World, (sizeOf e).run P w = .ok s w) (a : Option Addr) (len cap j : Nat) (hj : j ≤ cap) (W : World) :
    (Instr.slice t (.slice a len cap) none (some (.int .i64 (j : Int))) none).run P W = .ok (sliced a 0 j cap s) W := by
  have ht' : P.underlying t = some (.slice (P.elem t)) := by rw [ht]; simp [Program.elem, ht]
  have he : P.elem t = e := by rw [ht] at ht'; cases ht'; rfl
  rw [run_slice_h (ht := ht') (h0 := by omega) (h2 := by omega), he, hs]
  simp [Result.andThen]
/-- b[i:j] of bytes: the value, and what it reads as. -/
theorem Bytes.lh {w : World} {a : Option Addr} {n cap : Nat} {l : List UInt8} (h : Bytes w (.slice a n cap) l) (hn : n = l.length) (i j : Nat) (hij : i ≤ j) (hj : j ≤ n) :
    ∃ v', (∀ W, (Instr.slice 99 (.slice a n cap) (some (.int .i64 (i : Int))) (some (.int .i64 (j : Int))) none).run Tryz.prog W = .ok v' W) ∧ Bytes w v' ((l.drop i).take (j - i)) := by
  subst hn
  have hcap : l.length ≤ cap := by obtain ⟨_, _, a', cap', hv, h3, _⟩ := h; cases hv; exact h3
  refine ⟨_, fun W => slice_lh_run under_bytes size_u8 a _ cap i j hij (by omega) W, ?_⟩
  have hs := Seg.sub h i j hij hj
  unfold Bytes
  rw [List.length_take, List.length_drop, Nat.min_eq_left (by omega), List.map_take, List.map_drop]
  simpa using hs
theorem Bytes.l {w : World} {a : Option Addr} {n cap : Nat} {l : List UInt8} (h : Bytes w (.slice a n cap) l) (hn : n = l.length) (i : Nat) (hi : i ≤ n) :
    ∃ v', (∀ W, (Instr.slice 99 (.slice a n cap) (some (.int .i64 (i : Int))) none none).run Tryz.prog W = .ok v' W) ∧ Bytes w v' (l.drop i) := by
  subst hn
  refine ⟨_, fun W => slice_l_run under_bytes size_u8 a _ cap i hi W, ?_⟩
  have hs := Seg.sub h i l.length hi (Nat.le_refl _)
  unfold Bytes
  rw [List.length_drop, List.map_drop]
  rw [Nat.mul_one, Nat.mul_one, List.take_of_length_le (by simp)] at hs
  exact hs
theorem Bytes.h {w : World} {a : Option Addr} {n cap : Nat} {l : List UInt8} (h : Bytes w (.slice a n cap) l) (hn : n = l.length) (j : Nat) (hj : j ≤ n) :
    ∃ v', (∀ W, (Instr.slice 99 (.slice a n cap) none (some (.int .i64 (j : Int))) none).run Tryz.prog W = .ok v' W) ∧ Bytes w v' (l.take j) := by
  subst hn
  have hcap : l.length ≤ cap := by obtain ⟨_, _, a', cap', hv, h3, _⟩ := h; cases hv; exact h3
  refine ⟨_, fun W => slice_h_run under_bytes size_u8 a _ cap j (by omega) W, ?_⟩
  have hs := Seg.sub h 0 j (by omega) hj
  unfold Bytes
  rw [List.length_take, Nat.min_eq_left (by omega), List.map_take]
  simpa using hs
theorem Bytes.drewN {w : World} {v : Value} {l : List UInt8} (h : Bytes w v l) (n : Nat) : Bytes (w.drewN n) v l := Seg.keep h fun _ _ hu => hu
theorem Seg.drewN {w : World} {v : Value} {size n : Nat} {xs : List Value} (h : Seg w v size n xs) (k : Nat) : Seg (w.drewN k) v size n xs := Seg.keep h fun _ _ hu => hu
/-- A contract that leaves the world alone, at a call inside a region that draws. -/
theorem quiet_eq {P : Program} {f : FuncId} {args : Array Value} {w : World} {n : Nat} {v : Value}
    (h : Calls P f args (w.drewN n) fun e w' => e = .returned v ∧ w.drewN n = w') : Calls P f args (w.drewN n) fun e w'' => e = .returned v ∧ ∃ m, w'' = w.drewN m :=
  h.mono fun _ _ ⟨he, hm⟩ => ⟨he, n, hm.symm⟩
theorem below_drewN {w w' : World} {B : Nat} (h : Below B w w') (n : Nat) : Below B w (w'.drewN n) := ⟨h.os, h.tape, h.output, h.size, h.block⟩
/-- Behind a block of one's own and a callee: below all that was there, nothing has turned. -/
theorem below_new {w w1 : World} {o : Obj} (hb : Below (w.alloc o).heap.size (w.alloc o) w1) : Below w.heap.size w w1 :=
  ((Below.refl _ _).alloc (Nat.le_refl _) _).trans (hb.mono (by simp))
theorem below_step {B : Nat} {w w1 w2 : World} (h : Below B w w1) (hb : Below w1.heap.size w1 w2) (hB : B ≤ w1.heap.size) : Below B w w2 := h.trans (hb.mono hB)
/-- b[i:j] of bytes: the value written out, its address and cell at each place, and what it reads as. -/
theorem Bytes.cut {w : World} {a : Option Addr} {n cap : Nat} {l : List UInt8} (h : Bytes w (.slice a n cap) l) (hn : n = l.length) (i j : Nat) (hij : i ≤ j) (hj : j ≤ n) :
    ∃ a' cap', (∀ W, (Instr.slice 99 (.slice a n cap) (some (.int .i64 (i : Int))) (some (.int .i64 (j : Int))) none).run Tryz.prog W = .ok (.slice a' (j - i) cap') W) ∧
      (∀ k, k < j - i → ∃ b o, a' = some ⟨b, o, none⟩ ∧ w.cell? ⟨b, o + k, none⟩ = some (.int .u8 ((l.getD (i + k) 0).toNat : Int))) ∧ Bytes w (.slice a' (j - i) cap') ((l.drop i).take (j - i)) := by
  obtain ⟨v', hr, hb⟩ := h.lh hn i j hij hj
  have hb' := hb
  obtain ⟨_, a', cap', rfl, _, _, _, hc⟩ := hb.open
  have hl : ((l.drop i).take (j - i)).length = j - i := by rw [List.length_take, List.length_drop]; omega
  rw [hl] at hr hb' hc
  refine ⟨a', cap', hr, fun k hk => ?_, hb'⟩
  obtain ⟨b, o, ha, hcell⟩ := hc k hk
  refine ⟨b, o, ha, hcell.trans ?_⟩
  simp [List.getD, hk, List.getElem?_drop]
theorem index_0 {P : Program} {t e : TypeId} (ht : P.underlying t = some (.slice e)) (hs : ∀ w : World, (sizeOf e).run P w = .ok 1 w) {a : Option Addr} {b o len cap : Nat} (ha : a = some ⟨b, o, none⟩) (hk : 0 < len) (w : World) :
    (Instr.indexAt t (.slice a len cap) (.int .i64 0)).run P w = .ok (.pointer (some ⟨b, o, none⟩)) w := index_run1 ht hs ha 0 hk w
/-! string(b) -/
theorem below_grown {w w' : World} (h : Below w.heap.size w w') (r : Option Nat) : w.grownBy w' r := ⟨h.os, h.tape, h.output, h.size, fun k hk _ => h.block k hk⟩
/-- w' is w behind some draws. -/
def Drew (w w' : World) : Prop := ∃ k, w' = w.drewN k
theorem Drew.refl (w : World) : Drew w w := ⟨0, rfl⟩
theorem Drew.step {w w' : World} (h : Drew w w') (k : Nat) : Drew w (w'.drewN k) := by obtain ⟨j, rfl⟩ := h; exact ⟨_, World.drewN_drewN _ _ _⟩
theorem Drew.trans {w w' w2 : World} (h : Drew w w') (h2 : Drew w' w2) : Drew w w2 := by obtain ⟨j, rfl⟩ := h2; exact h.step j
theorem Drew.keeps {w w' : World} (h : Drew w w') : ∀ p u, w.cell? p = some u → w'.cell? p = some u := by obtain ⟨j, rfl⟩ := h; exact fun _ _ h => h
theorem Drew.below {w w' : World} (h : Drew w w') : Below w.heap.size w w' := by obtain ⟨j, rfl⟩ := h; exact below_drewN (Below.refl _ _) _
theorem Drew.quiet {P : Program} {f : FuncId} {args : Array Value} {w : World} {n : Nat} {v : Value}
    (h : Calls P f args (w.drewN n) fun e w' => e = .returned v ∧ Drew (w.drewN n) w') : Calls P f args (w.drewN n) fun e w'' => e = .returned v ∧ ∃ m, w'' = w.drewN m :=
  Calls.quiet_of h
theorem Drew.at_drewN (w : World) (k : Nat) : Drew w (w.drewN k) := ⟨k, rfl⟩
end Go.Proofs.YtaefpjecalnbcaaGreat
namespace Go.Proofs.YtaefpjecalnbcaaGreat
def vgo : Nat → Nat → List UInt8 → Nat × Nat × Nat
  | _, _, [] => (0, 0, 3)
  | i, acc, c :: r => if i = 9 ∧ 1 < c.toNat then (0, 0, 4) else if c.toNat < 128 then (acc + c.toNat * 128 ^ i, i + 1, 0) else vgo (i + 1) (acc + (c.toNat - 128) * 128 ^ i) r
def vread (l : List UInt8) : Nat × Nat × Nat := vgo 0 0 l
/-- Of what vread tells: codes, lengths, words. -/
theorem vgo_bounds : ∀ (l : List UInt8) (i acc : Nat), i ≤ 9 → acc < 128 ^ i →
    ((vgo i acc l).2.2 = 0 ∧ i < (vgo i acc l).2.1 ∧ (vgo i acc l).2.1 ≤ 10 ∧ (vgo i acc l).2.1 ≤ i + l.length ∧ (vgo i acc l).1 < 2 ^ 64) ∨
      ((vgo i acc l).1 = 0 ∧ (vgo i acc l).2.1 = 0 ∧ ((vgo i acc l).2.2 = 3 ∨ (vgo i acc l).2.2 = 4))
  | [], i, acc, _, _ => .inr ⟨rfl, rfl, .inl rfl⟩
  | c :: r, i, acc, hi, ha => by
    rw [vgo]
    split
    · exact .inr ⟨rfl, rfl, .inr rfl⟩
    · split
      · refine .inl ⟨rfl, by simp, by simp; omega, by simp, ?_⟩
        show acc + c.toNat * 128 ^ i < 2 ^ 64
        rename_i h9 h128
        have e9 : (128 : Nat) ^ 9 = 2 ^ 63 := by decide
        by_cases e : i = 9
        · subst e
          have : c.toNat * 128 ^ 9 ≤ 1 * 128 ^ 9 := Nat.mul_le_mul_right _ (by omega)
          omega
        · have h1 : c.toNat * 128 ^ i ≤ 127 * 128 ^ i := Nat.mul_le_mul_right _ (by omega)
          have h2 : (128 : Nat) ^ (i + 1) ≤ 128 ^ 9 := Nat.pow_le_pow_right (by omega) (by omega)
          rw [Nat.pow_succ] at h2
          omega
      · rename_i h9 h128
        have hi' : i + 1 ≤ 9 := by
          by_cases e : i = 9
          · subst e; omega
          · omega
        have ha' : acc + (c.toNat - 128) * 128 ^ i < 128 ^ (i + 1) := by
          have := c.toNat_lt
          have h1 : (c.toNat - 128) * 128 ^ i ≤ 127 * 128 ^ i := Nat.mul_le_mul_right _ (by omega)
          rw [Nat.pow_succ]
          omega
        rcases vgo_bounds r (i + 1) _ hi' ha' with ⟨a1, a2, a3, a4, a5⟩ | h
        · exact .inl ⟨a1, by omega, a3, by simp; omega, a5⟩
        · exact .inr h
/-- vread by its three outcomes. -/
theorem vread_cases (l : List UInt8) : (∃ w n, vread l = (w, n, 0) ∧ 0 < n ∧ n ≤ 10 ∧ n ≤ l.length ∧ w < 2 ^ 64) ∨ (∃ c, vread l = (0, 0, c) ∧ (c = 3 ∨ c = 4)) := by
  have h := vgo_bounds l 0 0 (by omega) (by simp)
  unfold vread
  generalize vgo 0 0 l = x at h ⊢
  obtain ⟨w, n, c⟩ := x
  simp at h
  rcases h with ⟨rfl, h1, h2, h3, h4⟩ | ⟨rfl, rfl, h⟩
  · exact .inl ⟨w, n, rfl, h1, h2, h3, h4⟩
  · exact .inr ⟨c, rfl, h⟩
end Go.Proofs.YtaefpjecalnbcaaGreat
namespace Go.Proofs.YtaefpjecalnbcaaGreat
open Go.RowKit
theorem or_step (acc k c : Nat) (ha : acc < 128 ^ k) (hk : k ≤ 9) (hc : c < 256) (h9 : k = 9 → c ≤ 1) :
    bits .or .u64 (acc : Int) (IntKind.u64.wrap (IntKind.u64.wrap (bits .and .u8 (c : Int) 127) * 2 ^ (7 * k))) = ((acc + c % 128 * 128 ^ k : Nat) : Int) := by
  have e1 : bits .and .u8 (c : Int) 127 = ((c % 128 : Nat) : Int) := by
    have := bits_mask .u8 8 (by decide) wraps_u8 7 (by decide) (c : Int) (by omega) (by omega)
    simpa using this
  have e2 : (2 : Int) ^ (7 * k) = ((128 ^ k : Nat) : Int) := by
    rw [Int.pow_mul]; simp
  have p9 : (128 : Nat) ^ k ≤ 128 ^ 9 := Nat.pow_le_pow_right (by omega) hk
  have e9 : (128 : Nat) ^ 9 = 2 ^ 63 := by decide
  have hlt : acc + c % 128 * 128 ^ k < 2 ^ 64 := by
    by_cases e : k = 9
    · subst e
      have := h9 rfl
      have : c % 128 * 128 ^ 9 ≤ 1 * 128 ^ 9 := Nat.mul_le_mul_right _ (by omega)
      omega
    · have h1 : c % 128 * 128 ^ k ≤ 127 * 128 ^ k := Nat.mul_le_mul_right _ (by omega)
      have h2 : (128 : Nat) ^ (k + 1) ≤ 128 ^ 9 := Nat.pow_le_pow_right (by omega) (by omega)
      rw [Nat.pow_succ] at h2
      omega
  have e3 : IntKind.u64.wrap ((c % 128 : Nat) : Int) = ((c % 128 : Nat) : Int) := by
    rw [IntKind.wrap_u64]; omega
  have e4 : IntKind.u64.wrap (((c % 128 : Nat) : Int) * ((128 ^ k : Nat) : Int)) = ((c % 128 * 128 ^ k : Nat) : Int) := by
    rw [IntKind.wrap_u64, ← Int.natCast_mul]; omega
  rw [e1, e3, e2, e4, bits_or_u64_nat _ _ (by omega) (by omega)]
  congr 1
  have := Nat.two_pow_add_eq_or_of_lt (i := 7 * k) (b := acc) (by rw [Nat.pow_mul]; exact ha) (c % 128)
  rw [Nat.or_comm, Nat.add_comm, Nat.mul_comm (c % 128)]
  rw [Nat.pow_mul] at this
  exact this.symm
theorem vgo_at (l : List UInt8) (k acc : Nat) (hk : k < l.length) : vgo k acc (l.drop k) =
    (if k = 9 ∧ 1 < (l.getD k 0).toNat then (0, 0, 4) else if (l.getD k 0).toNat < 128 then (acc + (l.getD k 0).toNat * 128 ^ k, k + 1, 0) else vgo (k + 1) (acc + ((l.getD k 0).toNat - 128) * 128 ^ k) (l.drop (k + 1))) := by
  rw [List.drop_eq_getElem_cons hk, vgo]
  simp [List.getD, hk]
theorem acc_step (acc k c : Nat) (ha : acc < 128 ^ k) : acc + c % 128 * 128 ^ k < 128 ^ (k + 1) := by
  have h1 : c % 128 * 128 ^ k ≤ 127 * 128 ^ k := Nat.mul_le_mul_right _ (by omega)
  rw [Nat.pow_succ]
  omega
set_option maxRecDepth 100000 in
theorem varint_Read {w : World} {v : Value} {l : List UInt8} (h : Bytes w v l) :
    Calls Tryz.prog 168 #[v] w fun e w' => e = .returned (.tuple #[.int .u64 (vread l).1, .int .i64 (vread l).2.1, .int .u8 (vread l).2.2]) ∧ w = w' := by
  obtain ⟨hlen, a, cap, rfl, -, -, -, hcell⟩ := h.open
  obtain ⟨n, HN⟩ : ∃ n, Hid (n = l.length) := ⟨_, rfl⟩
  rw [← HN.out] at hcell hlen ⊢
  go_enter Tryz.func168, Tryz.ntmps168
  go_wp2
  go_loop [5, 10] (fun v5 v10 => ∃ k acc : Nat, k ≤ n ∧ k ≤ 9 ∧ v5 = .int .u64 acc ∧ v10 = .int .i64 k ∧ Hid (acc < 128 ^ k ∧ vgo k acc (l.drop k) = vread l)) (fun _ i => n - (intOf i).toNat)
  case atStart => exact ⟨0, 0, by omega, by omega, rfl, rfl, by simp, rfl⟩
  case round =>
    obtain ⟨k, acc, hk, hk2, rfl, rfl, HA⟩ := hrel
    by_cases hlt : k < n
    · obtain ⟨b, o, ha, hc0⟩ := hcell k hlt
      have hi := index_run1 under_bytes size_u8 ha k hlt (cap := cap)
      have hvg := hid (vgo_at l k acc (by rw [← HN.out]; exact hlt))
      obtain ⟨c, HC⟩ : ∃ c, Hid (c = (l.getD k 0).toNat) := ⟨_, rfl⟩
      have hcb : c < 256 := by rw [HC.out]; exact (l.getD k 0).toNat_lt
      rw [← HC.out] at hc0 hvg
      have HAA := hid ha
      have HS := hid (or_step acc k c HA.out.1 hk2 hcb)
      clear ha hcell HC
      by_cases h9 : k = 9
      · have h9' : ((k : Int) == 9) = true := by simp; omega
        have H9 := hid h9
        clear h9
        go_wp2
        · have h1 : 1 < (c : Int) := by assumption
          go_ret3
          have hv : vread l = (0, 0, 4) := by rw [← HA.out.2, hvg.out, if_pos ⟨H9.out, by omega⟩]
          rw [hv]
          exact ⟨rfl, rfl⟩
        · have h1 : (c : Int) ≤ 1 := by assumption
          go_ret3
          have hv : vread l = (acc + c * 128 ^ k, k + 1, 0) := by rw [← HA.out.2, hvg.out, if_neg (by omega), if_pos (by omega)]
          rw [hv]
          have hs := HS.out (fun _ => by omega)
          rw [Nat.mod_eq_of_lt (by omega)] at hs
          exact ⟨ret3 (int_eq hs) (by go_num) rfl, rfl⟩
      · have h9' : ((k : Int) == 9) = false := by simp; omega
        have hk3 : k < 9 := by omega
        have H9 := hid h9
        clear h9
        go_wp2
        · have h1 : (c : Int) < 128 := by assumption
          go_ret3
          have hv : vread l = (acc + c * 128 ^ k, k + 1, 0) := by rw [← HA.out.2, hvg.out, if_neg (by have := H9.out; omega), if_pos (by omega)]
          rw [hv]
          have hs := HS.out (fun e => absurd e H9.out)
          rw [Nat.mod_eq_of_lt (by omega)] at hs
          exact ⟨ret3 (int_eq hs) (by go_num) rfl, rfl⟩
        · have h1 : 128 ≤ (c : Int) := by assumption
          have hs := HS.out (fun e => absurd e H9.out)
          go_round
          case rel =>
            refine ⟨k + 1, acc + c % 128 * 128 ^ k, by omega, by omega, int_eq hs, by go_num, acc_step acc k c HA.out.1, ?_⟩
            have : c % 128 = c - 128 := by omega
            rw [← HA.out.2, hvg.out, if_neg (by have := H9.out; omega), if_neg (by omega), this]
          case measure => simp [intOf]; omega
    · go_wp2
      go_ret3
      have hv : vread l = (0, 0, 3) := by
        rw [← HA.out.2, List.drop_of_length_le (by rw [← HN.out]; omega)]; rfl
      rw [hv]
      exact ⟨rfl, rfl⟩
theorem varint_Skip {w : World} {v : Value} {l : List UInt8} (h : Bytes w v l) :
    Calls Tryz.prog 170 #[v] w fun e w' => e = .returned (.tuple #[.int .i64 (vread l).2.1, .int .u8 (vread l).2.2]) ∧ w = w' := by
  go_enter Tryz.func170, Tryz.ntmps170
  go_wp2_with (go_at_call 168; refine (varint_Read h).mono ?_; rintro e w' ⟨rfl, rfl⟩)
  go_ret2
  exact ⟨rfl, rfl⟩
end Go.Proofs.YtaefpjecalnbcaaGreat
namespace Go.Proofs.YtaefpjecalnbcaaGreat
open Go.RowKit
end Go.Proofs.YtaefpjecalnbcaaGreat
namespace Go.Proofs.YtaefpjecalnbcaaGreat
open Go.RowKit
def tagOk (n w : Int) : Bool := decide (1 ≤ n ∧ n ≤ 536870911 ∧ (w = 0 ∨ w = 1 ∨ w = 2 ∨ w = 5))
/-- number, wire type, how many bytes, code -/
def tread (l : List UInt8) : Nat × Nat × Nat × Nat :=
  if (vread l).2.2 ≠ 0 then (0, 0, 0, (vread l).2.2) else
  if 536870911 < (vread l).1 / 8 ∨ tagOk ((vread l).1 / 8 : Nat) ((vread l).1 % 8 : Nat) = false then (0, 0, 0, 5) else ((vread l).1 / 8, (vread l).1 % 8, (vread l).2.1, 0)
theorem tread_cases (l : List UInt8) : (∃ x n, vread l = (x, n, 0) ∧ tread l = (x / 8, x % 8, n, 0) ∧ 0 < n ∧ n ≤ 10 ∧ n ≤ l.length ∧ x ≤ 4294967295 ∧ tagOk (x / 8 : Nat) (x % 8 : Nat) = true) ∨
    (∃ x n, vread l = (x, n, 0) ∧ tread l = (0, 0, 0, 5) ∧ x < 2 ^ 64 ∧ n ≤ 10 ∧ (4294967295 < x ∨ tagOk (x / 8 : Nat) (x % 8 : Nat) = false)) ∨ (∃ c, vread l = (0, 0, c) ∧ tread l = (0, 0, 0, c) ∧ (c = 3 ∨ c = 4)) := by
  rcases vread_cases l with ⟨x, n, e, h1, h2, h3, h4⟩ | ⟨c, e, h⟩
  · by_cases hx : 536870911 < x / 8 ∨ tagOk (x / 8 : Nat) (x % 8 : Nat) = false
    · refine .inr (.inl ⟨x, n, e, ?_, h4, h2, ?_⟩)
      · simp only [tread, e]
        rw [if_neg (by simp), if_pos hx]
      · rcases hx with hx | hx
        · exact .inl (by omega)
        · exact .inr hx
    · refine .inl ⟨x, n, e, ?_, h1, h2, h3, by omega, by
        cases h : tagOk (x / 8 : Nat) (x % 8 : Nat) with
        | true => rfl
        | false => exact absurd (.inr h) hx⟩
      simp only [tread, e]
      rw [if_neg (by simp), if_neg hx]
  · refine .inr (.inr ⟨c, e, ?_, h⟩)
    simp only [tread, e]
    rw [if_pos (by omega)]
set_option maxRecDepth 100000 in
theorem tag_Right (n x : Int) (hn : -9223372036854775808 ≤ n ∧ n ≤ 9223372036854775807) (w : World) :
    Calls Tryz.prog 169 #[.agg #[.int .i64 n, .int .i64 x]] w fun e w' => e = .returned (.bool (tagOk n x)) ∧ Below w.heap.size w w' := by
  by_cases h1 : 1 ≤ n
  · by_cases h2 : n ≤ 536870911
    · by_cases h3 : 0 ≤ x
      · by_cases h4 : x < 8
        · have H : Hid (tagOk n x = decide (x = 0 ∨ x = 1 ∨ x = 2 ∨ x = 5)) := by simp [Hid, tagOk, h1, h2]
          rcases (show x = 0 ∨ x = 1 ∨ x = 2 ∨ x = 3 ∨ x = 4 ∨ x = 5 ∨ x = 6 ∨ x = 7 by omega) with rfl | rfl | rfl | rfl | rfl | rfl | rfl | rfl
          all_goals
            go_enter Tryz.func169, Tryz.ntmps169
            go_wp2
            go_ret
            exact ⟨ret1 (by rw [H.out]; rfl), (Below.refl _ _).alloc (Nat.le_refl _) _⟩
        · have H : Hid (tagOk n x = false) := by simp [Hid, tagOk]; omega
          go_enter Tryz.func169, Tryz.ntmps169
          go_wp2
          go_ret
          exact ⟨ret1 (by rw [H.out]; rfl), (Below.refl _ _).alloc (Nat.le_refl _) _⟩
      · have H : Hid (tagOk n x = false) := by simp [Hid, tagOk]; omega
        go_enter Tryz.func169, Tryz.ntmps169
        go_wp2
        go_ret
        exact ⟨ret1 (by rw [H.out]; rfl), (Below.refl _ _).alloc (Nat.le_refl _) _⟩
    · have H : Hid (tagOk n x = false) := by simp [Hid, tagOk]; omega
      go_enter Tryz.func169, Tryz.ntmps169
      go_wp2
      go_ret
      exact ⟨ret1 (by rw [H.out]; rfl), (Below.refl _ _).alloc (Nat.le_refl _) _⟩
  · have H : Hid (tagOk n x = false) := by simp [Hid, tagOk]; omega
    go_enter Tryz.func169, Tryz.ntmps169
    go_wp2
    go_ret
    exact ⟨ret1 (by rw [H.out]; rfl), (Below.refl _ _).alloc (Nat.le_refl _) _⟩
theorem and7 (x : Nat) (h : x < 2 ^ 64) : bits .and .u64 (x : Int) 7 = ((x % 8 : Nat) : Int) := by
  have := bits_and_u64_nat x 7 (by omega) (by omega)
  rw [show ((7 : Nat) : Int) = (7 : Int) from rfl] at this
  rw [this]
  congr 1
  exact Nat.and_two_pow_sub_one_eq_mod x 3
set_option maxRecDepth 100000 in
theorem tag_Read {w : World} {v : Value} {l : List UInt8} (h : Bytes w v l) :
    Calls Tryz.prog 154 #[v] w fun e w' => e = .returned (.tuple #[.agg #[.int .i64 (tread l).1, .int .i64 (tread l).2.1], .int .i64 (tread l).2.2.1, .int .u8 (tread l).2.2.2]) ∧ Below w.heap.size w w' := by
  rcases tread_cases l with ⟨x, n, e, et, h1, h2, h3, h4, h5⟩ | ⟨x, n, e, et, h1, h2, h3⟩ | ⟨c, e, et, h1⟩
  · have E := hid e
    have ET := hid et
    have H5 := hid h5
    have h7 := and7 x (by omega)
    clear e et h5 h3
    go_enter Tryz.func154, Tryz.ntmps154
    go_wp2_with fail
    refine (varint_Read (h.below ((Below.refl _ _).alloc (Nat.le_refl _) _))).mono ?_
    rintro e w' ⟨rfl, rfl⟩
    rw [E.out]
    go_wp2_with fail
    refine (tag_Right _ _ (by omega) _).mono ?_
    rintro e w1 ⟨rfl, hb⟩
    rw [show (x : Int) / 8 = ((x / 8 : Nat) : Int) from by omega, show (x : Int) % 8 = ((x % 8 : Nat) : Int) from by omega, H5.out]
    have c0 := below_keeps hb ⟨w.heap.size, 0, none⟩ (.int .i64 0) (by simp [go_sem])
    have c1 := below_keeps hb ⟨w.heap.size, 1, none⟩ (.int .i64 0) (by simp [go_sem])
    obtain ⟨hc, hf⟩ := bcell hb
    go_wp2
    refine bodyPost_ret (v := .tuple #[.agg #[.int .i64 (x / 8 : Nat), .int .i64 (x % 8 : Nat)], .int .i64 n, .int .u8 0]) ?_ rfl ?_
    · simp [results, Tryz.results154, go_sem, c0, c1]
    · rw [ET.out]
      refine ⟨rfl, ?_⟩
      exact ((((Below.refl _ _).alloc (Nat.le_refl _) _).alloc (by simp) _).trans (hb.mono (by simp; omega))).setCell (by simp) _ |>.setCell (by simp) _
  · have E := hid e
    have ET := hid et
    by_cases hx : 4294967295 < x
    · clear e et h3
      go_enter Tryz.func154, Tryz.ntmps154
      go_wp2_with fail
      refine (varint_Read (h.below ((Below.refl _ _).alloc (Nat.le_refl _) _))).mono ?_
      rintro e w' ⟨rfl, rfl⟩
      rw [E.out]
      go_wp2
      refine bodyPost_ret (v := .tuple #[.agg #[.int .i64 0, .int .i64 0], .int .i64 0, .int .u8 5]) ?_ rfl ?_
      · simp [results, Tryz.results154, go_sem]
      · rw [ET.out]
        exact ⟨rfl, by repeat (first | exact Below.refl _ _ | exact (Below.refl _ _).alloc (Nat.le_refl _) _ | refine Below.setCell ?_ (by simp) _)⟩
    · have H5 : Hid (tagOk (x / 8 : Nat) (x % 8 : Nat) = false) := hid (h3.resolve_left hx)
      have h7 := and7 x (by omega)
      clear e et h3
      go_enter Tryz.func154, Tryz.ntmps154
      go_wp2_with fail
      refine (varint_Read (h.below ((Below.refl _ _).alloc (Nat.le_refl _) _))).mono ?_
      rintro e w' ⟨rfl, rfl⟩
      rw [E.out]
      go_wp2_with fail
      refine (tag_Right _ _ (by omega) _).mono ?_
      rintro e w1 ⟨rfl, hb⟩
      rw [show (x : Int) / 8 = ((x / 8 : Nat) : Int) from by omega, show (x : Int) % 8 = ((x % 8 : Nat) : Int) from by omega, H5.out]
      have c0 := below_keeps hb ⟨w.heap.size, 0, none⟩ (.int .i64 0) (by simp [go_sem])
      have c1 := below_keeps hb ⟨w.heap.size, 1, none⟩ (.int .i64 0) (by simp [go_sem])
      obtain ⟨hc, hf⟩ := bcell hb
      go_wp2
      refine bodyPost_ret (v := .tuple #[.agg #[.int .i64 0, .int .i64 0], .int .i64 0, .int .u8 5]) ?_ rfl ?_
      · simp [results, Tryz.results154, go_sem, c0, c1]
      · rw [ET.out]
        exact ⟨rfl, ((((Below.refl _ _).alloc (Nat.le_refl _) _).alloc (by simp) _).trans (hb.mono (by simp; omega))).setCell (by simp) _ |>.setCell (by simp) _⟩
  · have E := hid e
    have ET := hid et
    have hc : ((c : Int) == 0) = false := by simp; omega
    clear e et h1
    go_enter Tryz.func154, Tryz.ntmps154
    go_wp2_with fail
    refine (varint_Read (h.below ((Below.refl _ _).alloc (Nat.le_refl _) _))).mono ?_
    rintro e w' ⟨rfl, rfl⟩
    rw [E.out]
    go_wp2
    refine bodyPost_ret (v := .tuple #[.agg #[.int .i64 0, .int .i64 0], .int .i64 0, .int .u8 c]) ?_ rfl ?_
    · simp [results, Tryz.results154, go_sem]
    · rw [ET.out]
      exact ⟨rfl, by repeat (first | exact Below.refl _ _ | exact (Below.refl _ _).alloc (Nat.le_refl _) _ | refine Below.setCell ?_ (by simp) _)⟩
end Go.Proofs.YtaefpjecalnbcaaGreat
