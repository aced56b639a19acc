/- The vocabulary of this seat's walks: what it means that a slice value reads as a list of cells, of bytes; how such readings are carried to later worlds; small laws for the walk. No condition. Plain law: what a varint's bytes tell, in two spellings (one pass from the first piece; all pieces from the last). No program in sight. No condition. What varint.Read, varint.Skip and the document's Read of a varint return on any bytes: vread. No condition beyond that the argument reads as bytes. What the document's Read of a varint at a place returns: vread of the bytes from that place on. The place is no more than the bytes' number. What tag.Right, tag.Read and the document's Right and Read of tags return on any bytes: tread. No condition beyond that the argument reads as bytes. What record.size and record.Next return on any bytes: rsize, rnext. The place is a natural number. What the document's Next record returns on any bytes: rnext. The place is a natural number. -/
import Derived.Test.YtmngpfnjomhhcaaDoorProg
import Derived.WalkKit
import Derived.Deep.QuietTactic
import Derived.BigQuiet
import Derived.WalkSpells
import Derived.WalkLawsBesides
import Init
namespace Go.Proofs.YtmngpfnjomhhcaaDoor
open Go.RowKit
theorem hid {p : Prop} (h : p) : Hid p := h
/-- The slice value v of n elements (size cells each) reads as the cells xs in w. -/
def Seg (w : World) (v : Value) (size n : Nat) (xs : List Value) : Prop :=
  xs.length = n * size ∧ n ≤ 140737488355328 ∧ ∃ a cap, v = .slice a n cap ∧ n ≤ cap ∧ cap ≤ 9223372036854775807 ∧ (a = none → cap = 0) ∧
    ∀ j u, xs[j]? = some u → ∃ b o, a = some ⟨b, o, none⟩ ∧ w.cell? ⟨b, o + j, none⟩ = some u
/-- A []byte. -/
def byteV (c : UInt8) : Value := .int .u8 (c.toNat : Int)
def Bytes (w : World) (v : Value) (l : List UInt8) : Prop := Seg w v 1 l.length (l.map byteV)
theorem Seg.keep {w w' : World} {v : Value} {size n : Nat} {xs : List Value} (h : Seg w v size n xs) (hk : ∀ p u, w.cell? p = some u → w'.cell? p = some u) : Seg w' v size n xs := by
  obtain ⟨h1, h2, a, cap, hv, h3, h4, h5, h6⟩ := h
  exact ⟨h1, h2, a, cap, hv, h3, h4, h5, fun j u hu => let ⟨b, o, ha, hc⟩ := h6 j u hu; ⟨b, o, ha, hk _ _ hc⟩⟩
theorem below_keeps {w w' : World} (h : Below w.heap.size w w') : ∀ p u, w.cell? p = some u → w'.cell? p = some u := fun p _ hu =>
  (Below.cell h (World.block_lt_of_cell? w p hu)).trans hu
theorem Seg.below {w w' : World} {v : Value} {size n : Nat} {xs : List Value} (h : Seg w v size n xs) (hb : Below w.heap.size w w') : Seg w' v size n xs := h.keep (below_keeps hb)
theorem Bytes.below {w w' : World} {v : Value} {l : List UInt8} (h : Bytes w v l) (hb : Below w.heap.size w w') : Bytes w' v l := Seg.below h hb
theorem addr_add (b o k : Nat) : (⟨b, o, none⟩ : Addr).add k = ⟨b, o + k, none⟩ := by unfold Addr.add; split <;> simp_all
/-- What a walk wants of a []byte: its form, and at each place the address and the cell. -/
theorem Bytes.open {w : World} {v : Value} {l : List UInt8} (h : Bytes w v l) :
    l.length ≤ 140737488355328 ∧ ∃ a cap, v = .slice a l.length cap ∧ l.length ≤ cap ∧ cap ≤ 9223372036854775807 ∧ (a = none → cap = 0) ∧
      ∀ k, k < l.length → ∃ b o, a = some ⟨b, o, none⟩ ∧ w.cell? ⟨b, o + k, none⟩ = some (.int .u8 ((l.getD k 0).toNat : Int)) := by
  obtain ⟨_, h2, a, cap, hv, h3, h4, h5, h6⟩ := h
  refine ⟨h2, a, cap, hv, h3, h4, h5, fun k hk => ?_⟩
  refine h6 k _ ?_
  simp [List.getD, hk, byteV]
/-- The address of the k-th element, as an equation for the walk. -/
theorem index_run {P : Program} {t e : TypeId} {s : Nat} (ht : P.underlying t = some (.slice e)) (hs : ∀ w : World, (sizeOf e).run P w = .ok s w) {a : Option Addr} {b o len cap : Nat} (ha : a = some ⟨b, o, none⟩) (k : Nat) (hk : k < len) (w : World) :
    (Instr.indexAt t (.slice a len cap) (.int .i64 (k : Int))).run P w = .ok (.pointer (some ⟨b, o + k * s, none⟩)) w := by
  subst ha
  have ht' : P.underlying t = some (.slice (P.elem t)) := by rw [ht]; simp [Program.elem, ht]
  have he : P.elem t = e := by rw [ht] at ht'; cases ht'; rfl
  rw [run_indexAt_slice (h := ht'), if_pos (by omega), he, hs]
  simp [Result.andThen, addr_add]
theorem index_run1 {P : Program} {t e : TypeId} (ht : P.underlying t = some (.slice e)) (hs : ∀ w : World, (sizeOf e).run P w = .ok 1 w) {a : Option Addr} {b o len cap : Nat} (ha : a = some ⟨b, o, none⟩) (k : Nat) (hk : k < len) (w : World) :
    (Instr.indexAt t (.slice a len cap) (.int .i64 (k : Int))).run P w = .ok (.pointer (some ⟨b, o + k, none⟩)) w := by
  have := index_run ht hs ha k hk w (cap := cap)
  rwa [Nat.mul_one] at this
theorem ret1 {a a' : Value} (ha : a = a') : Ending.returned a = .returned a' := by rw [ha]
theorem Seg.sub {w : World} {a : Option Addr} {size n cap : Nat} {xs : List Value} (h : Seg w (.slice a n cap) size n xs) (i j : Nat) (hij : i ≤ j) (hj : j ≤ n) :
    Seg w (sliced a i j cap size) size (j - i) ((xs.drop (i * size)).take ((j - i) * size)) := by
  obtain ⟨h1, h2, a', cap', hv, h3, h4, h5, h6⟩ := h
  cases hv
  refine ⟨?_, by omega, _, _, rfl, by omega, by omega, ?_, ?_⟩
  · rw [List.length_take, List.length_drop, h1]
    have e1 : n * size - i * size = (n - i) * size := (Nat.sub_mul _ _ _).symm
    have : (j - i) * size ≤ (n - i) * size := Nat.mul_le_mul_right _ (by omega)
    omega
  · intro ha
    split at ha
    · omega
    · have : a = none := by cases a <;> simp_all
      have := h5 this
      omega
  · intro k u hu
    rw [List.getElem?_take] at hu
    split at hu
    · rename_i hk
      rw [List.getElem?_drop] at hu
      obtain ⟨b, o, ha, hc⟩ := h6 _ _ hu
      have hne : cap ≠ i := by
        intro e
        have : j - i = 0 := by omega
        simp [this] at hk
      refine ⟨b, o + i * size, ?_, by rw [Nat.add_assoc]; exact hc⟩
      rw [if_neg hne, ha]
      simp [addr_add]
    · cases hu
theorem slice_l_run {P : Program} {t e : TypeId} {s : Nat} (ht : P.underlying t = some (.slice e)) (hs : ∀ w : World, (sizeOf e).run P w = .ok s w) (a : Option Addr) (len cap i : Nat) (hi : i ≤ len) (W : World) :
    (Instr.slice t (.slice a len cap) (some (.int .i64 (i : Int))) none none).run P W = .ok (sliced a i len cap s) W := by
  have ht' : P.underlying t = some (.slice (P.elem t)) := by rw [ht]; simp [Program.elem, ht]
  have he : P.elem t = e := by rw [ht] at ht'; cases ht'; rfl
  rw [run_slice_l (ht := ht') (h0 := by omega) (h1 := by omega), he, hs]
  simp [Result.andThen]
theorem slice_h_run {P : Program} {t e : TypeId} {s : Nat} (ht : P.underlying t = some (.slice e)) (hs : ∀ w : World, (sizeOf e).run P w = .ok s w) (a : Option Addr) (len cap j : Nat) (hj : j ≤ cap) (W : World) :
    (Instr.slice t (.slice a len cap) none (some (.int .i64 (j : Int))) none).run P W = .ok (sliced a 0 j cap s) W := by
  have ht' : P.underlying t = some (.slice (P.elem t)) := by rw [ht]; simp [Program.elem, ht]
  have he : P.elem t = e := by rw [ht] at ht'; cases ht'; rfl
  rw [run_slice_h (ht := ht') (h0 := by omega) (h2 := by omega), he, hs]
  simp [Result.andThen]
theorem Bytes.drewN {w : World} {v : Value} {l : List UInt8} (h : Bytes w v l) (n : Nat) : Bytes (w.drewN n) v l := Seg.keep h fun _ _ hu => hu
theorem Seg.drewN {w : World} {v : Value} {size n : Nat} {xs : List Value} (h : Seg w v size n xs) (k : Nat) : Seg (w.drewN k) v size n xs := Seg.keep h fun _ _ hu => hu
theorem below_drewN {w w' : World} {B : Nat} (h : Below B w w') (n : Nat) : Below B w (w'.drewN n) := ⟨h.os, h.tape, h.output, h.size, h.block⟩
theorem below_step {B : Nat} {w w1 w2 : World} (h : Below B w w1) (hb : Below w1.heap.size w1 w2) (hB : B ≤ w1.heap.size) : Below B w w2 := h.trans (hb.mono hB)
theorem index_0 {P : Program} {t e : TypeId} (ht : P.underlying t = some (.slice e)) (hs : ∀ w : World, (sizeOf e).run P w = .ok 1 w) {a : Option Addr} {b o len cap : Nat} (ha : a = some ⟨b, o, none⟩) (hk : 0 < len) (w : World) :
    (Instr.indexAt t (.slice a len cap) (.int .i64 0)).run P w = .ok (.pointer (some ⟨b, o, none⟩)) w := index_run1 ht hs ha 0 hk w
/-! string(b) -/
theorem below_grown {w w' : World} (h : Below w.heap.size w w') (r : Option Nat) : w.grownBy w' r := ⟨h.os, h.tape, h.output, h.size, fun k hk _ => h.block k hk⟩
/-- w' is w behind some draws. -/
def Drew (w w' : World) : Prop := ∃ k, w' = w.drewN k
theorem Drew.refl (w : World) : Drew w w := ⟨0, rfl⟩
theorem Drew.step {w w' : World} (h : Drew w w') (k : Nat) : Drew w (w'.drewN k) := by obtain ⟨j, rfl⟩ := h; exact ⟨_, World.drewN_drewN _ _ _⟩
theorem Drew.trans {w w' w2 : World} (h : Drew w w') (h2 : Drew w' w2) : Drew w w2 := by obtain ⟨j, rfl⟩ := h2; exact h.step j
theorem Drew.keeps {w w' : World} (h : Drew w w') : ∀ p u, w.cell? p = some u → w'.cell? p = some u := by obtain ⟨j, rfl⟩ := h; exact fun _ _ h => h
theorem Drew.below {w w' : World} (h : Drew w w') : Below w.heap.size w w' := by obtain ⟨j, rfl⟩ := h; exact below_drewN (Below.refl _ _) _
theorem Drew.quiet {P : Program} {f : FuncId} {args : Array Value} {w : World} {n : Nat} {v : Value}
    (h : Calls P f args (w.drewN n) fun e w' => e = .returned v ∧ Drew (w.drewN n) w') : Calls P f args (w.drewN n) fun e w'' => e = .returned v ∧ ∃ m, w'' = w.drewN m :=
  Calls.quiet_of h
end Go.Proofs.YtmngpfnjomhhcaaDoor
namespace Go.Proofs.YtmngpfnjomhhcaaDoor
end Go.Proofs.YtmngpfnjomhhcaaDoor
namespace Go.Proofs.YtmngpfnjomhhcaaDoor
open Go.RowKit
end Go.Proofs.YtmngpfnjomhhcaaDoor
namespace Go.Proofs.YtmngpfnjomhhcaaDoor
open Go.RowKit
end Go.Proofs.YtmngpfnjomhhcaaDoor
namespace Go.Proofs.YtmngpfnjomhhcaaDoor
open Go.RowKit
end Go.Proofs.YtmngpfnjomhhcaaDoor
namespace Go.Proofs.YtmngpfnjomhhcaaDoor
open Go.RowKit
structure Rec where
  number : Nat
  wire : Nat
  start : Nat
  at' : Nat
  to : Nat
def Rec.none : Rec := ⟨0, 0, 0, 0, 0⟩
def Rec.val (r : Rec) : Value := .agg #[.int .i64 r.number, .int .i64 r.wire, .int .i64 r.start, .int .i64 r.at', .int .i64 r.to]
end Go.Proofs.YtmngpfnjomhhcaaDoor
namespace Go.Proofs.YtmngpfnjomhhcaaDoor
open Go.RowKit
end Go.Proofs.YtmngpfnjomhhcaaDoor
