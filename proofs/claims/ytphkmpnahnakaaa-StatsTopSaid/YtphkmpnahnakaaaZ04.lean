/- How schemas lie in memory: fields, messages; small laws to give the walk a fresh name for its world. No condition. -/
import Derived.Test.YtphkmpnahnakaaaZ03
import Derived.RegionTactic
import Derived.BigRegion
import Derived.Deep.DeepCutAuto
namespace Go.Proofs.Ytphkmpnahnakaaa
open Go.RowKit
structure Fld where
  name : ByteArray
  number : Int
  kind : Int
  rep : Bool
  packed : Bool
  of : Int
def Fld.zero : Fld := ⟨⟨#[]⟩, 0, 0, false, false, 0⟩
def Fld.cells (f : Fld) : List Value := [.string f.name, .int .i64 f.number, .int .i64 f.kind, .bool f.rep, .bool f.packed, .int .i64 f.of]
def Fld.val (f : Fld) : Value := .agg #[.string f.name, .int .i64 f.number, .int .i64 f.kind, .bool f.rep, .bool f.packed, .int .i64 f.of]
structure Fld.Ok (f : Fld) : Prop where
  name : f.name.size ≤ 140737488355328
  number : -9223372036854775808 ≤ f.number ∧ f.number ≤ 9223372036854775807
  kind : -9223372036854775808 ≤ f.kind ∧ f.kind ≤ 9223372036854775807
  of : -9223372036854775808 ≤ f.of ∧ f.of ≤ 9223372036854775807
structure Mes where
  name : ByteArray
  fields : List Fld
def Mes.zero : Mes := ⟨⟨#[]⟩, []⟩
def FieldsAt (w : World) (v : Value) (fs : List Fld) : Prop := Seg w v 6 fs.length (fs.flatMap Fld.cells) ∧ ∀ f ∈ fs, f.Ok
def mesCells (x : Mes × Value) : List Value := [.string x.1.name, x.2]
def SchemaAt (w : World) (v : Value) (s : List Mes) : Prop :=
  ∃ fv : List Value, fv.length = s.length ∧ Seg w v 2 s.length ((s.zip fv).flatMap mesCells) ∧ (∀ m ∈ s, m.name.size ≤ 140737488355328) ∧ ∀ i, i < s.length → FieldsAt w (fv.getD i undef) (s.getD i .zero).fields
theorem FieldsAt.keep {w w' : World} {v : Value} {fs : List Fld} (h : FieldsAt w v fs) (hk : ∀ p u, w.cell? p = some u → w'.cell? p = some u) : FieldsAt w' v fs := ⟨h.1.keep hk, h.2⟩
theorem SchemaAt.keep {w w' : World} {v : Value} {s : List Mes} (h : SchemaAt w v s) (hk : ∀ p u, w.cell? p = some u → w'.cell? p = some u) : SchemaAt w' v s := by
  obtain ⟨fv, h1, h2, h3, h4⟩ := h
  exact ⟨fv, h1, h2.keep hk, h3, fun i hi => (h4 i hi).keep hk⟩
theorem SchemaAt.below {w w' : World} {v : Value} {s : List Mes} (h : SchemaAt w v s) (hb : Below w.heap.size w w') : SchemaAt w' v s := h.keep (below_keeps hb)
theorem FieldsAt.below {w w' : World} {v : Value} {s : List Fld} (h : FieldsAt w v s) (hb : Below w.heap.size w w') : FieldsAt w' v s := h.keep (below_keeps hb)
/-- The j-th cell of the i-th row. -/
theorem flat_get {α : Type} (f : α → List Value) (k : Nat) (hf : ∀ x, (f x).length = k) : ∀ (l : List α) (i j : Nat) (x : α), l[i]? = some x → j < k → (l.flatMap f)[i * k + j]? = (f x)[j]?
  | [], _, _, _, h, _ => by simp at h
  | y :: l, 0, j, x, h, hj => by
    simp at h
    subst h
    rw [List.flatMap_cons, Nat.zero_mul, Nat.zero_add, List.getElem?_append_left (by rw [hf]; exact hj)]
  | y :: l, i + 1, j, x, h, hj => by
    have := flat_get f k hf l i j x (by simpa using h) hj
    rw [List.flatMap_cons, List.getElem?_append_right (by rw [hf, Nat.succ_mul]; omega), hf]
    rw [show (i + 1) * k + j - k = i * k + j by rw [Nat.succ_mul]; omega]
    exact this
/-- What a walk wants of a list of fields. -/
theorem FieldsAt.open {w : World} {v : Value} {fs : List Fld} (h : FieldsAt w v fs) :
    fs.length ≤ 140737488355328 ∧ ∃ a cap, v = .slice a fs.length cap ∧
      ∀ k, k < fs.length → ∃ b o, a = some ⟨b, o, none⟩ ∧ (fs.getD k .zero).Ok ∧ w.cell? ⟨b, o + k * 6, none⟩ = some (.string (fs.getD k .zero).name) ∧ w.cell? ⟨b, o + k * 6 + 1, none⟩ = some (.int .i64 (fs.getD k .zero).number) ∧
        w.cell? ⟨b, o + k * 6 + 2, none⟩ = some (.int .i64 (fs.getD k .zero).kind) ∧ w.cell? ⟨b, o + k * 6 + 3, none⟩ = some (.bool (fs.getD k .zero).rep) ∧
        w.cell? ⟨b, o + k * 6 + 4, none⟩ = some (.bool (fs.getD k .zero).packed) ∧ w.cell? ⟨b, o + k * 6 + 5, none⟩ = some (.int .i64 (fs.getD k .zero).of) := by
  obtain ⟨⟨_, h2, a, cap, hv, h3, h4, h5, h6⟩, hok⟩ := h
  refine ⟨h2, a, cap, hv, fun k hk => ?_⟩
  have hx : fs[k]? = some (fs.getD k .zero) := by simp [List.getD, hk]
  have hc := fun j (hj : j < 6) => flat_get Fld.cells 6 (fun _ => rfl) fs k j _ hx hj
  have get : ∀ j (hj : j < 6) u, (fs.getD k .zero).cells[j]? = some u → ∃ b o, a = some ⟨b, o, none⟩ ∧ w.cell? ⟨b, o + k * 6 + j, none⟩ = some u := fun j hj u hu => by
    obtain ⟨b, o, ha, hcell⟩ := h6 _ u ((hc j hj).trans hu)
    exact ⟨b, o, ha, by rw [Nat.add_assoc]; exact hcell⟩
  obtain ⟨b, o, ha, g0⟩ := get 0 (by omega) _ rfl
  have get' : ∀ j (hj : j < 6) u, (fs.getD k .zero).cells[j]? = some u → w.cell? ⟨b, o + k * 6 + j, none⟩ = some u := fun j hj u hu => by
    obtain ⟨b', o', ha', hcell⟩ := get j hj u hu
    rw [ha] at ha'
    cases ha'
    exact hcell
  exact ⟨b, o, ha, hok _ (List.mem_of_getElem? hx), g0, get' 1 (by omega) _ rfl, get' 2 (by omega) _ rfl, get' 3 (by omega) _ rfl, get' 4 (by omega) _ rfl, get' 5 (by omega) _ rfl⟩
/-- What a walk wants of a schema. -/
theorem SchemaAt.open {w : World} {v : Value} {s : List Mes} (h : SchemaAt w v s) :
    s.length ≤ 140737488355328 ∧ ∃ a cap, v = .slice a s.length cap ∧
      ∀ k, k < s.length → ∃ b o fv, a = some ⟨b, o, none⟩ ∧ (s.getD k .zero).name.size ≤ 140737488355328 ∧ w.cell? ⟨b, o + k * 2, none⟩ = some (.string (s.getD k .zero).name) ∧ w.cell? ⟨b, o + k * 2 + 1, none⟩ = some fv ∧
        FieldsAt w fv (s.getD k .zero).fields := by
  obtain ⟨fv, hl, ⟨_, h2, a, cap, hv, h3, h4, h5, h6⟩, hn, hf⟩ := h
  refine ⟨h2, a, cap, hv, fun k hk => ?_⟩
  have hx : (s.zip fv)[k]? = some (s.getD k .zero, fv.getD k undef) := by
    rw [List.getElem?_zip_eq_some]
    simp [List.getD, hk, hl]
  have hc := fun j (hj : j < 2) => flat_get mesCells 2 (fun _ => rfl) (s.zip fv) k j _ hx hj
  obtain ⟨b, o, ha, g0⟩ := h6 _ _ ((hc 0 (by omega)).trans rfl)
  obtain ⟨b', o', ha', g1⟩ := h6 _ _ ((hc 1 (by omega)).trans rfl)
  rw [ha] at ha'
  cases ha'
  have hx2 : s[k]? = some (s.getD k .zero) := by simp [List.getD, hk]
  exact ⟨b, o, _, ha, hn _ (List.mem_of_getElem? hx2), g0, by rw [Nat.add_assoc]; exact g1, hf k hk⟩
/-- A fresh name for the world at which the walk stands. -/
theorem calls_gen {P : Program} {f : FuncId} {args : Array Value} {R : Ending → World → Prop} (W : World) (F : World → Prop) (hF : F W) (h : ∀ w', F w' → Calls P f args w' R) : Calls P f args W R := h W hF
/-- .. the world has at most new blocks, and other values in block r. -/
theorem grown_refl (w : World) (r : Option Nat) : w.grownBy w r := ⟨rfl, rfl, rfl, Nat.le_refl _, fun _ _ _ => rfl⟩
theorem grown_below {w w' w2 : World} {r : Option Nat} (h : w.grownBy w' r) (hb : Below w'.heap.size w' w2) : w.grownBy w2 r :=
  ⟨hb.os.trans h.os, hb.tape.trans h.tape, hb.output.trans h.output, Nat.le_trans h.size hb.size, fun k hk hr => (hb.block k (by have := h.size; omega)).trans (h.block k hk hr)⟩
theorem grown_putMap {K : Type} [DecidableEq K] {w w' : World} {r : Nat} {kv : K → Value} {es : List (K × Value)} (h : w.grownBy w' (some r)) : w.grownBy (putMap w' r kv es) (some r) :=
  ⟨h.os, h.tape, h.output, by rw [putMap_size]; exact h.size, fun k hk hr => (putMap_other (fun e => hr (by rw [e]))).trans (h.block k hk hr)⟩
end Go.Proofs.Ytphkmpnahnakaaa
