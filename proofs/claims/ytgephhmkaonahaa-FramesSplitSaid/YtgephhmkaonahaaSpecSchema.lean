/- Plain law: the first place where a schema is not right (scheck), and what the maps of names and of what was met hold on the way. No condition. -/
import Derived.Test.YtgephhmkaonahaaField
namespace Go.Proofs.Ytgephhmkaonahaa
open Go.RowKit

def nameMet (bf : List Fld) (t : ByteArray) : Bool := bf.any fun g => decide (g.name = t)
def numMet (bf : List Fld) (x : Int) : Bool := bf.any fun g => decide (g.number = x)
def mesMet (bm : List Mes) (t : ByteArray) : Bool := bm.any fun g => decide (g.name = t)
def fieldsFault (n : Nat) (bf : List Fld) : List Fld → Nat → Option (Nat × Nat)
  | [], _ => none
  | f :: r, k => if fieldFault n (nameMet bf f.name) (numMet bf f.number) f = 0 then fieldsFault n (bf ++ [f]) r (k + 1) else some (k, fieldFault n (nameMet bf f.name) (numMet bf f.number) f)
/-- message, field, what -/
def scheckGo (n : Nat) (bm : List Mes) : List Mes → Nat → Int × Int × Nat
  | [], _ => (0, 0, 0)
  | m :: r, i =>
    if nameOk m.name = false then (i, -1, 2) else if mesMet bm m.name = true then (i, -1, 3) else if 200 < m.fields.length then (i, -1, 4) else
    match fieldsFault n [] m.fields 0 with
    | some (k, w) => (i, k, w)
    | none => scheckGo n (bm ++ [m]) r (i + 1)
def scheck (s : List Mes) : Int × Int × Nat := if s.length = 0 ∨ 100 < s.length then (-1, -1, 1) else scheckGo s.length [] s 0
def sright (s : List Mes) : Bool := decide ((scheck s).2.2 = 0)

theorem fieldsFault_at (n : Nat) (fs : List Fld) (k : Nat) (hk : k < fs.length) : fieldsFault n (fs.take k) (fs.drop k) k =
    if fieldFault n (nameMet (fs.take k) (fs.getD k .zero).name) (numMet (fs.take k) (fs.getD k .zero).number) (fs.getD k .zero) = 0 then fieldsFault n (fs.take (k + 1)) (fs.drop (k + 1)) (k + 1)
    else some (k, fieldFault n (nameMet (fs.take k) (fs.getD k .zero).name) (numMet (fs.take k) (fs.getD k .zero).number) (fs.getD k .zero)) := by
  have e : fs.getD k .zero = fs[k] := by simp [List.getD, hk]
  rw [e]
  conv => lhs; rw [List.drop_eq_getElem_cons hk]
  rw [fieldsFault, List.take_succ_eq_append_getElem hk]

theorem scheckGo_at (n : Nat) (s : List Mes) (k : Nat) (hk : k < s.length) : scheckGo n (s.take k) (s.drop k) k =
    if nameOk (s.getD k .zero).name = false then ((k : Int), -1, 2) else if mesMet (s.take k) (s.getD k .zero).name = true then ((k : Int), -1, 3) else if 200 < (s.getD k .zero).fields.length then ((k : Int), -1, 4) else
    match fieldsFault n [] (s.getD k .zero).fields 0 with
    | some (j, w) => ((k : Int), (j : Int), w)
    | none => scheckGo n (s.take (k + 1)) (s.drop (k + 1)) (k + 1) := by
  have e : s.getD k .zero = s[k] := by simp [List.getD, hk]
  rw [e]
  conv => lhs; rw [List.drop_eq_getElem_cons hk]
  rw [scheckGo, List.take_succ_eq_append_getElem hk]

theorem fieldFault_ok {n : Nat} {nm nu : Bool} {f : Fld} (h : fieldFault n nm nu f = 0) : nameOk f.name = true ∧ nm = false ∧ numOk f.number = true ∧ nu = false := by
  unfold fieldFault at h
  by_cases h1 : nameOk f.name = false
  · rw [if_pos h1] at h; omega
  · rw [if_neg h1] at h
    cases nm with
    | true => rw [if_pos rfl] at h; omega
    | false =>
      rw [if_neg (by decide)] at h
      by_cases h2 : numOk f.number = false
      · rw [if_pos h2] at h; omega
      · rw [if_neg h2] at h
        cases nu with
        | true => rw [if_pos rfl] at h; omega
        | false => exact ⟨by simpa using h1, rfl, by simpa using h2, rfl⟩

/-- what 'seen' holds while the fields of message i are gone through -/
structure SeenInv (i : Int) (bf : List Fld) (es : List (Met × Value)) : Prop where
  name : ∀ t, nameOk t = true → getOf (i, t, 0) es = seen (nameMet bf t)
  num : ∀ x, numOk x = true → getOf (i, ⟨#[]⟩, x) es = seen (numMet bf x)
  later : ∀ j t x, i < j → getOf (j, t, x) es = none

theorem SeenInv.start (i : Int) : SeenInv i [] [] := ⟨fun _ _ => rfl, fun _ _ => rfl, fun _ _ _ _ => rfl⟩
theorem SeenInv.next {i : Int} {bf : List Fld} {es : List (Met × Value)} (h : SeenInv i bf es) : SeenInv (i + 1) [] es :=
  ⟨fun t _ => h.later _ _ _ (by omega), fun x _ => h.later _ _ _ (by omega), fun j t x hj => h.later _ _ _ (by omega)⟩

theorem SeenInv.step {i : Int} {bf : List Fld} {es : List (Met × Value)} (h : SeenInv i bf es) {f : Fld} (hn : nameOk f.name = true) (_hx : numOk f.number = true) :
    SeenInv i (bf ++ [f]) ((es ++ [((i, f.name, 0), one)]) ++ [((i, ⟨#[]⟩, f.number), one)]) where
  name t ht := by
    rw [getOf_append, getOf_append, h.name t ht]
    have e1 : ¬ ((i, t, (0 : Int)) = ((i, (⟨#[]⟩ : ByteArray), f.number) : Met)) := fun e => nameOk_ne t ht (congrArg (fun x : Met => x.2.1) e)
    have e2 : ((i, t, (0 : Int)) = ((i, f.name, 0) : Met)) ↔ f.name = t := ⟨fun e => (congrArg (fun x : Met => x.2.1) e).symm, fun e => by rw [e]⟩
    have e3 : nameMet (bf ++ [f]) t = (nameMet bf t || decide (f.name = t)) := by simp [nameMet]
    rw [e3]
    simp only [getOf, e1, e2, if_false]
    cases nameMet bf t
    · by_cases e : f.name = t <;> simp [seen, e]
    · simp [seen]
  num x hx' := by
    rw [getOf_append, getOf_append, h.num x hx']
    have e1 : ¬ ((i, (⟨#[]⟩ : ByteArray), x) = ((i, f.name, 0) : Met)) := fun e => nameOk_ne f.name hn (congrArg (fun x : Met => x.2.1) e).symm
    have e2 : ((i, (⟨#[]⟩ : ByteArray), x) = ((i, ⟨#[]⟩, f.number) : Met)) ↔ f.number = x := ⟨fun e => (congrArg (fun x : Met => x.2.2) e).symm, fun e => by rw [e]⟩
    have e3 : numMet (bf ++ [f]) x = (numMet bf x || decide (f.number = x)) := by simp [numMet]
    rw [e3]
    simp only [getOf, e1, e2, if_false]
    cases numMet bf x
    · by_cases e : f.number = x <;> simp [seen, e]
    · simp [seen]
  later j t x hj := by
    rw [getOf_append, getOf_append, h.later j t x hj]
    have e1 : ¬ ((j, t, x) = ((i, f.name, 0) : Met)) := fun e => by have := congrArg (fun x : Met => x.1) e; simp at this; omega
    have e2 : ¬ ((j, t, x) = ((i, ⟨#[]⟩, f.number) : Met)) := fun e => by have := congrArg (fun x : Met => x.1) e; simp at this; omega
    simp [getOf, e1, e2]

def NamesInv (bm : List Mes) (en : List (ByteArray × Value)) : Prop := ∀ t, getOf t en = seen (mesMet bm t)
theorem NamesInv.step {bm : List Mes} {en : List (ByteArray × Value)} (h : NamesInv bm en) (m : Mes) : NamesInv (bm ++ [m]) (en ++ [(m.name, one)]) := by
  intro t
  rw [getOf_append, h t]
  have e3 : mesMet (bm ++ [m]) t = (mesMet bm t || decide (m.name = t)) := by simp [mesMet]
  rw [e3]
  have e2 : t = m.name ↔ m.name = t := ⟨fun e => e.symm, fun e => e.symm⟩
  simp only [getOf, e2]
  cases mesMet bm t
  · by_cases e : m.name = t <;> simp [seen, e]
  · simp [seen]

theorem name_lookup {w : World} {r : Nat} {en : List (ByteArray × Value)} (h : MapIs w r strK en) (t : ByteArray) (b : Bool) (hg : getOf t en = seen b) :
    (Instr.lookup 191 (.map (some r)) (.string t) false).run Try.prog w = .ok (.int .i64 (if b then 1 else 0)) w := by
  have := map_lookup (P := Try.prog) str_ok Try.underlying191 zero_int h t false
  rw [hg] at this
  cases b <;> exact this

theorem name_insert {w : World} {r : Nat} {en : List (ByteArray × Value)} (h : MapIs w r strK en) (t : ByteArray) (hg : getOf t en = none) :
    ∃ w2, (Instr.mapUpdate 191 (.map (some r)) (.string t) (.int .i64 1)).run Try.prog w = .ok () w2 ∧ MapIs w2 r strK (en ++ [(t, one)]) ∧ (∀ W : World, W.grownBy w (some r) → W.grownBy w2 (some r)) ∧
      w2.heap.size = w.heap.size ∧ (∀ b, b ≠ r → w2.heap[b]? = w.heap[b]?) :=
  ⟨_, map_insert (P := Try.prog) str_ok Try.underlying191 h t one hg, putMap_is h.lt, fun _ hW => grown_putMap hW, putMap_size, fun _ hb => putMap_other hb⟩

end Go.Proofs.Ytgephhmkaonahaa
