/- Maps of the call's own, told by the list of their entries in the order in which these came: what a look-up, an insertion of a new key, and m[k]++ of a new key do. -/
import Derived.Test.YtgephhmkaonahaaBase
import Derived.MapKept
namespace Go.Proofs.Ytgephhmkaonahaa
open Go.RowKit

variable {K : Type}

def entL (kv : K → Value) : List (K × Value) → Nat → List MapEntry
  | [], _ => []
  | (k, v) :: r, i => ⟨kv k, v, i⟩ :: entL kv r (i + 1)
def posOf [DecidableEq K] (k : K) : List (K × Value) → Nat → Option (Nat × Value)
  | [], _ => none
  | (k', v) :: r, i => if k = k' then some (i, v) else posOf k r (i + 1)
def getOf [DecidableEq K] (k : K) : List (K × Value) → Option Value
  | [] => none
  | (k', v) :: r => if k = k' then some v else getOf k r

/-- Of a key type: the keys kv k are held against each other as the k are. -/
structure KeyOk [DecidableEq K] (P : Program) (kt : TypeId) (kv : K → Value) : Prop where
  check : ∀ (w : World) (e : Bool) (k : K), (Instr.checkKey e 10000 kt (kv k)).run P w = .ok () w
  find : ∀ (w : World) (k : K) (es : List (K × Value)) (i : Nat), (Instr.findKey kt (kv k) (entL kv es i)).run P w = .ok (posOf k es 0) w

def MapIs (w : World) (r : Nat) (kv : K → Value) (es : List (K × Value)) : Prop := w.heap[r]? = some (.map (entL kv es 0).toArray es.length)

theorem posOf_getOf [DecidableEq K] (k : K) : ∀ (es : List (K × Value)) (i : Nat), (posOf k es i).map (·.2) = getOf k es
  | [], _ => rfl
  | (k', v) :: r, i => by
    simp only [posOf, getOf]
    split
    · rfl
    · exact posOf_getOf k r (i + 1)

theorem entL_len (kv : K → Value) : ∀ (es : List (K × Value)) (i : Nat), (entL kv es i).length = es.length
  | [], _ => rfl
  | (k, v) :: r, i => by simp [entL, entL_len kv r (i + 1)]

theorem entL_append (kv : K → Value) : ∀ (es fs : List (K × Value)) (i : Nat), entL kv (es ++ fs) i = entL kv es i ++ entL kv fs (i + es.length)
  | [], fs, i => by simp [entL]
  | (k, v) :: r, fs, i => by
    simp only [List.cons_append, entL, entL_append kv r fs (i + 1), List.length_cons]
    rw [show i + 1 + r.length = i + (r.length + 1) by omega]

theorem findNow_entL [DecidableEq K] {d : TypeDesc} {kv : K → Value} (h : ∀ k k', Instr.sameNow d (kv k) (kv k') = some (decide (k = k'))) (k : K) : ∀ (es : List (K × Value)) (i j : Nat), Instr.findNow d (kv k) (entL kv es i) j = some (posOf k es j)
  | [], _, _ => rfl
  | (k', v) :: r, i, j => by
    simp only [entL, Instr.findNow, h, posOf]
    by_cases e : k = k'
    · simp [e]
    · simp [e, findNow_entL h k r (i + 1) (j + 1)]

theorem keyOk_now [DecidableEq K] {P : Program} {kt : TypeId} {d : TypeDesc} {kv : K → Value} (hd : P.underlying kt = some d) (hk : ∀ k, MapKept.IsKey d (kv k)) (h : ∀ k k', Instr.sameNow d (kv k) (kv k') = some (decide (k = k'))) : KeyOk P kt kv where
  check _ e k := MapKept.run_checkKey hd (hk k) e 9999
  find _ k es i := MapKept.run_findKey hd (findNow_entL h k es i 0)

theorem map_lookup [DecidableEq K] {P : Program} {t kt et : TypeId} {kv : K → Value} (KO : KeyOk P kt kv) (ht : P.underlying t = some (.map kt et)) {z : Value} (hz : ∀ w : World, (zeroValue et).run P w = .ok z w)
    {w : World} {r : Nat} {es : List (K × Value)} (h : MapIs w r kv es) (k : K) (ok : Bool) :
    (Instr.lookup t (.map (some r)) (kv k) ok).run P w = .ok (if ok then .tuple #[(getOf k es).getD z, .bool (getOf k es).isSome] else (getOf k es).getD z) w := by
  have hf := KO.find w k es 0
  rw [← posOf_getOf k es 0]
  simp only [Instr.lookup, Sem.run_bind, run_underlying ht, Result.andThen, MapKept.run_getObj_map h, KO.check, Sem.run_pure, hf]
  cases hp : posOf k es 0 with
  | none =>
    cases ok
    · simp [hz]
    · simp [hz, Result.andThen]
  | some x => cases ok <;> simp [Sem.run_pure]

/-- The world with another map in the place of the one at r. -/
def putMap (w : World) (r : Nat) (kv : K → Value) (es : List (K × Value)) : World := { w with heap := w.heap.setIfInBounds r (.map (entL kv es 0).toArray es.length) }

theorem putMap_is {w : World} {r : Nat} {kv : K → Value} {es : List (K × Value)} (h : r < w.heap.size) : MapIs (putMap w r kv es) r kv es := by
  simp [MapIs, putMap, h]
theorem putMap_other {w : World} {r b : Nat} {kv : K → Value} {es : List (K × Value)} (h : b ≠ r) : (putMap w r kv es).heap[b]? = w.heap[b]? := by
  simp only [putMap, Array.getElem?_setIfInBounds]
  rw [if_neg (by omega)]
theorem putMap_size {w : World} {r : Nat} {kv : K → Value} {es : List (K × Value)} : (putMap w r kv es).heap.size = w.heap.size := by simp [putMap]
theorem putMap_alloc {w : World} {kv : K → Value} {es fs : List (K × Value)} : putMap (w.alloc (.map (entL kv es 0).toArray es.length)) w.heap.size kv fs = w.alloc (.map (entL kv fs 0).toArray fs.length) := by
  simp only [putMap, World.alloc]
  congr 1
  apply Array.ext_getElem?
  intro i
  simp only [Array.getElem?_setIfInBounds, Array.size_push, Array.getElem?_push]
  by_cases e : w.heap.size = i
  · subst e; simp
  · have : ¬ i = w.heap.size := fun h => e h.symm
    simp [e, this]

theorem map_insert [DecidableEq K] {P : Program} {t kt et : TypeId} {kv : K → Value} (KO : KeyOk P kt kv) (ht : P.underlying t = some (.map kt et)) {w : World} {r : Nat} {es : List (K × Value)} (h : MapIs w r kv es) (k : K) (v : Value) (hk : getOf k es = none) :
    (Instr.mapUpdate t (.map (some r)) (kv k) v).run P w = .ok () (putMap w r kv (es ++ [(k, v)])) := by
  have hf := KO.find w k es 0
  have hp : posOf k es 0 = none := by
    have := posOf_getOf k es 0
    rw [hk] at this
    cases hp : posOf k es 0 with
    | none => rfl
    | some x => rw [hp] at this; simp at this
  rw [hp] at hf
  simp only [Instr.mapUpdate, Sem.run_bind, run_underlying ht, Result.andThen, MapKept.run_getObj_map h, KO.check, hf, MapKept.run_setObj_map _ h, putMap]
  congr 3
  simp [entL_append, entL]

end Go.Proofs.Ytgephhmkaonahaa
