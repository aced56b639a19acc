/- Keys that are structs of a number, a text and a number (schema's 'met'), and keys that are texts: how a map finds them; m[k]++ of a new key. No condition. -/
import Derived.Test.YtgephhmkaonahaaMap
import Derived.Laws.StructEq
namespace Go.Proofs.Ytgephhmkaonahaa
open Go.RowKit

def metK (k : Int × ByteArray × Int) : Value := .agg #[.int .i64 k.1, .string k.2.1, .int .i64 k.2.2]
def strK (s : ByteArray) : Value := .string s

theorem toList_inj (a b : ByteArray) : a.toList = b.toList ↔ a = b := by
  constructor
  · intro h
    rw [ByteArray.toList_eq, ByteArray.toList_eq] at h
    apply ByteArray.ext
    exact Array.toList_inj.1 h
  · rintro rfl; rfl

theorem met_equal (w : World) (a b : Int × ByteArray × Int) : (Op.equal 242 (metK a) (metK b)).run Try.prog w = .ok (decide (a = b)) w := by
  obtain ⟨a1, a2, a3⟩ := a
  obtain ⟨b1, b2, b3⟩ := b
  have hp : Try.prog.stoodInHeld 242 = false := by kernel_rfl
  simp only [metK]
  simp [Op.equal, Op.maxDepth, go_sem, hp, toList_inj]
  by_cases h1 : a1 = b1 <;> by_cases h2 : a2 = b2 <;> by_cases h3 : a3 = b3 <;> simp [h1, h2, h3]

theorem met_asking (w : World) (k : Int × ByteArray × Int) : ∀ (es : List ((Int × ByteArray × Int) × Value)) (i j : Nat),
    (Instr.findAsking 242 (metK k) (entL metK es i) j).run Try.prog w = .ok (posOf k es j) w
  | [], _, _ => rfl
  | (k', v) :: r, i, j => by
    simp only [entL, Instr.findAsking, Sem.run_bind, met_equal, Result.andThen, posOf]
    by_cases e : k = k'
    · simp [e, Sem.run_pure]
    · simp [e, met_asking w k r (i + 1) (j + 1)]

theorem met_check (w : World) (e : Bool) (k : Int × ByteArray × Int) : (Instr.checkKey e 10000 242 (metK k)).run Try.prog w = .ok () w := by
  obtain ⟨a1, a2, a3⟩ := k
  kernel_rfl

theorem met_ok : KeyOk Try.prog 242 metK where
  check w e k := met_check w e k
  find w k es i := by
    have hk := met_asking w k es i 0
    cases es with
    | nil => simp [Instr.findKey, entL, Instr.findNow, posOf, run_underlying Try.underlying242, Result.andThen]
    | cons x r =>
      obtain ⟨k', v⟩ := x
      have hn : ∀ (kind : TypeDesc) (l : List MapEntry) (j : Nat), Instr.findNow kind (metK k) (⟨metK k', v, i⟩ :: l) j = none := by
        intro kind l j
        have : Instr.sameNow kind (metK k) (metK k') = none := by cases kind <;> rfl
        simp only [Instr.findNow, this]
      rw [entL] at hk ⊢
      simp only [Instr.findKey, Sem.run_bind, run_underlying Try.underlying242, Result.andThen, hn]
      exact hk

theorem str_ok : KeyOk Try.prog 9 strK := keyOk_now Try.underlying9 (fun k => by simp [strK, MapKept.IsKey]) (fun k k' => by
  obtain ⟨r, h1, h2⟩ := MapKept.sameNow_of_keys (d := .string) (a := strK k) (b := strK k') (by simp [strK, MapKept.IsKey]) (by simp [strK, MapKept.IsKey])
  rw [h1]
  congr 1
  rw [Bool.eq_iff_iff, h2]
  simp [strK])

theorem modify_last {α : Type} (f : α → α) (x : α) : ∀ l : List α, (l ++ [x]).modify l.length f = l ++ [f x]
  | [] => rfl
  | y :: l => by simp [List.modify_succ_cons, modify_last f x l]

/-! m[k]++ of a new key -/
section
variable {K : Type} {P : Program} {t kt et : TypeId} {kv : K → Value}

theorem getOf_append [DecidableEq K] (k : K) : ∀ (es fs : List (K × Value)), getOf k (es ++ fs) = (getOf k es).orElse fun _ => getOf k fs
  | [], _ => rfl
  | (k', v) :: r, fs => by
    simp only [List.cons_append, getOf]
    split
    · rfl
    · exact getOf_append k r fs

theorem map_entry_new [DecidableEq K] (KO : KeyOk P kt kv) (ht : P.underlying t = some (.map kt et)) {z : Value} (hz : ∀ w : World, (zeroValue et).run P w = .ok z w) {w : World} {r : Nat} {es : List (K × Value)} (h : MapIs w r kv es) (k : K) (hk : getOf k es = none) :
    (Instr.mapEntry t (.map (some r)) (kv k)).run P w = .ok (.tuple #[z, .int .i64 es.length]) (putMap w r kv (es ++ [(k, z)])) := by
  have hf := KO.find w k es 0
  have hp : posOf k es 0 = none := by
    have := posOf_getOf k es 0
    rw [hk] at this
    cases hp : posOf k es 0 with
    | none => rfl
    | some x => rw [hp] at this; simp at this
  rw [hp] at hf
  simp only [Instr.mapEntry, Sem.run_bind, run_underlying ht, Result.andThen, MapKept.run_getObj_map h, KO.check, hf, hz, MapKept.run_setObj_map _ h, putMap, Sem.run_pure]
  congr 4
  · simp [entL_append, entL]
  · simp

theorem born_entL : ∀ (es : List (K × Value)) (i b : Nat), b < i → (entL kv es i).findIdx? (fun e => (e.born : Int) == (b : Int)) = none
  | [], _, _, _ => rfl
  | (k, v) :: r, i, b, h => by
    rw [entL, List.findIdx?_cons]
    have : (((⟨kv k, v, i⟩ : MapEntry).born : Int) == (b : Int)) = false := by simp; omega
    rw [this, born_entL r (i + 1) b (by omega)]
    rfl

theorem born_last : ∀ (es : List (K × Value)) (i : Nat) (k : K) (v : Value), (entL kv (es ++ [(k, v)]) i).findIdx? (fun e => (e.born : Int) == ((i + es.length : Nat) : Int)) = some es.length
  | [], i, k, v => by simp [entL]
  | (k', v') :: r, i, k, v => by
    rw [List.cons_append, entL, List.findIdx?_cons]
    have : (((⟨kv k', v', i⟩ : MapEntry).born : Int) == ((i + (r.length + 1) : Nat) : Int)) = false := by simp; omega
    simp only [List.length_cons, this]
    have ih := born_last r (i + 1) k v
    rw [show i + 1 + r.length = i + (r.length + 1) by omega] at ih
    rw [ih]
    rfl

theorem map_store_new [DecidableEq K] {w : World} {r : Nat} {es : List (K × Value)} {k : K} {z : Value} (h : MapIs w r kv (es ++ [(k, z)])) (v : Value) :
    (Instr.entryStore t (.map (some r)) (.int .i64 es.length) v).run P w = .ok () (putMap w r kv (es ++ [(k, v)])) := by
  have hl := born_last (kv := kv) es 0 k z
  rw [Nat.zero_add] at hl
  have hfi : (entL kv (es ++ [(k, z)]) 0).toArray.findIdx? (fun e => (e.born : Int) == (es.length : Int)) = some es.length := by
    rw [List.findIdx?_toArray]; exact hl
  have hmod : ((entL kv (es ++ [(k, z)]) 0).toArray.modify es.length fun e => { e with val := v }) = (entL kv (es ++ [(k, v)]) 0).toArray := by
    apply Array.toList_inj.1
    rw [Array.toList_modify, entL_append, entL_append]
    simp only [entL]
    have := modify_last (fun e : MapEntry => { e with val := v }) ⟨kv k, z, 0 + es.length⟩ (entL kv es 0)
    rw [entL_len] at this
    exact this
  have ha : (asInt (.int .i64 (es.length : Int))).run P w = .ok (es.length : Int) w := by simp [asInt, asIntOf]
  unfold Instr.entryStore
  simp only [Sem.run_bind, MapKept.run_getObj_map h, Result.andThen, ha]
  rw [hfi]
  simp only [MapKept.run_setObj_map _ h, putMap, hmod]
  simp
end

end Go.Proofs.Ytgephhmkaonahaa
