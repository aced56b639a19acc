/- Plain laws: the places of fields by rising numbers, what is alike in its order. No condition. bits.Word, darningref01.Word: the word of at most eight bytes (wordOf). No condition. scalar.Read, darningref08.Read, darningref05.Fits: a number's bytes (kread). The kind is a number's. -/
import Derived.Test.YtfimpmennkfjcaaGreatDoorZ01
import Derived.Test.YtfimpmennkfjcaaGreatDoorZ03
import Derived.Test.YtfimpmennkfjcaaGreatDoorZ05
import Derived.Test.YtfimpmennkfjcaaGreatDoorZ13
import Derived.Test.YtfimpmennkfjcaaGreatDoorZ19
import Derived.Test.YtfimpmennkfjcaaGreatDoorZ20
namespace Go.Proofs.YtfimpmennkfjcaaGreatDoor
def numAt (fs : List Fld) (i : Int) : Int := (fs.getD i.toNat .zero).number
/-- comes a place ahead of another one? -/
def Ahead (fs : List Fld) (i j : Int) : Prop := numAt fs i < numAt fs j ∨ numAt fs i = numAt fs j ∧ i < j
theorem Ahead.trans {fs : List Fld} (x y z : Int) (h : Ahead fs x y) (h2 : Ahead fs y z) : Ahead fs x z := by unfold Ahead at *; omega
theorem Ahead.asymm {fs : List Fld} (x y : Int) (h : Ahead fs x y) : ¬ Ahead fs y x := by unfold Ahead at *; omega
def upTo (n : Nat) : List Int := (List.range n).map fun k : Nat => (k : Int)
theorem upTo_succ (n : Nat) : upTo (n + 1) = upTo n ++ [(n : Int)] := by unfold upTo; rw [List.range_succ, List.map_append]; rfl
theorem upTo_mem {n : Nat} {x : Int} : x ∈ upTo n ↔ 0 ≤ x ∧ x < n := by
  unfold upTo
  rw [List.mem_map]
  constructor
  · rintro ⟨k, hk, rfl⟩
    have := List.mem_range.1 hk
    omega
  · intro h
    exact ⟨x.toNat, List.mem_range.2 (by omega), by omega⟩
/-- the place in a row where i is put -/
def posF (fs : List Fld) (i : Int) (o : List Int) : Nat := (o.takeWhile fun u => decide (numAt fs u ≤ numAt fs i)).length
def insF (fs : List Fld) (i : Int) (o : List Int) : List Int := o.take (posF fs i o) ++ i :: o.drop (posF fs i o)
def sortF (fs : List Fld) : Nat → List Int
  | 0 => []
  | n + 1 => insF fs (n : Int) (sortF fs n)
/-- the places of all fields -/
def sortedF (fs : List Fld) : List Int := sortF fs fs.length
theorem posF_from (fs : List Fld) (i : Int) (o : List Int) : (∀ k, k < posF fs i o → ∃ u, o[k]? = some u ∧ numAt fs u ≤ numAt fs i) ∧ (∀ u, o[posF fs i o]? = some u → numAt fs i < numAt fs u) := by
  unfold posF
  induction o with
  | nil => simp
  | cons u r ih =>
    rw [List.takeWhile_cons]
    by_cases h : numAt fs u ≤ numAt fs i
    · simp only [decide_eq_true h, if_true, List.length_cons]
      refine ⟨fun k hk => ?_, fun v hv => ih.2 v (by simpa using hv)⟩
      cases k with
      | zero => exact ⟨u, rfl, h⟩
      | succ k => simpa using ih.1 k (by omega)
    · simp only [decide_eq_false h, Bool.false_eq_true, if_false, List.length_nil]
      refine ⟨fun k hk => by omega, fun v hv => ?_⟩
      simp at hv
      subst hv
      omega
theorem sortF_ok (fs : List Fld) : ∀ n, (sortF fs n).Perm (upTo n) ∧ (sortF fs n).Pairwise (Ahead fs)
  | 0 => ⟨List.Perm.refl _, List.Pairwise.nil⟩
  | n + 1 => by
    obtain ⟨h1, h2⟩ := sortF_ok fs n
    obtain ⟨h3, h4⟩ := posF_from fs (n : Int) (sortF fs n)
    have hm : ∀ u ∈ sortF fs n, u < (n : Int) := fun u hu => (upTo_mem.1 (h1.mem_iff.1 hu)).2
    rw [sortF, upTo_succ]
    refine ⟨?_, ?_⟩
    · exact (perm_insert _ _).trans ((List.Perm.cons _ h1).trans (List.perm_append_singleton _ _).symm)
    · refine srt_insert Ahead.trans h2 _ ?_ ?_
      · by_cases h0 : posF fs n (sortF fs n) = 0
        · exact .inl h0
        · obtain ⟨u, hu, hle⟩ := h3 (posF fs n (sortF fs n) - 1) (by omega)
          refine .inr ⟨u, hu, ?_⟩
          have := hm u (List.mem_of_getElem? hu)
          unfold Ahead
          omega
      · by_cases hl : (sortF fs n).length ≤ posF fs n (sortF fs n)
        · exact .inl hl
        · have hu := List.getElem?_eq_getElem (l := sortF fs n) (i := posF fs n (sortF fs n)) (by omega)
          exact .inr ⟨_, hu, .inl (h4 _ hu)⟩
end Go.Proofs.YtfimpmennkfjcaaGreatDoor
namespace Go.Proofs.YtfimpmennkfjcaaGreatDoor
open Go.RowKit
end Go.Proofs.YtfimpmennkfjcaaGreatDoor
namespace Go.Proofs.YtfimpmennkfjcaaGreatDoor
open Go.RowKit
theorem kright_num {k : Int} (h : knumber k = true) : kright k = true := by unfold knumber at h; unfold kright; simp at h ⊢; omega
end Go.Proofs.YtfimpmennkfjcaaGreatDoor
