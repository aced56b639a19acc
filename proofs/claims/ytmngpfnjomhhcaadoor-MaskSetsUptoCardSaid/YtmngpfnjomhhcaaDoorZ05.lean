/- Blocks known whole: their cells, what leaves them as they are; two results in boxes of their own; rows kept. No condition. What view.Look and the document's Look return of any bytes and any message: vlook. No condition beyond that the arguments read as data. What the document's Look returns of any bytes and any message: vlook, the same as view.Look. No condition beyond that the arguments read as data. What run.size returns: runSize. No condition beyond that the bytes read as data. The values of a run: how many, or the code of the first that is not there. Plain lists, no program in sight. Plain law: which bytes begin with a code point, and how many they are, told in two ways (by the head's bits; by each length's code point's own bytes). No program in sight. No condition. The first place where a message's bytes are not right: plain functions; and what a right schema says of its fields. -/
import Derived.Test.YtmngpfnjomhhcaaDoorZ01
import Derived.Test.YtmngpfnjomhhcaaDoorZ04
import Derived.Maps.AppendAt
import Derived.RangeFuncFrom
import Derived.Deep.RegionWith
import Derived.Deep.RegionHeld3
import Init
namespace Go.Proofs.YtmngpfnjomhhcaaDoor
open Go.RowKit
/-- a block of one's own, known whole -/
def Blk (w : World) (b : Nat) (cs : List Value) (T : TypeId) : Prop := w.heap[b]? = some (.cells cs.toArray T (0, 0))
theorem Blk.cell {w : World} {b : Nat} {cs : List Value} {T : TypeId} (h : Blk w b cs T) (j : Nat) (u : Value) (hu : cs[j]? = some u) : w.cell? ⟨b, j, none⟩ = some u := by
  rw [cell_of_row _ _ _ _ T (0, 0) h]; simpa using hu
theorem Blk.free {w : World} {b : Nat} {cs : List Value} {T : TypeId} (h : Blk w b cs T) (j : Nat) : w.frozen? ⟨b, j, none⟩ = false := by
  unfold Blk at h
  simp [World.frozen?, h]
theorem Blk.lt {w : World} {b : Nat} {cs : List Value} {T : TypeId} (h : Blk w b cs T) : b < w.heap.size := by
  unfold Blk at h
  rw [Array.getElem?_eq_some_iff] at h
  exact h.1
theorem Blk.below {w w' : World} {b : Nat} {cs : List Value} {T : TypeId} (h : Blk w b cs T) (hb : Below w.heap.size w w') : Blk w' b cs T := (hb.block b h.lt).trans h
theorem Blk.alloc {w : World} {b : Nat} {cs : List Value} {T : TypeId} (h : Blk w b cs T) (o : Obj) : Blk (w.alloc o) b cs T := (Below.heap_alloc w o b h.lt).trans h
theorem Blk.new (w : World) (cs : List Value) (T : TypeId) : Blk (w.alloc (.cells cs.toArray T)) w.heap.size cs T := heap_alloc_new w _
theorem Blk.set_other {w : World} {b : Nat} {cs : List Value} {T : TypeId} (h : Blk w b cs T) (a : Addr) (v : Value) (hne : b ≠ a.block) : Blk (w.setCell a v) b cs T := (Below.heap_setCell w a v b hne).trans h
theorem Blk.set {w : World} {b : Nat} {cs : List Value} {T : TypeId} (h : Blk w b cs T) (j : Nat) (v : Value) : Blk (w.setCell ⟨b, j, none⟩ v) b (cs.set j v) T := by
  unfold Blk at *
  obtain ⟨hlt, hk⟩ := Array.getElem?_eq_some_iff.1 h
  show (w.heap.modify b _)[b]? = _
  rw [Array.getElem?_eq_getElem (by rw [Array.size_modify]; exact hlt), Array.getElem_modify_self, hk]
  simp
theorem Blk.new' (w : World) (cs : List Value) (T : TypeId) (n : Nat) (h : n = w.heap.size) : Blk (w.alloc (.cells cs.toArray T)) n cs T := by subst h; exact Blk.new w cs T
theorem row_keep {w w' : World} {base size n : Nat} {e : TypeId} {v : Value} {xs : List Value} (h : w.ownsRow base e size v n xs)
    (hk : ∀ b cur, base ≤ b → w.heap[b]? = some (.cells cur e (0, 0)) → w'.heap[b]? = w.heap[b]?) : w'.ownsRow base e size v n xs := by
  refine ⟨h.1, ?_⟩
  rcases h.2 with h2 | ⟨g, cap, cur, hv, hb, hg, hnc, hcm, hcs, ht⟩
  · exact .inl h2
  · exact .inr ⟨g, cap, cur, hv, hb, (hk g cur hb hg).trans hg, hnc, hcm, hcs, ht⟩
theorem Blk.grown {w w' : World} {b r : Nat} {cs : List Value} {T : TypeId} (h : Blk w b cs T) (hg : w.grownBy w' (some r)) (hne : b ≠ r) : Blk w' b cs T :=
  (hg.block b h.lt (fun e => hne (Option.some.inj e))).trans h
theorem Blk.put {W : World} {b r : Nat} {cs : List Value} {T : TypeId} (h : Blk W b cs T) (o : Obj) (hne : b ≠ r) : Blk (W.putObj r o) b cs T :=
  (World.putObj_heap_other hne).trans h
theorem below_put {H : Nat} (W : World) (l : Nat) (o : Obj) (h : H ≤ l) : Below H W (W.putObj l o) :=
  ⟨rfl, rfl, rfl, by simp [World.putObj], fun b hb => World.putObj_heap_other (by omega)⟩
/-- Two results in boxes of their own are stored, then the block of the rounds' deferred calls is shut. -/
theorem two_results {w W : World} {H B0 B1 BD : Nat} {u0 u1 : Value} {T0 T1 : TypeId} (r0 : Blk W B0 [u0] T0) (r1 : Blk W B1 [u1] T1) (hD : W.heap[BD]? = some (.deferred (some [])))
    (h01 : B0 ≠ B1) (h0 : H ≤ B0) (h1 : H ≤ B1) (hHD : H ≤ BD) (hB : Below H w W) (x y : Value) :
    ((W.setCell ⟨B0, 0, none⟩ x).setCell ⟨B1, 0, none⟩ y).heap[BD]? = some (.deferred (some [])) ∧
    (((W.setCell ⟨B0, 0, none⟩ x).setCell ⟨B1, 0, none⟩ y).putObj BD (.deferred none)).cell? ⟨B0, 0, none⟩ = some x ∧
    (((W.setCell ⟨B0, 0, none⟩ x).setCell ⟨B1, 0, none⟩ y).putObj BD (.deferred none)).cell? ⟨B1, 0, none⟩ = some y ∧
    Below H w (((W.setCell ⟨B0, 0, none⟩ x).setCell ⟨B1, 0, none⟩ y).putObj BD (.deferred none)) := by
  have n0 : BD ≠ B0 := by rintro rfl; unfold Blk at r0; rw [r0] at hD; cases hD
  have n1 : BD ≠ B1 := by rintro rfl; unfold Blk at r1; rw [r1] at hD; cases hD
  have d1 : (W.setCell ⟨B0, 0, none⟩ x).heap[BD]? = some (.deferred (some [])) := (Below.heap_setCell W _ _ _ n0).trans hD
  have d2 : ((W.setCell ⟨B0, 0, none⟩ x).setCell ⟨B1, 0, none⟩ y).heap[BD]? = some (.deferred (some [])) := (Below.heap_setCell _ _ _ _ n1).trans d1
  have s0 : Blk (W.setCell ⟨B0, 0, none⟩ x) B0 [x] T0 := r0.set 0 x
  have s1 : Blk (W.setCell ⟨B0, 0, none⟩ x) B1 [u1] T1 := r1.set_other _ _ (Ne.symm h01)
  have t0 : Blk ((W.setCell ⟨B0, 0, none⟩ x).setCell ⟨B1, 0, none⟩ y) B0 [x] T0 := s0.set_other _ _ h01
  have t1 : Blk ((W.setCell ⟨B0, 0, none⟩ x).setCell ⟨B1, 0, none⟩ y) B1 [y] T1 := s1.set 0 y
  refine ⟨d2, (t0.put _ (Ne.symm n0)).cell 0 _ rfl, (t1.put _ (Ne.symm n1)).cell 0 _ rfl, ?_⟩
  have b2 : Below H w ((W.setCell ⟨B0, 0, none⟩ x).setCell ⟨B1, 0, none⟩ y) := (hB.setCell h0 _).setCell h1 _
  exact b2.trans (below_put _ _ _ hHD)
/-- Results that a round has stored already. -/
theorem two_results0 {w W : World} {H B0 B1 BD : Nat} {u0 u1 : Value} {T0 T1 : TypeId} (r0 : Blk W B0 [u0] T0) (r1 : Blk W B1 [u1] T1) (hD : W.heap[BD]? = some (.deferred (some [])))
    (hHD : H ≤ BD) (hB : Below H w W) :
    (W.putObj BD (.deferred none)).cell? ⟨B0, 0, none⟩ = some u0 ∧ (W.putObj BD (.deferred none)).cell? ⟨B1, 0, none⟩ = some u1 ∧ Below H w (W.putObj BD (.deferred none)) := by
  have n0 : BD ≠ B0 := by rintro rfl; unfold Blk at r0; rw [r0] at hD; cases hD
  have n1 : BD ≠ B1 := by rintro rfl; unfold Blk at r1; rw [r1] at hD; cases hD
  exact ⟨(r0.put _ (Ne.symm n0)).cell 0 _ rfl, (r1.put _ (Ne.symm n1)).cell 0 _ rfl, hB.trans (below_put _ _ _ hHD)⟩
theorem seg_blk {w : World} {g : Nat} {cs : List Value} {T : TypeId} (h : Blk w g cs T) (size n : Nat) (hl : cs.length = n * size) (hn : n ≤ 140737488355328) : Seg w (.slice (some ⟨g, 0, none⟩) n n) size n cs :=
  ⟨hl, hn, _, _, rfl, Nat.le_refl _, by omega, by simp, fun j u hu => ⟨g, 0, rfl, by rw [Nat.zero_add]; exact h.cell j u hu⟩⟩
end Go.Proofs.YtmngpfnjomhhcaaDoor
namespace Go.Proofs.YtmngpfnjomhhcaaDoor
open Go.RowKit
end Go.Proofs.YtmngpfnjomhhcaaDoor
namespace Go.Proofs.YtmngpfnjomhhcaaDoor
open Go.RowKit
end Go.Proofs.YtmngpfnjomhhcaaDoor
namespace Go.Proofs.YtmngpfnjomhhcaaDoor
open Go.RowKit
end Go.Proofs.YtmngpfnjomhhcaaDoor
namespace Go.Proofs.YtmngpfnjomhhcaaDoor
open Go.RowKit
end Go.Proofs.YtmngpfnjomhhcaaDoor
namespace Go.Proofs.YtmngpfnjomhhcaaDoor
def b8 (n : Nat) : UInt8 := UInt8.ofNat n
end Go.Proofs.YtmngpfnjomhhcaaDoor
namespace Go.Proofs.YtmngpfnjomhhcaaDoor
open Go.RowKit
/-! A right schema -/
theorem fieldFault_of {n : Nat} {nm nu : Bool} {f : Fld} (h : fieldFault n nm nu f = 0) : kright f.kind = true ∧ (f.kind = 17 → 0 ≤ f.of ∧ f.of < n) ∧ (f.kind ≠ 17 → f.of = 0) ∧ (f.packed = true → f.rep = true ∧ knumber f.kind = true) := by
  obtain ⟨h1, rfl, h2, rfl⟩ := fieldFault_ok h
  unfold fieldFault at h
  rw [if_neg (by simp [h1]), if_neg (by decide), if_neg (by simp [h2]), if_neg (by decide)] at h
  by_cases h3 : kright f.kind = false
  · rw [if_pos h3] at h; omega
  rw [if_neg h3] at h
  by_cases h4 : f.packed = true ∧ (f.rep = false ∨ knumber f.kind = false)
  · rw [if_pos h4] at h; omega
  rw [if_neg h4] at h
  by_cases h5 : f.kind = 17 ∧ (f.of < 0 ∨ (n : Int) ≤ f.of) ∨ f.kind ≠ 17 ∧ f.of ≠ 0
  · rw [if_pos h5] at h; omega
  refine ⟨by simpa using h3, fun e => ?_, fun e => ?_, fun e => ?_⟩
  · constructor
    · exact Int.not_lt.1 fun hh => h5 (.inl ⟨e, .inl hh⟩)
    · exact Int.not_le.1 fun hh => h5 (.inl ⟨e, .inr hh⟩)
  · exact Decidable.byContradiction fun hh => h5 (.inr ⟨e, hh⟩)
  · constructor
    · cases hr : f.rep with
      | true => rfl
      | false => exact absurd ⟨e, .inl hr⟩ h4
    · cases hr : knumber f.kind with
      | true => rfl
      | false => exact absurd ⟨e, .inr hr⟩ h4
theorem fieldsFault_none {n : Nat} : ∀ (fs bf : List Fld) (k : Nat), fieldsFault n bf fs k = none → ∀ f ∈ fs, ∃ nm nu, fieldFault n nm nu f = 0
  | [], _, _, _ => by simp
  | g :: r, bf, k, h => by
    rw [fieldsFault] at h
    by_cases h0 : fieldFault n (nameMet bf g.name) (numMet bf g.number) g = 0
    · rw [if_pos h0] at h
      intro f hf
      rcases List.mem_cons.1 hf with rfl | hf
      · exact ⟨_, _, h0⟩
      · exact fieldsFault_none r _ _ h f hf
    · rw [if_neg h0] at h; cases h
theorem scheckGo_ok {n : Nat} : ∀ (s bm : List Mes) (i : Nat), (scheckGo n bm s i).2.2 = 0 → ∀ m ∈ s, fieldsFault n [] m.fields 0 = none ∧ m.fields.length ≤ 200 ∧ nameOk m.name = true
  | [], _, _, _ => by simp
  | g :: r, bm, i, h => by
    rw [scheckGo] at h
    by_cases h1 : nameOk g.name = false
    · rw [if_pos h1] at h; simp at h
    rw [if_neg h1] at h
    by_cases h2 : mesMet bm g.name = true
    · rw [if_pos h2] at h; simp at h
    rw [if_neg h2] at h
    by_cases h3 : 200 < g.fields.length
    · rw [if_pos h3] at h; simp at h
    rw [if_neg h3] at h
    cases h4 : fieldsFault n [] g.fields 0 with
    | some p =>
      rw [h4] at h
      obtain ⟨k, x⟩ := p
      have : x ≠ 0 := by
        rintro rfl
        exact fieldsFault_nz _ _ _ h4
      simp at h
      exact absurd h this
    | none =>
      rw [h4] at h
      intro m hm
      rcases List.mem_cons.1 hm with rfl | hm
      · exact ⟨h4, by omega, by simpa using h1⟩
      · exact scheckGo_ok r _ _ h m hm
where
  fieldsFault_nz {n : Nat} : ∀ (fs bf : List Fld) (k : Nat) {j : Nat}, fieldsFault n bf fs k ≠ some (j, 0)
  | [], _, _, _ => by simp [fieldsFault]
  | g :: r, bf, k, j => by
    rw [fieldsFault]
    by_cases h0 : fieldFault n (nameMet bf g.name) (numMet bf g.number) g = 0
    · rw [if_pos h0]; exact fieldsFault_nz r _ _
    · rw [if_neg h0]
      intro h
      injection h with h
      exact h0 (congrArg Prod.snd h)
/-- what a right schema says of a field of a message -/
theorem sright_field {s : List Mes} (h : sright s = true) (m : Nat) (hm : m < s.length) (f : Fld) (hf : f ∈ (s.getD m .zero).fields) :
    kright f.kind = true ∧ (f.kind = 17 → 0 ≤ f.of ∧ f.of < s.length) ∧ (f.kind ≠ 17 → f.of = 0) ∧ (f.packed = true → f.rep = true ∧ knumber f.kind = true) := by
  have h0 : (scheck s).2.2 = 0 := of_decide_eq_true h
  unfold scheck at h0
  by_cases h1 : s.length = 0 ∨ 100 < s.length
  · rw [if_pos h1] at h0; simp at h0
  rw [if_neg h1] at h0
  have hmem : s.getD m .zero ∈ s := by
    have : s.getD m .zero = s[m] := by simp [List.getD, hm]
    rw [this]; exact List.getElem_mem hm
  obtain ⟨h2, -, -⟩ := scheckGo_ok s [] 0 h0 _ hmem
  obtain ⟨nm, nu, h3⟩ := fieldsFault_none _ _ _ h2 f hf
  exact fieldFault_of h3
end Go.Proofs.YtmngpfnjomhhcaaDoor
