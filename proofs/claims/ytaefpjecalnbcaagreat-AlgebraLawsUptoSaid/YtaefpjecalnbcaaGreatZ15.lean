/- A region that draws its order, with stores: walked in an order of one's own choice (ts: an operation's place, and its tag). No condition. A region that draws its order, with stores and guards: walked in an order of one's own choice (ts: an operation's place, its tag, the slot of its guard). No condition. A region that draws its order, in which two allocations float among calls: they may come up at any time; what follows waits for both. No condition. A region that draws its order, in which one allocation floats among calls: it may come up at any time; what follows waits for it. No condition. -/
import Derived.Test.YtaefpjecalnbcaaGreatZ07
import Derived.Test.YtaefpjecalnbcaaGreatZ10
import Derived.Test.YtaefpjecalnbcaaGreatZ14
namespace Go.Proofs.YtaefpjecalnbcaaGreat
open Go.RowKit
variable {P : Program} {ops : Array Oper} {md : Region.Mode} {w : World} {V X : World → Prop} {g : Nat} {Q : Exit → Act → World → Prop}
def planP (md : Region.Mode) (ops : Array Oper) (g : Nat) : List (Nat × Nat) → Array Bool → Bool
  | [], listed => (Region.ready md ops listed).isEmpty
  | t :: ts, listed => (match t.2 with
      | 0 => Region.free md ops listed t.1 && (Region.ready md ops listed).contains t.1 && !(t.1 == g) && ((ops[t.1]?).map fun o => o.guard.isNone).getD false
      | 1 => Region.free md ops listed t.1 && (Region.ready md ops listed).contains t.1 && !(t.1 == g) && ((ops[t.1]?).map fun o => o.guard.isNone).getD false && laterB md ops 60 t.1 g
      | _ => decide (Region.ready md ops listed = [t.1]) && (listed.setIfInBounds t.1 true).getD g false) && planP md ops g ts (listed.setIfInBounds t.1 true)
theorem wpAnyG_perm (hsel : Region.noSelect ops = true) (hQ : ∀ c (a : Act) dst v w, Q (.panic c) (a.put dst v) w → Q (.panic c) a w) (ts : List (Nat × Nat)) : ∀ (os : List Oper) (listed : Array Bool) (a : Act) (w : World),
    os.map some = ts.map (fun t => ops[t.1]?) → ClosedL md ops listed → planP md ops g ts listed = true → V w → (listed.getD g false = false → X w) → seqG P ops Q V X (ts.map (·.2)) os a w →
    wpAnyG P md ops Q V X g ts.length listed a w := by
  induction ts with
  | nil =>
    intro os listed a w hl _ hB _ _ h
    cases os with
    | nil => exact ⟨by simpa [planP] using hB, h⟩
    | cons o os => simp at hl
  | cons t ts ih =>
    intro os listed a w hl hc hB hV hX h
    cases os with
    | nil => simp at hl
    | cons o os =>
      rw [List.map_cons, List.map_cons] at hl
      obtain ⟨hi0, hl'⟩ := List.cons.inj hl
      clear hl
      obtain ⟨k, tag⟩ := t
      have hi : ops[k]? = some o := hi0.symm
      clear hi0
      rw [List.length_cons]
      rw [List.map_cons] at h
      simp only at h
      rcases tag with _ | _ | n
      · obtain ⟨v, hy, h⟩ := h
        unfold planP at hB
        obtain ⟨hB1, hB2⟩ := (Bool.and_eq_true _ _).mp hB
        simp only [Bool.and_eq_true, Bool.not_eq_true', beq_eq_false_iff_ne] at hB1
        obtain ⟨⟨⟨h3, h4⟩, h5⟩, h6⟩ := hB1
        have h4' : k ∈ Region.ready md ops listed := List.contains_iff_mem.1 h4
        rw [hi] at h6
        refine wpAnyG_first hi (Region.noSelect_spec hsel) (fun c a w h => hQ c _ _ _ w h) h5 V (fun _ _ _ _ hA => hA.1) ts.length listed a w hc (Region.free_spec hi h3) h4' (Or.inl ⟨wanted_none h6, hy⟩) ⟨hV, hX⟩ ?_
        exact ih os _ _ w hl' (hc.set h4') hB2 hV (fun h0 => hX (by rw [getD_set_ne false h5] at h0; exact h0)) h
      · obtain ⟨v, hy, h⟩ := h
        unfold planP at hB
        obtain ⟨hB1, hB2⟩ := (Bool.and_eq_true _ _).mp hB
        simp only [Bool.and_eq_true, Bool.not_eq_true', beq_eq_false_iff_ne] at hB1
        obtain ⟨⟨⟨⟨h3, h4⟩, h5⟩, h6⟩, h8⟩ := hB1
        have h4' : k ∈ Region.ready md ops listed := List.contains_iff_mem.1 h4
        rw [hi] at h6
        refine wpAnyG_first hi (Region.noSelect_spec hsel) (fun c a w h => hQ c _ _ _ w h) h5 X (fun _ _ hc hl hA => hA.2 (later_spec hc 60 k g h8 hl).2) ts.length listed a w hc (Region.free_spec hi h3) h4' (Or.inl ⟨wanted_none h6, hy⟩) ⟨hV, hX⟩ ?_
        exact ih os _ _ w hl' (hc.set h4') hB2 hV (fun h0 => hX (by rw [getD_set_ne false h5] at h0; exact h0)) h
      · unfold planP at hB
        obtain ⟨hB1, hB2⟩ := (Bool.and_eq_true _ _).mp hB
        obtain ⟨h3, h4⟩ := (Bool.and_eq_true _ _).mp hB1
        replace h3 := of_decide_eq_true h3
        have h4' : k ∈ Region.ready md ops listed := by rw [h3]; exact List.mem_singleton.2 rfl
        refine wpAnyG_one h3 hi h4 fun K HK => h K (hid fun a' w' hV' hK => HK.out a' w' hV' fun hV'' => ?_)
        exact ih os _ a' w' hl' (hc.set h4') hB2 hV'' (fun h0 => by rw [h4] at h0; cases h0) (hK hV'')
theorem picks {l : List Oper} : ∀ ts : List (Nat × Nat), (ts.all fun t => decide (t.1 < l.length)) = true → (ts.filterMap fun t => l[t.1]?).map some = ts.map fun t => l.toArray[t.1]?
  | [], _ => rfl
  | t :: ts, h => by
    rw [List.all_cons, Bool.and_eq_true] at h
    have h1 : t.1 < l.length := of_decide_eq_true h.1
    have h2 : l[t.1]? = some (l[t.1]'h1) := List.getElem?_eq_getElem h1
    rw [List.filterMap_cons, h2]
    simp only [List.map_cons]
    rw [picks ts h.2, List.getElem?_toArray, h2]
theorem wp_region_perm {id : Nat} {l : List Oper} {a : Act} {w : World} (V X : World → Prop) (g : Nat) (ts : List (Nat × Nat)) (hm : P.follows .mixedOrders = true) (hlen : ts.length = l.length)
    (hin : (ts.all fun t => decide (t.1 < l.length)) = true) (hB : (Region.noSelect l.toArray && planP .any l.toArray g ts (Array.replicate l.length false)) = true) (hQ : ∀ c (a : Act) dst v w, Q (.panic c) (a.put dst v) w → Q (.panic c) a w)
    (hV : V w.drew) (hX : X w.drew) (h0 : ∀ ops', Hid (ops' = l.toArray) → seqG P ops' Q V X (ts.map (·.2)) (ts.filterMap fun t => l[t.1]?) a w.drew) : (Code.region id l.toArray true).wp P Q a w := by
  have h := h0 l.toArray (hid rfl)
  rw [Bool.and_eq_true] at hB
  refine wp_region_any hm (wpAny_of_G (V := V) (X := X) (g := g) _ _ _ _ ?_)
  have := wpAnyG_perm (md := .any) (Q := Q) (V := V) (X := X) (P := P) (g := g) hB.1 hQ ts _ (Array.replicate l.length false) a w.drew (picks ts hin) (fun j oj _ hl => by
    rw [Array.getD_eq_getD_getElem?, Array.getElem?_replicate] at hl
    split at hl <;> cases hl) hB.2 hV (fun _ => hX) h
  rw [hlen] at this
  have e : l.toArray.size = l.length := by simp
  rw [e]
  exact this
end Go.Proofs.YtaefpjecalnbcaaGreat
namespace Go.Proofs.YtaefpjecalnbcaaGreat
open Go.RowKit
variable {P : Program} {ops : Array Oper} {md : Region.Mode} {w : World} {V X : World → Prop} {g : Nat} {Q : Exit → Act → World → Prop}
/-- the guard's value lies in slot d -/
def guardSlot (ops : Array Oper) (k d : Nat) : Bool := match (ops[k]?).bind (·.guard) with
  | some (j, _) => decide ((ops[j]?).bind (·.dst) = some d)
  | none => false
def guardTrue (o : Oper) : Bool := match o.guard with
  | some (_, b) => b
  | none => true
theorem wanted_slot {k d : Nat} {o : Oper} {a : Act} {b : Bool} (hk : ops[k]? = some o) (h : guardSlot ops k d = true) (ht : a.tmps[d]? = some (.bool b)) : Region.wanted o (yielded ops a.tmps) = decide (b = guardTrue o) := by
  unfold guardSlot at h
  rw [hk] at h
  simp only [Option.bind_some] at h
  cases hg : o.guard with
  | none => rw [hg] at h; cases h
  | some p =>
    obtain ⟨j, c⟩ := p
    rw [hg] at h
    have h2 : (ops[j]?).bind (·.dst) = some d := of_decide_eq_true h
    have hy : yielded ops a.tmps j = some b := by
      unfold yielded
      rw [h2]
      simp only [Option.bind_some, ht]
    unfold Region.wanted guardTrue
    rw [hg]
    simp only [hy]
    cases b <;> cases c <;> rfl
/-- tags: 0 quiet by V, 1 quiet by X, 2 alone; guarded: 4 quiet by V, 5 passed over, 6 alone -/
def planH (md : Region.Mode) (ops : Array Oper) (g : Nat) : List (Nat × Nat × Nat) → Array Bool → Bool
  | [], listed => (Region.ready md ops listed).isEmpty
  | (k, t, d) :: ts, listed => (match t with
      | 0 => Region.free md ops listed k && (Region.ready md ops listed).contains k && !(k == g) && ((ops[k]?).map fun o => o.guard.isNone).getD false
      | 1 => Region.free md ops listed k && (Region.ready md ops listed).contains k && !(k == g) && ((ops[k]?).map fun o => o.guard.isNone).getD false && laterB md ops 60 k g
      | 4 => Region.free md ops listed k && (Region.ready md ops listed).contains k && !(k == g) && guardSlot ops k d
      | 5 => Region.free md ops listed k && (Region.ready md ops listed).contains k && !(k == g) && guardSlot ops k d
      | 6 => decide (Region.ready md ops listed = [k]) && (listed.setIfInBounds k true).getD g false && guardSlot ops k d
      | _ => decide (Region.ready md ops listed = [k]) && (listed.setIfInBounds k true).getD g false) && planH md ops g ts (listed.setIfInBounds k true)
def seqH (P : Program) (ops : Array Oper) (Q : Exit → Act → World → Prop) (V X : World → Prop) : List (Nat × Nat) → List Oper → Act → World → Prop
  | (0, _) :: ts, o :: os, a, w => ∃ v, (∀ w, V w → (execOp a.eval o).run P w = .ok (.value v) w) ∧ seqH P ops Q V X ts os (a.put o.dst v) w
  | (1, _) :: ts, o :: os, a, w => ∃ v, (∀ w, X w → (execOp a.eval o).run P w = .ok (.value v) w) ∧ seqH P ops Q V X ts os (a.put o.dst v) w
  | (4, d) :: ts, o :: os, a, w => a.tmps[d]? = some (.bool (guardTrue o)) ∧ ∃ v, (∀ w, V w → (execOp a.eval o).run P w = .ok (.value v) w) ∧ seqH P ops Q V X ts os (a.put o.dst v) w
  | (5, d) :: ts, o :: os, a, w => a.tmps[d]? = some (.bool (!guardTrue o)) ∧ seqH P ops Q V X ts os (a.put o.dst undef) w
  | (6, d) :: ts, o :: os, a, w => a.tmps[d]? = some (.bool (guardTrue o)) ∧ ∀ K : Exit → Act → World → Prop, Hid (∀ a' w', V w' → (V w' → seqH P ops Q V X ts os a' w') → K .normal a' w') → wpList P ops K [{ o with guard := none }] a w
  | _ :: ts, o :: os, a, w => ∀ K : Exit → Act → World → Prop, Hid (∀ a' w', V w' → (V w' → seqH P ops Q V X ts os a' w') → K .normal a' w') → wpList P ops K [o] a w
  | _, _, a, w => Q .normal a w
theorem unguard {o : Oper} {K : Exit → Act → World → Prop} {a : Act} {w : World} (h : wpList P ops K [{ o with guard := none }] a w) (hw : Region.wanted o (yielded ops a.tmps) = true) : wpList P ops K [o] a w := by
  unfold wpList at h ⊢
  rw [if_pos hw]
  rw [if_pos (by rfl)] at h
  exact h
theorem wpAnyG_one' {k : Nat} {o : Oper} {fuel : Nat} {listed : Array Bool} {a : Act} {w : World} {T : Act → World → Prop} (hr : Region.ready md ops listed = [k]) (hk : ops[k]? = some o)
    (hg : (listed.setIfInBounds k true).getD g false = true) (h : ∀ K : Exit → Act → World → Prop, Hid (∀ a' w', V w' → (V w' → T a' w') → K .normal a' w') → wpList P ops K [o] a w)
    (hT : ∀ a' w', V w' → T a' w' → wpAnyG P md ops Q V X g fuel (listed.setIfInBounds k true) a' w') : wpAnyG P md ops Q V X g (fuel + 1) listed a w :=
  wpAnyG_one hr hk hg fun K HK => h K (hid fun a' w' hV hK => HK.out a' w' hV fun hV'' => hT a' w' hV'' (hK hV''))
theorem wpAnyG_permH (hsel : Region.noSelect ops = true) (hQ : ∀ c (a : Act) dst v w, Q (.panic c) (a.put dst v) w → Q (.panic c) a w) (ts : List (Nat × Nat × Nat)) : ∀ (os : List Oper) (listed : Array Bool) (a : Act) (w : World),
    os.map some = ts.map (fun t => ops[t.1]?) → ClosedL md ops listed → planH md ops g ts listed = true → V w → (listed.getD g false = false → X w) → seqH P ops Q V X (ts.map (·.2)) os a w →
    wpAnyG P md ops Q V X g ts.length listed a w := by
  induction ts with
  | nil =>
    intro os listed a w hl _ hB _ _ h
    cases os with
    | nil => exact ⟨by simpa [planH] using hB, h⟩
    | cons o os => simp at hl
  | cons t ts ih =>
    intro os listed a w hl hc hB hV hX h
    cases os with
    | nil => simp at hl
    | cons o os =>
      rw [List.map_cons, List.map_cons] at hl
      obtain ⟨hi0, hl'⟩ := List.cons.inj hl
      clear hl
      obtain ⟨k, tag, d⟩ := t
      have hi : ops[k]? = some o := hi0.symm
      clear hi0
      rw [List.length_cons]
      rw [List.map_cons] at h
      unfold planH at hB
      obtain ⟨hB1, hB2⟩ := (Bool.and_eq_true _ _).mp hB
      clear hB
      have quiet : ∀ v, Region.free md ops listed k = true → (Region.ready md ops listed).contains k = true → k ≠ g → YieldsIf P ops V o v a → seqH P ops Q V X (ts.map (·.2)) os (a.put o.dst v) w → wpAnyG P md ops Q V X g (ts.length + 1) listed a w := fun v h3 h4 h5 hy h => by
        have h4' : k ∈ Region.ready md ops listed := List.contains_iff_mem.1 h4
        refine wpAnyG_first hi (Region.noSelect_spec hsel) (fun c a w h => hQ c _ _ _ w h) h5 V (fun _ _ _ _ hA => hA.1) ts.length listed a w hc (Region.free_spec hi h3) h4' hy ⟨hV, hX⟩ ?_
        exact ih os _ _ w hl' (hc.set h4') hB2 hV (fun h0 => hX (by rw [getD_set_ne false h5] at h0; exact h0)) h
      have alone : Region.ready md ops listed = [k] → (listed.setIfInBounds k true).getD g false = true → (∀ K : Exit → Act → World → Prop, Hid (∀ a' w', V w' → (V w' → seqH P ops Q V X (ts.map (·.2)) os a' w') → K .normal a' w') → wpList P ops K [o] a w) → wpAnyG P md ops Q V X g (ts.length + 1) listed a w := fun h3 h4 h => by
        have h4' : k ∈ Region.ready md ops listed := by rw [h3]; exact List.mem_singleton.2 rfl
        exact wpAnyG_one' h3 hi h4 h fun a' w' hV' hT => ih os _ a' w' hl' (hc.set h4') hB2 hV' (fun h0 => by rw [h4] at h0; cases h0) hT
      match tag, hB1, h with
      | 0, hB1, h =>
        obtain ⟨v, hy, h⟩ := h
        simp only [Bool.and_eq_true, Bool.not_eq_true', beq_eq_false_iff_ne] at hB1
        obtain ⟨⟨⟨h3, h4⟩, h5⟩, h6⟩ := hB1
        rw [hi] at h6
        exact quiet v h3 h4 h5 (Or.inl ⟨wanted_none h6, hy⟩) h
      | 1, hB1, h =>
        obtain ⟨v, hy, h⟩ := h
        simp only [Bool.and_eq_true, Bool.not_eq_true', beq_eq_false_iff_ne] at hB1
        obtain ⟨⟨⟨⟨h3, h4⟩, h5⟩, h6⟩, h8⟩ := hB1
        have h4' : k ∈ Region.ready md ops listed := List.contains_iff_mem.1 h4
        rw [hi] at h6
        refine wpAnyG_first hi (Region.noSelect_spec hsel) (fun c a w h => hQ c _ _ _ w h) h5 X (fun _ _ hc hl hA => hA.2 (later_spec hc 60 k g h8 hl).2) ts.length listed a w hc (Region.free_spec hi h3) h4' (Or.inl ⟨wanted_none h6, hy⟩) ⟨hV, hX⟩ ?_
        exact ih os _ _ w hl' (hc.set h4') hB2 hV (fun h0 => hX (by rw [getD_set_ne false h5] at h0; exact h0)) h
      | 4, hB1, h =>
        obtain ⟨ht, v, hy, h⟩ := h
        simp only [Bool.and_eq_true, Bool.not_eq_true', beq_eq_false_iff_ne] at hB1
        obtain ⟨⟨⟨h3, h4⟩, h5⟩, h6⟩ := hB1
        exact quiet v h3 h4 h5 (Or.inl ⟨by rw [wanted_slot hi h6 ht]; simp, hy⟩) h
      | 5, hB1, h =>
        obtain ⟨ht, h⟩ := h
        simp only [Bool.and_eq_true, Bool.not_eq_true', beq_eq_false_iff_ne] at hB1
        obtain ⟨⟨⟨h3, h4⟩, h5⟩, h6⟩ := hB1
        exact quiet undef h3 h4 h5 (Or.inr ⟨by rw [wanted_slot hi h6 ht]; simp, rfl⟩) h
      | 6, hB1, h =>
        obtain ⟨ht, h⟩ := h
        simp only [Bool.and_eq_true, decide_eq_true_eq] at hB1
        obtain ⟨⟨h3, h4⟩, h6⟩ := hB1
        exact alone h3 h4 fun K HK => unguard (h K HK) (by rw [wanted_slot hi h6 ht]; simp)
      | 2, hB1, h =>
        simp only [Bool.and_eq_true, decide_eq_true_eq] at hB1
        exact alone hB1.1 hB1.2 h
      | 3, hB1, h =>
        simp only [Bool.and_eq_true, decide_eq_true_eq] at hB1
        exact alone hB1.1 hB1.2 h
      | n + 7, hB1, h =>
        simp only [Bool.and_eq_true, decide_eq_true_eq] at hB1
        exact alone hB1.1 hB1.2 h
theorem picksH {l : List Oper} : ∀ ts : List (Nat × Nat × Nat), (ts.all fun t => decide (t.1 < l.length)) = true → (ts.filterMap fun t => l[t.1]?).map some = ts.map fun t => l.toArray[t.1]?
  | [], _ => rfl
  | t :: ts, h => by
    rw [List.all_cons, Bool.and_eq_true] at h
    have h1 : t.1 < l.length := of_decide_eq_true h.1
    have h2 : l[t.1]? = some (l[t.1]'h1) := List.getElem?_eq_getElem h1
    rw [List.filterMap_cons, h2]
    simp only [List.map_cons]
    rw [picksH ts h.2, List.getElem?_toArray, h2]
theorem wp_region_guard {id : Nat} {l : List Oper} {a : Act} {w : World} (V X : World → Prop) (g : Nat) (ts : List (Nat × Nat × Nat)) (hm : P.follows .mixedOrders = true) (hlen : ts.length = l.length)
    (hin : (ts.all fun t => decide (t.1 < l.length)) = true) (hB : (Region.noSelect l.toArray && planH .any l.toArray g ts (Array.replicate l.length false)) = true) (hQ : ∀ c (a : Act) dst v w, Q (.panic c) (a.put dst v) w → Q (.panic c) a w)
    (hV : V w.drew) (hX : X w.drew) (h0 : ∀ ops', Hid (ops' = l.toArray) → seqH P ops' Q V X (ts.map (·.2)) (ts.filterMap fun t => l[t.1]?) a w.drew) : (Code.region id l.toArray true).wp P Q a w := by
  have h := h0 l.toArray (hid rfl)
  rw [Bool.and_eq_true] at hB
  refine wp_region_any hm (wpAny_of_G (V := V) (X := X) (g := g) _ _ _ _ ?_)
  have := wpAnyG_permH (md := .any) (Q := Q) (V := V) (X := X) (P := P) (g := g) hB.1 hQ ts _ (Array.replicate l.length false) a w.drew (picksH ts hin) (fun j oj _ hl => by
    rw [Array.getD_eq_getD_getElem?, Array.getElem?_replicate] at hl
    split at hl <;> cases hl) hB.2 hV (fun _ => hX) h
  rw [hlen] at this
  have e : l.toArray.size = l.length := by simp
  rw [e]
  exact this
theorem seqH0 {d : Nat} {ts : List (Nat × Nat)} {o : Oper} {os : List Oper} {a : Act} {w : World} {v : Value} (hy : ∀ w, V w → (execOp a.eval o).run P w = .ok (.value v) w) (h : seqH P ops Q V X ts os (a.put o.dst v) w) : seqH P ops Q V X ((0, d) :: ts) (o :: os) a w := ⟨v, hy, h⟩
theorem seqH2 {d : Nat} {ts : List (Nat × Nat)} {o : Oper} {os : List Oper} {a : Act} {w : World} (h : ∀ K : Exit → Act → World → Prop, Hid (∀ a' w', V w' → (V w' → seqH P ops Q V X ts os a' w') → K .normal a' w') → wpList P ops K [o] a w) : seqH P ops Q V X ((2, d) :: ts) (o :: os) a w := h
theorem seqH4 {d : Nat} {ts : List (Nat × Nat)} {o : Oper} {os : List Oper} {a : Act} {w : World} {v : Value} (ht : a.tmps[d]? = some (.bool (guardTrue o))) (hy : ∀ w, V w → (execOp a.eval o).run P w = .ok (.value v) w) (h : seqH P ops Q V X ts os (a.put o.dst v) w) : seqH P ops Q V X ((4, d) :: ts) (o :: os) a w := ⟨ht, v, hy, h⟩
theorem seqH6 {d : Nat} {ts : List (Nat × Nat)} {o : Oper} {os : List Oper} {a : Act} {w : World} (ht : a.tmps[d]? = some (.bool (guardTrue o))) (h : ∀ K : Exit → Act → World → Prop, Hid (∀ a' w', V w' → (V w' → seqH P ops Q V X ts os a' w') → K .normal a' w') → wpList P ops K [{ o with guard := none }] a w) : seqH P ops Q V X ((6, d) :: ts) (o :: os) a w := ⟨ht, h⟩
theorem seqH_end {a : Act} {w : World} (h : Q .normal a w) : seqH P ops Q V X [] [] a w := h
end Go.Proofs.YtaefpjecalnbcaaGreat
namespace Go.Proofs.YtaefpjecalnbcaaGreat
open Go.RowKit
variable {P : Program} {ops : Array Oper} {md : Region.Mode} {Q : Exit → Act → World → Prop}
theorem wpAnyG_weak {V V' X : World → Prop} {g : Nat} (h : ∀ w, V' w → V w) : ∀ (fuel : Nat) (listed : Array Bool) (a : Act) (w : World), wpAnyG P md ops Q V' X g fuel listed a w → wpAnyG P md ops Q V X g fuel listed a w
  | 0, _, _, _, h0 => h0
  | fuel + 1, _, _, _, h0 => ⟨h0.1, fun i hi => wpOp_mono (fun a' w' h' => ⟨⟨h _ h'.1.1, h'.1.2⟩, wpAnyG_weak h fuel _ a' w' h'.2⟩) (h0.2 i hi)⟩
theorem put_put (a : Act) (d : Nat) (u v : Value) : (a.put (some d) u).put (some d) v = a.put (some d) v := by
  simp [Act.put]
theorem put_comm (a : Act) {d e : Nat} (h : d ≠ e) (u v : Value) : (a.put (some d) u).put (some e) v = (a.put (some e) v).put (some d) u := by
  simp only [Act.put]
  rw [Array.setIfInBounds_comm _ _ h]
/-- what stays where old blocks stay -/
def Stab (V : World → Prop) : Prop := ∀ w w', V w → Below w.heap.size w w' → V w'
/-- a floating allocation: its place, slot, cells, type -/
structure Flo where
  j : Nat
  d : Nat
  z : List Value
  T : TypeId
def Flo.Ok (P : Program) (ops : Array Oper) (f : Flo) : Prop := ∃ o, ops[f.j]? = some o ∧ o.dst = some f.d ∧ o.guard = none ∧ ∀ (a : Act) (w : World), (execOp a.eval o).run P w = .ok (.value (.pointer (some ⟨w.heap.size, 0, none⟩))) (w.alloc (.cells f.z.toArray f.T))
/-- the slot's value, when the allocation has come up -/
def Flo.At (f : Flo) (H : Nat) (rs : List (Nat × Nat)) (b : Bool) (u : Value) (w : World) : Prop := b = true → ∃ p, u = .pointer (some ⟨p, 0, none⟩) ∧ H ≤ p ∧ (∀ r ∈ rs, p < r.1 ∨ r.2 ≤ p) ∧ Blk w p f.z f.T
theorem Flo.At.below {f : Flo} {H : Nat} {rs : List (Nat × Nat)} {b : Bool} {u : Value} {w w' : World} (h : f.At H rs b u w) (hb : Below w.heap.size w w') : f.At H rs b u w' := fun e => let ⟨p, h1, h0, h3, h2⟩ := h e; ⟨p, h1, h0, h3, h2.below hb⟩
/-- a call more -/
theorem Flo.At.call {f : Flo} {H : Nat} {rs : List (Nat × Nat)} {b : Bool} {u : Value} {w w' : World} (h : f.At H rs b u w) (hb : Below w.heap.size w w') : f.At H ((w.heap.size, w'.heap.size) :: rs) b u w' := fun e => by
  obtain ⟨p, h1, h0, h3, h2⟩ := h e
  refine ⟨p, h1, h0, fun r hr => ?_, h2.below hb⟩
  rcases List.mem_cons.1 hr with rfl | hr
  · exact .inl h2.lt
  · exact h3 r hr
theorem wpOp_alloc {f : Flo} {K : Act → World → Prop} {a : Act} {w : World} (hf : f.Ok P ops) (h : K (a.put (some f.d) (.pointer (some ⟨w.heap.size, 0, none⟩))) (w.alloc (.cells f.z.toArray f.T))) : wpOp P ops Q f.j K a w := by
  obtain ⟨o, h1, h2, h3, h4⟩ := hf
  unfold wpOp
  rw [h1]
  simp only
  rw [if_pos (wanted_none (by rw [h3]; rfl))]
  refine Or.inl ?_
  unfold Oper.wp
  rw [h4]
  show K (a.put o.dst _) _
  rw [h2]
  exact h
theorem wpOp_of_list {k : Nat} {o : Oper} {a : Act} {w : World} (hk : ops[k]? = some o) {T : Act → World → Prop} (h : ∀ K : Exit → Act → World → Prop, Hid (∀ a' w', T a' w' → K .normal a' w') → wpList P ops K [o] a w) : wpOp P ops Q k T a w := by
  have h2 := h (fun e a' w' => match e with | .normal => T a' w' | e => Q e a' w') (hid fun a' w' h => h)
  unfold wpOp
  simp only [hk]
  rw [wpList] at h2
  split at h2
  · rename_i hw
    simp only [hw, if_true]
    exact h2.imp (wp_swap (fun _ _ h => h) (fun _ _ _ h => h) (fun h => h)) (fun h => ⟨h.1, h.2⟩)
  · rename_i hw
    simp only [hw]
    exact h2
def ptrF (p : Nat) : Value := .pointer (some ⟨p, 0, none⟩)
theorem put_self (a : Act) (d : Nat) : a.put (some d) (a.tmps.getD d undef) = a := by
  have h : a.tmps.setIfInBounds d (a.tmps.getD d undef) = a.tmps := by
    apply Array.ext
    · simp
    · intro i h1 h2
      rw [Array.getElem_setIfInBounds]
      split
      · rename_i e
        subst e
        simp [Array.getD, h2]
      · rfl
  show { a with tmps := a.tmps.setIfInBounds d (a.tmps.getD d undef) } = a
  rw [h]
theorem picksF {l : List Oper} : ∀ ts : List (Nat × Nat), (ts.all fun t => decide (t.1 < l.length)) = true → (ts.filterMap fun t => l[t.1]?).map some = ts.map fun t => l.toArray[t.1]? := picks
end Go.Proofs.YtaefpjecalnbcaaGreat
namespace Go.Proofs.YtaefpjecalnbcaaGreat
open Go.RowKit
variable {P : Program} {ops : Array Oper} {md : Region.Mode} {Q : Exit → Act → World → Prop}
/-- P holds in each world that agrees with w below n0 and in the window lo .. hi -/
def Kept2 (n0 lo hi : Nat) (w : World) (P : World → Prop) : Prop := ∀ w', (∀ b, (b < n0 ∨ (lo ≤ b ∧ b < hi)) → w'.heap[b]? = w.heap[b]?) → P w'
theorem Kept2.here {n0 lo hi : Nat} {w : World} {P : World → Prop} (h : Kept2 n0 lo hi w P) : P w := h w fun _ _ => rfl
theorem Kept2.below {n0 lo hi : Nat} {w w' : World} {P : World → Prop} (h : Kept2 n0 lo hi w P) (h0 : n0 ≤ w.heap.size) (h1 : hi ≤ w.heap.size) (hb : Below w.heap.size w w') : Kept2 n0 lo hi w' P := fun w2 hw2 => h w2 fun b hc => (hw2 b hc).trans (hb.block b (by omega))
theorem Kept2.set {n0 lo hi p j : Nat} {w : World} {P : World → Prop} (h : Kept2 n0 lo hi w P) (h0 : n0 ≤ p) (h1 : p < lo ∨ hi ≤ p) (u : Value) : Kept2 n0 lo hi (w.setCell ⟨p, j, none⟩ u) P := fun w2 hw2 => h w2 fun b hc => (hw2 b hc).trans (Below.heap_setCell _ _ _ b (by show b ≠ p; omega))
theorem kept2_of {n0 lo : Nat} {w : World} {P : World → Prop} (h : Apart n0 lo w P) : Kept2 n0 lo w.heap.size w P := fun w' hw' => h w' fun b hb hc => hw' b (hc.imp id fun h => ⟨h, hb⟩)
def actF1 (f : Flo) (a : Act) (u : Value) : Act := a.put (some f.d) u
/-- phase A: 0 quiet, else alone beside the float that has not come up; then phase B (seqH) -/
def seqF1 (P : Program) (ops : Array Oper) (Q : Exit → Act → World → Prop) (H : Nat) (f : Flo) (ts2 : List (Nat × Nat)) (os2 : List Oper) : List (Nat × Nat) → List Nat → List Oper → (World → Prop) → Act → Prop
  | rs, 0 :: ts, o :: os, V, a0 => ∃ v, (∀ u w, V w → (execOp (actF1 f a0 u).eval o).run P w = .ok (.value v) w) ∧ seqF1 P ops Q H f ts2 os2 rs ts os V (a0.put o.dst v)
  | rs, _ :: ts, o :: os, V, a0 => ∀ u w, V w → ∀ K : Exit → Act → World → Prop, Hid (∀ v w' (V' : World → Prop), Stab V' → (∀ w, V' w → V w) → (∀ W, V' W → w'.heap.size ≤ W.heap.size) → V' w' → Below w.heap.size w w' → seqF1 P ops Q H f ts2 os2 ((w.heap.size, w'.heap.size) :: rs) ts os V' (a0.put o.dst v) → K .normal ((actF1 f a0 u).put o.dst v) w') → wpList P ops K [o] (actF1 f a0 u) w
  | rs, _, _, V, a0 => ∀ p w, V w → H ≤ p → (∀ r ∈ rs, p < r.1 ∨ r.2 ≤ p) → Blk w p f.z f.T → seqH P ops Q V (fun _ => True) ts2 os2 (actF1 f a0 (ptrF p)) w
theorem seqF1_q {H : Nat} {f : Flo} {ts2 : List (Nat × Nat)} {os2 : List Oper} {rs : List (Nat × Nat)} {ts : List Nat} {o : Oper} {os : List Oper} {V : World → Prop} {a0 : Act} {v : Value} (hy : ∀ u w, V w → (execOp (actF1 f a0 u).eval o).run P w = .ok (.value v) w) (h : seqF1 P ops Q H f ts2 os2 rs ts os V (a0.put o.dst v)) : seqF1 P ops Q H f ts2 os2 rs (0 :: ts) (o :: os) V a0 := ⟨v, hy, h⟩
def markf (f : Flo) (b : Bool) (base : Array Bool) : Array Bool := if b then base.setIfInBounds f.j true else base
def plF1 (md : Region.Mode) (ops : Array Oper) (g : Nat) (f : Flo) (ts2 : List (Nat × Nat × Nat)) : List (Nat × Nat) → Array Bool → Bool
  | [], base => planH md ops g ts2 (markf f true base) && ((Region.ready md ops (markf f false base)).all (fun i => i == f.j) && !(Region.ready md ops (markf f false base)).isEmpty)
  | (k, t) :: ts, base => (!(k == f.j) && !(k == g) && [false, true].all fun b => match t with
      | 0 => Region.free md ops (markf f b base) k && (Region.ready md ops (markf f b base)).contains k && ((ops[k]?).map fun o => o.guard.isNone).getD false && ((ops[k]?).map fun o => decide (o.dst ≠ some f.d)).getD false
      | _ => (Region.ready md ops (markf f b base)).contains k && (Region.ready md ops (markf f b base)).all (fun i => i == k || (!b && i == f.j)) && ((ops[k]?).map fun o => decide (o.dst ≠ some f.d)).getD false) && plF1 md ops g f ts2 ts (base.setIfInBounds k true)
theorem markf_set {f : Flo} {b : Bool} {base : Array Bool} (k : Nat) : (markf f b base).setIfInBounds k true = markf f b (base.setIfInBounds k true) := by
  cases b
  · rfl
  · show (base.setIfInBounds f.j true).setIfInBounds k true = (base.setIfInBounds k true).setIfInBounds f.j true
    by_cases h : f.j = k
    · rw [h]
    · rw [Array.setIfInBounds_comm _ _ h]
theorem actF1_put {f : Flo} {a : Act} {u v : Value} {dst : Option Nat} (h : dst ≠ some f.d) : (actF1 f a u).put dst v = actF1 f (a.put dst v) u := by
  cases dst with
  | none => rfl
  | some e =>
    have h : e ≠ f.d := fun e2 => h (by rw [e2])
    unfold actF1
    rw [put_comm _ (Ne.symm h)]
theorem actF1_d {f : Flo} {a : Act} {u v : Value} : (actF1 f a u).put (some f.d) v = actF1 f a v := put_put _ _ _ _
/-- the float comes up -/
theorem float_up1 {f : Flo} (hf : f.Ok P ops) {V : World → Prop} (hS : Stab V) {H : Nat} {rs : List (Nat × Nat)} (hH : ∀ w, V w → H ≤ w.heap.size) (hR : ∀ w, V w → ∀ r ∈ rs, r.2 ≤ w.heap.size) {g : Nat} {base : Array Bool} {a0 : Act} {fuel : Nat}
    (ih : ∀ u w, ClosedL md ops (markf f true base) → V w → f.At H rs true u w → wpAnyG P md ops Q V (fun _ => True) g fuel (markf f true base) (actF1 f a0 u) w)
    {u : Value} {w : World} (hc : ClosedL md ops (markf f false base)) (hV : V w) {i : Nat} (hr : i ∈ Region.ready md ops (markf f false base)) (hi : i = f.j) :
    wpOp P ops Q i (fun a' w' => AtG V (fun _ => True) g ((markf f false base).setIfInBounds i true) w' ∧ wpAnyG P md ops Q V (fun _ => True) g fuel ((markf f false base).setIfInBounds i true) a' w') (actF1 f a0 u) w := by
  subst hi
  have hb : Below w.heap.size w (w.alloc (.cells f.z.toArray f.T)) := (Below.refl _ _).alloc (Nat.le_refl _) _
  refine wpOp_alloc hf ⟨⟨hS _ _ hV hb, fun _ => trivial⟩, ?_⟩
  have hc' := hc.set hr
  rw [actF1_d]
  exact ih _ _ hc' (hS _ _ hV hb) (fun _ => ⟨_, rfl, hH w hV, fun r hr => .inr (hR w hV r hr), Blk.new w f.z f.T⟩)
def pendf (b : Bool) : Nat := if b then 0 else 1
theorem bools_mem (b : Bool) : b ∈ [false, true] := by cases b <;> decide
theorem wpAnyG_float1 (hsel : Region.noSelect ops = true) (hQ : ∀ c (a : Act) dst v w, Q (.panic c) (a.put dst v) w → Q (.panic c) a w) {f : Flo} (hf : f.Ok P ops) {g H : Nat}
    (ts2 : List (Nat × Nat × Nat)) (os2 : List Oper) (hos2 : os2.map some = ts2.map (fun t => ops[t.1]?)) (ts : List (Nat × Nat)) : ∀ (rs : List (Nat × Nat)) (os : List Oper) (V : World → Prop) (a0 : Act) (base : Array Bool),
    os.map some = ts.map (fun t => ops[t.1]?) → plF1 md ops g f ts2 ts base = true → Stab V → (∀ w, V w → H ≤ w.heap.size) → (∀ w, V w → ∀ r ∈ rs, r.2 ≤ w.heap.size) → seqF1 P ops Q H f (ts2.map (·.2)) os2 rs (ts.map (·.2)) os V a0 →
    ∀ b u w, ClosedL md ops (markf f b base) → V w → f.At H rs b u w →
      wpAnyG P md ops Q V (fun _ => True) g (pendf b + ts.length + ts2.length) (markf f b base) (actF1 f a0 u) w := by
  induction ts with
  | nil =>
    intro rs os V a0 base hl hB hS hH hR h
    unfold plF1 at hB
    obtain ⟨hB1, hB2⟩ := (Bool.and_eq_true _ _).mp hB
    have hup : ∀ u w, ClosedL md ops (markf f true base) → V w → f.At H rs true u w → wpAnyG P md ops Q V (fun _ => True) g (0 + ([] : List (Nat × Nat)).length + ts2.length) (markf f true base) (actF1 f a0 u) w := by
      intro u w hc hV h1
      obtain ⟨p, rfl, hq1, hr1, hp1⟩ := h1 rfl
      have hs : seqH P ops Q V (fun _ => True) (ts2.map (·.2)) os2 (actF1 f a0 (ptrF p)) w := by
        cases os with
        | nil => exact h p w hV hq1 hr1 hp1
        | cons o os => simp at hl
      have := wpAnyG_permH (md := md) (g := g) hsel hQ ts2 os2 _ (actF1 f a0 (ptrF p)) w hos2 hc hB1 hV (fun _ => trivial) hs
      simpa [ptrF] using this
    intro b u w hc hV h1
    cases b with
    | true => exact hup u w hc hV h1
    | false =>
      obtain ⟨hall, hne2⟩ := (Bool.and_eq_true _ _).mp hB2
      show wpAnyG P md ops Q V (fun _ => True) g (1 + ([] : List (Nat × Nat)).length + ts2.length) _ _ _
      rw [show 1 + ([] : List (Nat × Nat)).length + ts2.length = (0 + ([] : List (Nat × Nat)).length + ts2.length) + 1 by simp; omega]
      refine ⟨fun e => ?_, fun i hi => ?_⟩
      · rw [e] at hne2; simp at hne2
      · have hi2 := List.all_eq_true.1 hall i hi
        exact float_up1 hf hS hH hR hup hc hV hi (by simpa using hi2)
  | cons t ts ih =>
    intro rs os V a0 base hl hB hS hH hR h
    obtain ⟨k, tag⟩ := t
    cases os with
    | nil => simp at hl
    | cons o os =>
      rw [List.map_cons, List.map_cons] at hl
      obtain ⟨hi0, hl'⟩ := List.cons.inj hl
      have hi : ops[k]? = some o := hi0.symm
      clear hl hi0
      unfold plF1 at hB
      obtain ⟨hB1, hB2⟩ := (Bool.and_eq_true _ _).mp hB
      obtain ⟨hB3, hB4⟩ := (Bool.and_eq_true _ _).mp hB1
      simp only [Bool.and_eq_true, Bool.not_eq_true', beq_eq_false_iff_ne] at hB3
      obtain ⟨hkf, hkg⟩ := hB3
      rw [List.map_cons] at h
      rcases tag with _ | tag
      · obtain ⟨v, hy, h⟩ := h
        intro b u w hc hV h1
        have hck := List.all_eq_true.1 hB4 _ (bools_mem b)
        simp only [Bool.and_eq_true] at hck
        obtain ⟨⟨⟨h3, h4⟩, h6⟩, h7⟩ := hck
        rw [hi] at h6 h7
        simp only [Option.map_some, Option.getD_some, decide_eq_true_eq] at h7
        have h4' : k ∈ Region.ready md ops (markf f b base) := List.contains_iff_mem.1 h4
        rw [show pendf b + ((k, 0) :: ts).length + ts2.length = (pendf b + ts.length + ts2.length) + 1 by simp; omega]
        refine wpAnyG_first hi (Region.noSelect_spec hsel) (fun c a w h => hQ c _ _ _ w h) hkg V (fun _ _ _ _ hA => hA.1) _ _ _ w hc (Region.free_spec hi h3) h4' (Or.inl ⟨wanted_none h6, hy u⟩) ⟨hV, fun _ => trivial⟩ ?_
        have hc' := hc.set h4'
        rw [markf_set] at hc' ⊢
        rw [actF1_put h7]
        exact ih rs os V _ _ hl' hB2 hS hH hR h b u w hc' hV h1
      · have hstep : ∀ b u w (n : Nat), n = pendf b → ClosedL md ops (markf f b base) → V w → f.At H rs b u w → k ∈ Region.ready md ops (markf f b base) → o.dst ≠ some f.d →
            wpOp P ops Q k (fun a' w' => AtG V (fun _ => True) g ((markf f b base).setIfInBounds k true) w' ∧ wpAnyG P md ops Q V (fun _ => True) g (pendf b + ts.length + ts2.length) ((markf f b base).setIfInBounds k true) a' w') (actF1 f a0 u) w := by
          intro b u w n _ hc hV h1 h4' h7
          refine wpOp_of_list hi fun K HK => h u w hV K (hid fun v w' V' hS' hw' hsz hV' hb hseq => HK.out _ _ ⟨⟨hw' _ hV', fun _ => trivial⟩, wpAnyG_weak hw' _ _ _ _ ?_⟩)
          have hc' := hc.set h4'
          rw [markf_set] at hc' ⊢
          rw [actF1_put h7]
          exact ih _ os V' _ _ hl' hB2 hS' (fun w h => hH w (hw' w h)) (fun W hW r hr => by
            rcases List.mem_cons.1 hr with rfl | hr
            · exact hsz W hW
            · exact hR W (hw' W hW) r hr) hseq b u w' hc' hV' (h1.call hb)
        have hfacts : ∀ b, (k ∈ Region.ready md ops (markf f b base)) ∧ (∀ i ∈ Region.ready md ops (markf f b base), (i == k || (!b && i == f.j)) = true) ∧ o.dst ≠ some f.d := by
          intro b
          have hck := List.all_eq_true.1 hB4 _ (bools_mem b)
          simp only [Bool.and_eq_true] at hck
          obtain ⟨⟨h4, h5⟩, h7⟩ := hck
          rw [hi] at h7
          simp only [Option.map_some, Option.getD_some, decide_eq_true_eq] at h7
          exact ⟨List.contains_iff_mem.1 h4, List.all_eq_true.1 h5, h7⟩
        have hup : ∀ u w, ClosedL md ops (markf f true base) → V w → f.At H rs true u w → wpAnyG P md ops Q V (fun _ => True) g (0 + ts.length + ts2.length + 1) (markf f true base) (actF1 f a0 u) w := by
          intro u w hc hV h1
          obtain ⟨h4', h5, h7⟩ := hfacts true
          refine ⟨fun e => (by rw [e] at h4'; cases h4'), fun i hir => ?_⟩
          have hi2 := h5 i hir
          simp at hi2
          subst hi2
          exact hstep true u w 0 rfl hc hV h1 h4' h7
        intro b u w hc hV h1
        cases b with
        | true =>
          rw [show pendf true + ((k, tag + 1) :: ts).length + ts2.length = 0 + ts.length + ts2.length + 1 by simp [pendf]; omega]
          exact hup u w hc hV h1
        | false =>
          obtain ⟨h4', h5, h7⟩ := hfacts false
          rw [show pendf false + ((k, tag + 1) :: ts).length + ts2.length = (1 + ts.length + ts2.length) + 1 by simp [pendf]; omega]
          refine ⟨fun e => (by rw [e] at h4'; cases h4'), fun i hir => ?_⟩
          have hi2 := h5 i hir
          simp only [Bool.or_eq_true] at hi2
          rcases hi2 with hi2 | hi2
          · have hi2 : i = k := by simpa using hi2
            subst hi2
            exact hstep false u w 1 rfl hc hV h1 h4' h7
          · rw [show 1 + ts.length + ts2.length = 0 + ts.length + ts2.length + 1 by omega]
            exact float_up1 hf hS hH hR hup hc hV hir (by simpa using hi2)
theorem actF1_self (f : Flo) (a : Act) : actF1 f a (a.tmps.getD f.d undef) = a := put_self _ _
theorem wp_region_float1 {id : Nat} {l : List Oper} {a : Act} {w : World} (V : World → Prop) (g : Nat) (f : Flo) (ts : List (Nat × Nat)) (ts2 : List (Nat × Nat × Nat)) (hm : P.follows .mixedOrders = true) (hlen : 1 + ts.length + ts2.length = l.length)
    (hin : (ts.all fun t => decide (t.1 < l.length)) = true) (hin2 : (ts2.all fun t => decide (t.1 < l.length)) = true) (hB : (Region.noSelect l.toArray && plF1 .any l.toArray g f ts2 ts (Array.replicate l.length false)) = true)
    (hQ : ∀ c (a : Act) dst v w, Q (.panic c) (a.put dst v) w → Q (.panic c) a w) (hf : f.Ok P l.toArray) (hS : Stab V) (H : Nat) (hH : ∀ w, V w → H ≤ w.heap.size) (hV : V w.drew)
    (h0 : ∀ ops', Hid (ops' = l.toArray) → seqF1 P ops' Q H f (ts2.map (·.2)) (ts2.filterMap fun t => l[t.1]?) [] (ts.map (·.2)) (ts.filterMap fun t => l[t.1]?) V a) : (Code.region id l.toArray true).wp P Q a w := by
  have h := h0 l.toArray (hid rfl)
  rw [Bool.and_eq_true] at hB
  refine wp_region_any hm (wpAny_of_G (V := V) (X := fun _ => True) (g := g) _ _ _ _ ?_)
  have := wpAnyG_float1 (md := .any) (Q := Q) (P := P) (g := g) hB.1 hQ hf ts2 _ (picksH ts2 hin2) ts [] _ V a (Array.replicate l.length false) (picksF ts hin) hB.2 hS hH (fun _ _ r hr => by cases hr) h false (a.tmps.getD f.d undef) w.drew
    (show ClosedL _ _ (Array.replicate l.length false) from fun j oj _ hl => by
      rw [Array.getD_eq_getD_getElem?, Array.getElem?_replicate] at hl
      split at hl <;> cases hl) hV (fun e => by cases e)
  have hp : pendf false + ts.length + ts2.length = l.length := hlen
  rw [actF1_self, hp] at this
  have e : l.toArray.size = l.length := by simp
  rw [e]
  exact this
end Go.Proofs.YtaefpjecalnbcaaGreat
