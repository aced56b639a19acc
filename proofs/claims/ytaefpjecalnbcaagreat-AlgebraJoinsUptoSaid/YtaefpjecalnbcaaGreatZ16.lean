/- Parts of a proof: texts of the author, merged. No condition of their own. -/
import Derived.Test.YtaefpjecalnbcaaGreatZ03
import Derived.OrdersHeld
namespace Go.Proofs.YtaefpjecalnbcaaGreat
open Go.RowKit
variable {P : Program} {ops : Array Oper} {md : Region.Mode} {w : World}
def laterB (md : Region.Mode) (ops : Array Oper) : Nat → Nat → Nat → Bool
  | 0, _, _ => false
  | f + 1, i, t => match ops[t]? with
    | some o => o.after.toList.any fun e => Region.binds md e && (e.on == i || laterB md ops f i e.on)
    | none => false
def ClosedL (md : Region.Mode) (ops : Array Oper) (listed : Array Bool) : Prop := ∀ (j : Nat) (oj : Oper), ops[j]? = some oj → listed.getD j false = true → ∀ e ∈ oj.after, Region.binds md e = true → listed.getD e.on false = true
theorem later_spec {listed : Array Bool} (hc : ClosedL md ops listed) : ∀ (f i t : Nat), laterB md ops f i t = true → listed.getD i false = false → t ∉ Region.ready md ops listed ∧ listed.getD t false = false
  | 0, _, _, h, _ => by cases h
  | f + 1, i, t, h, hi => by
    rw [laterB] at h
    cases ho : ops[t]? with
    | none => rw [ho] at h; cases h
    | some o =>
      rw [ho] at h
      obtain ⟨e, he0, hb⟩ := List.any_eq_true.1 h
      have he : e ∈ o.after := Array.mem_toList_iff.1 he0
      simp only [Bool.and_eq_true, Bool.or_eq_true, beq_iff_eq] at hb
      obtain ⟨hbi, hon⟩ := hb
      have hun : listed.getD e.on false = false := by
        rcases hon with hon | hon
        · rw [hon]; exact hi
        · exact (later_spec hc f i e.on hon hi).2
      constructor
      · intro hr
        obtain ⟨-, o', ho', hall⟩ := mem_ready.1 hr
        rw [ho] at ho'
        cases ho'
        rw [hall e he hbi] at hun
        cases hun
      · cases hl : listed.getD t false with
        | false => rfl
        | true =>
          rw [hc t o ho hl e he hbi] at hun
          cases hun
theorem ClosedL.set {listed : Array Bool} (hc : ClosedL md ops listed) {i : Nat} (hi : i ∈ Region.ready md ops listed) : ClosedL md ops (listed.setIfInBounds i true) := by
  intro j oj hj hl e he hb
  obtain ⟨-, oi, hoi, hall⟩ := mem_ready.1 hi
  by_cases hij : i = j
  · subst hij
    rw [hj] at hoi
    cases hoi
    exact getD_set_true (hall e he hb)
  · rw [getD_set_ne false hij] at hl
    exact getD_set_true (hc j oj hj hl e he hb)
theorem unlisted_of_ready {listed : Array Bool} {i : Nat} (h : i ∈ Region.ready md ops listed) : listed.getD i false = false := by
  have h0 := (mem_ready.1 h).1
  rcases Nat.lt_or_ge i listed.size with h' | h'
  · simp [h'] at h0 ⊢; exact h0
  · simp [Array.getElem?_eq_none h'] at h0
variable {V X : World → Prop} {g : Nat} {Q : Exit → Act → World → Prop}
def AtG (V X : World → Prop) (g : Nat) (listed : Array Bool) (w : World) : Prop := V w ∧ (listed.getD g false = false → X w)
def wpAnyG (P : Program) (md : Region.Mode) (ops : Array Oper) (Q : Exit → Act → World → Prop) (V X : World → Prop) (g : Nat) : Nat → Array Bool → Act → World → Prop
  | 0, listed, a, w => Region.ready md ops listed = [] ∧ Q .normal a w
  | fuel + 1, listed, a, w => (Region.ready md ops listed = [] → Q .normal a w) ∧
    ∀ i ∈ Region.ready md ops listed, wpOp P ops Q i (fun a' w' => AtG V X g (listed.setIfInBounds i true) w' ∧ wpAnyG P md ops Q V X g fuel (listed.setIfInBounds i true) a' w') a w
theorem wpAny_of_G : ∀ (fuel : Nat) (listed : Array Bool) (a : Act) (w : World), wpAnyG P md ops Q V X g fuel listed a w → wpAny P md ops Q fuel listed a w
  | 0, _, _, _, h => h
  | fuel + 1, _, _, _, h => ⟨h.1, fun i hi => wpOp_mono (fun a' w' h' => wpAny_of_G fuel _ a' w' h'.2) (h.2 i hi)⟩
theorem AtG.back {i : Nat} {listed : Array Bool} {w : World} (hig : i ≠ g) (h : AtG V X g (listed.setIfInBounds i true) w) : AtG V X g listed w :=
  ⟨h.1, fun hl => h.2 (by rw [getD_set_ne false hig]; exact hl)⟩
theorem wpAnyG_first {i : Nat} {oi : Oper} {v : Value} (hi : ops[i]? = some oi) (hsel : ∀ (j : Nat) (o : Oper) cs b, ops[j]? = some o → o.op ≠ .select cs b)
    (hQ : ∀ c a w, Q (.panic c) (a.put oi.dst v) w → Q (.panic c) a w) (hig : i ≠ g) (S : World → Prop) (hS : ∀ (listed : Array Bool) w, ClosedL md ops listed → listed.getD i false = false → AtG V X g listed w → S w) :
    ∀ (fuel : Nat) (listed : Array Bool) (a : Act) (w : World), ClosedL md ops listed →
      (∀ j oj, ops[j]? = some oj → j ≠ i → listed.getD j true = false → (∀ e ∈ oj.after, Region.binds md e = true → e.on ≠ i) → oi.apart ops oj = true) →
      i ∈ Region.ready md ops listed → YieldsIf P ops S oi v a → AtG V X g listed w →
      wpAnyG P md ops Q V X g fuel (listed.setIfInBounds i true) (a.put oi.dst v) w → wpAnyG P md ops Q V X g (fuel + 1) listed a w := by
  have hput : ∀ (listed : Array Bool) (w : World), AtG V X g listed w → AtG V X g (listed.setIfInBounds i true) w := fun listed w h =>
    ⟨h.1, fun hl => h.2 (by rw [getD_set_ne false hig] at hl; exact hl)⟩
  intro fuel
  induction fuel with
  | zero =>
    intro listed a w hc _ hr hy hA H
    refine ⟨fun h => (by rw [h] at hr; cases hr), fun j hj => ?_⟩
    by_cases hji : j = i
    · subst hji; exact hy.wpOp hi (hS listed w hc (unlisted_of_ready hr) hA) ⟨hput _ _ hA, H⟩
    · have := ready_mono hj hji
      rw [H.1] at this
      cases this
  | succ fuel ih =>
    intro listed a w hc hfree hr hy hA H
    refine ⟨fun h => (by rw [h] at hr; cases hr), fun j hj => ?_⟩
    by_cases hji : j = i
    · subst hji; exact hy.wpOp hi (hS listed w hc (unlisted_of_ready hr) hA) ⟨hput _ _ hA, H⟩
    · have h1 := H.2 j (ready_mono hj hji)
      obtain ⟨hjun, oj, hoj, hall⟩ := mem_ready.1 hj
      have hnot : ∀ e ∈ oj.after, Region.binds md e = true → e.on ≠ i := fun e he hb heq => by
        have h2 := hall e he hb
        rw [heq, unlisted_of_ready hr] at h2
        cases h2
      have h2 := wpOp_putIf hoj (hfree j oj hoj hji hjun hnot) (fun cs b => hsel i oi cs b hi) (fun cs b => hsel j oj cs b hoj) hQ hy h1
      have hfree' : ∀ k ok, ops[k]? = some ok → k ≠ i → (listed.setIfInBounds j true).getD k true = false →
          (∀ e ∈ ok.after, Region.binds md e = true → e.on ≠ i) → oi.apart ops ok = true := fun k ok hk hki hun hno => by
        refine hfree k ok hk hki ?_ hno
        by_cases hjk : j = k
        · subst hjk; exact hjun
        · rw [getD_set_ne true hjk] at hun; exact hun
      refine wpOp_mono (fun a' w' h3 => ?_) h2
      obtain ⟨h4, h5, h6⟩ := h3
      rw [Array.setIfInBounds_comm _ _ (Ne.symm hji)] at h5 h6
      exact ⟨h5.back hig, ih (listed.setIfInBounds j true) a' w' (hc.set hj) hfree' (ready_mono hr (Ne.symm hji)) h4 (h5.back hig) h6⟩
theorem wp_swap {o : Oper} {a : Act} {w : World} {K K' : Act → World → Prop} {Q' : Exit → Act → World → Prop} (hK : ∀ a w, K a w → K' a w) (hP : ∀ c a w, Q (.panic c) a w → Q' (.panic c) a w) (hL : LetsOut Q → LetsOut Q') (h : o.wp P a w K Q) : o.wp P a w K' Q' := by
  unfold Oper.wp at *
  generalize (execOp a.eval o).run P w = r at *
  cases r with
  | ok n w' =>
    cases n <;> simp only [Oper.upon] at h ⊢
    case value u => exact hK _ _ h
    case skip => exact hK _ _ h
    case defer d => exact hK _ _ h
    case enter f args =>
      refine Calls.mono h fun e w'' he => ?_
      cases e with
      | returned u => exact hK _ _ he
      | panicked c => exact hP _ _ _ he
      | outgrown => exact hL he
    case row row args => exact Go.Rows.mono h fun u w'' he => hK _ _ he
  | halt x w' =>
    cases x <;> simp only [Oper.upon] at h ⊢
    case panic u => exact hP _ _ _ h
theorem wpAnyG_one {k : Nat} {o : Oper} {fuel : Nat} {listed : Array Bool} {a : Act} {w : World} (hr : Region.ready md ops listed = [k]) (hk : ops[k]? = some o)
    (hg : (listed.setIfInBounds k true).getD g false = true)
    (h : ∀ K : Exit → Act → World → Prop, Hid (∀ a' w', V w' → (V w' → wpAnyG P md ops Q V X g fuel (listed.setIfInBounds k true) a' w') → K .normal a' w') → wpList P ops K [o] a w) :
    wpAnyG P md ops Q V X g (fuel + 1) listed a w := by
  refine ⟨fun h1 => (by rw [hr] at h1; cases h1), fun i hi => ?_⟩
  rw [hr] at hi
  have hik : i = k := by simpa using hi
  subst hik
  have h2 := h (fun e a' w' => match e with
    | .normal => AtG V X g (listed.setIfInBounds i true) w' ∧ wpAnyG P md ops Q V X g fuel (listed.setIfInBounds i true) a' w'
    | e => Q e a' w') (hid fun a' w' hV hK => ⟨⟨hV, fun hl => by rw [hg] at hl; cases hl⟩, hK hV⟩)
  unfold wpOp
  simp only [hk]
  rw [wpList] at h2
  split at h2
  · rename_i hw
    simp only [hw, if_true]
    exact h2.imp (wp_swap (fun _ _ h => h) (fun _ _ _ h => h) (fun h => h)) (fun h => ⟨h.1, h.2⟩)
  · rename_i hw
    simp only [hw]
    exact h2
def seqG (P : Program) (ops : Array Oper) (Q : Exit → Act → World → Prop) (V X : World → Prop) : List Nat → List Oper → Act → World → Prop
  | 0 :: ts, o :: os, a, w => ∃ v, (∀ w, V w → (execOp a.eval o).run P w = .ok (.value v) w) ∧ seqG P ops Q V X ts os (a.put o.dst v) w
  | 1 :: ts, o :: os, a, w => ∃ v, (∀ w, X w → (execOp a.eval o).run P w = .ok (.value v) w) ∧ seqG P ops Q V X ts os (a.put o.dst v) w
  | _ :: ts, o :: os, a, w => ∀ K : Exit → Act → World → Prop, Hid (∀ a' w', V w' → (V w' → seqG P ops Q V X ts os a' w') → K .normal a' w') → wpList P ops K [o] a w
  | _, _, a, w => Q .normal a w
theorem wanted_none {o : Oper} {y : Nat → Option Bool} (h : o.guard.isNone = true) : Region.wanted o y = true := by
  have h' : o.guard = none := by simpa using h
  simp [Region.wanted, h']
theorem seqG0 {ts : List Nat} {o : Oper} {os : List Oper} {a : Act} {w : World} {v : Value} (hy : ∀ w, V w → (execOp a.eval o).run P w = .ok (.value v) w) (h : seqG P ops Q V X ts os (a.put o.dst v) w) : seqG P ops Q V X (0 :: ts) (o :: os) a w := ⟨v, hy, h⟩
theorem seqG1 {ts : List Nat} {o : Oper} {os : List Oper} {a : Act} {w : World} {v : Value} (hy : ∀ w, X w → (execOp a.eval o).run P w = .ok (.value v) w) (h : seqG P ops Q V X ts os (a.put o.dst v) w) : seqG P ops Q V X (1 :: ts) (o :: os) a w := ⟨v, hy, h⟩
theorem seqG2 {ts : List Nat} {o : Oper} {os : List Oper} {a : Act} {w : World} (h : ∀ K : Exit → Act → World → Prop, Hid (∀ a' w', V w' → (V w' → seqG P ops Q V X ts os a' w') → K .normal a' w') → wpList P ops K [o] a w) : seqG P ops Q V X (2 :: ts) (o :: os) a w := h
theorem seqG_end {a : Act} {w : World} (h : Q .normal a w) : seqG P ops Q V X [] [] a w := h
end Go.Proofs.YtaefpjecalnbcaaGreat
namespace Go.Proofs.YtaefpjecalnbcaaGreat
open Go.RowKit
variable {P : Program} {ops : Array Oper} {md : Region.Mode} {w : World} {V X : World → Prop} {g : Nat} {Q : Exit → Act → World → Prop}
def planP (md : Region.Mode) (ops : Array Oper) (g : Nat) : List (Nat × Nat) → Array Bool → Bool
  | [], listed => (Region.ready md ops listed).isEmpty
  | t :: ts, listed => (match t.2 with
      | 0 => Region.free md ops listed t.1 && (Region.ready md ops listed).contains t.1 && !(t.1 == g) && ((ops[t.1]?).map fun o => o.guard.isNone).getD false
      | 1 => Region.free md ops listed t.1 && (Region.ready md ops listed).contains t.1 && !(t.1 == g) && ((ops[t.1]?).map fun o => o.guard.isNone).getD false && laterB md ops 60 t.1 g
      | _ => decide (Region.ready md ops listed = [t.1]) && (listed.setIfInBounds t.1 true).getD g false) && planP md ops g ts (listed.setIfInBounds t.1 true)
theorem wpAnyG_perm (hsel : Region.noSelect ops = true) (hQ : ∀ c (a : Act) dst v w, Q (.panic c) (a.put dst v) w → Q (.panic c) a w) (ts : List (Nat × Nat)) : ∀ (os : List Oper) (listed : Array Bool) (a : Act) (w : World),
    os.map some = ts.map (fun t => ops[t.1]?) → ClosedL md ops listed → planP md ops g ts listed = true → V w → (listed.getD g false = false → X w) → seqG P ops Q V X (ts.map (·.2)) os a w →
    wpAnyG P md ops Q V X g ts.length listed a w := by
  induction ts with
  | nil =>
    intro os listed a w hl _ hB _ _ h
    cases os with
    | nil => exact ⟨by simpa [planP] using hB, h⟩
    | cons o os => simp at hl
  | cons t ts ih =>
    intro os listed a w hl hc hB hV hX h
    cases os with
    | nil => simp at hl
    | cons o os =>
      rw [List.map_cons, List.map_cons] at hl
      obtain ⟨hi0, hl'⟩ := List.cons.inj hl
      clear hl
      obtain ⟨k, tag⟩ := t
      have hi : ops[k]? = some o := hi0.symm
      clear hi0
      rw [List.length_cons]
      rw [List.map_cons] at h
      simp only at h
      rcases tag with _ | _ | n
      · obtain ⟨v, hy, h⟩ := h
        unfold planP at hB
        obtain ⟨hB1, hB2⟩ := (Bool.and_eq_true _ _).mp hB
        simp only [Bool.and_eq_true, Bool.not_eq_true', beq_eq_false_iff_ne] at hB1
        obtain ⟨⟨⟨h3, h4⟩, h5⟩, h6⟩ := hB1
        have h4' : k ∈ Region.ready md ops listed := List.contains_iff_mem.1 h4
        rw [hi] at h6
        refine wpAnyG_first hi (Region.noSelect_spec hsel) (fun c a w h => hQ c _ _ _ w h) h5 V (fun _ _ _ _ hA => hA.1) ts.length listed a w hc (Region.free_spec hi h3) h4' (Or.inl ⟨wanted_none h6, hy⟩) ⟨hV, hX⟩ ?_
        exact ih os _ _ w hl' (hc.set h4') hB2 hV (fun h0 => hX (by rw [getD_set_ne false h5] at h0; exact h0)) h
      · obtain ⟨v, hy, h⟩ := h
        unfold planP at hB
        obtain ⟨hB1, hB2⟩ := (Bool.and_eq_true _ _).mp hB
        simp only [Bool.and_eq_true, Bool.not_eq_true', beq_eq_false_iff_ne] at hB1
        obtain ⟨⟨⟨⟨h3, h4⟩, h5⟩, h6⟩, h8⟩ := hB1
        have h4' : k ∈ Region.ready md ops listed := List.contains_iff_mem.1 h4
        rw [hi] at h6
        refine wpAnyG_first hi (Region.noSelect_spec hsel) (fun c a w h => hQ c _ _ _ w h) h5 X (fun _ _ hc hl hA => hA.2 (later_spec hc 60 k g h8 hl).2) ts.length listed a w hc (Region.free_spec hi h3) h4' (Or.inl ⟨wanted_none h6, hy⟩) ⟨hV, hX⟩ ?_
        exact ih os _ _ w hl' (hc.set h4') hB2 hV (fun h0 => hX (by rw [getD_set_ne false h5] at h0; exact h0)) h
      · unfold planP at hB
        obtain ⟨hB1, hB2⟩ := (Bool.and_eq_true _ _).mp hB
        obtain ⟨h3, h4⟩ := (Bool.and_eq_true _ _).mp hB1
        replace h3 := of_decide_eq_true h3
        have h4' : k ∈ Region.ready md ops listed := by rw [h3]; exact List.mem_singleton.2 rfl
        refine wpAnyG_one h3 hi h4 fun K HK => h K (hid fun a' w' hV' hK => HK.out a' w' hV' fun hV'' => ?_)
        exact ih os _ a' w' hl' (hc.set h4') hB2 hV'' (fun h0 => by rw [h4] at h0; cases h0) (hK hV'')
theorem picks {l : List Oper} : ∀ ts : List (Nat × Nat), (ts.all fun t => decide (t.1 < l.length)) = true → (ts.filterMap fun t => l[t.1]?).map some = ts.map fun t => l.toArray[t.1]?
  | [], _ => rfl
  | t :: ts, h => by
    rw [List.all_cons, Bool.and_eq_true] at h
    have h1 : t.1 < l.length := of_decide_eq_true h.1
    have h2 : l[t.1]? = some (l[t.1]'h1) := List.getElem?_eq_getElem h1
    rw [List.filterMap_cons, h2]
    simp only [List.map_cons]
    rw [picks ts h.2, List.getElem?_toArray, h2]
theorem wp_region_perm {id : Nat} {l : List Oper} {a : Act} {w : World} (V X : World → Prop) (g : Nat) (ts : List (Nat × Nat)) (hm : P.follows .mixedOrders = true) (hlen : ts.length = l.length)
    (hin : (ts.all fun t => decide (t.1 < l.length)) = true) (hB : (Region.noSelect l.toArray && planP .any l.toArray g ts (Array.replicate l.length false)) = true) (hQ : ∀ c (a : Act) dst v w, Q (.panic c) (a.put dst v) w → Q (.panic c) a w)
    (hV : V w.drew) (hX : X w.drew) (h0 : ∀ ops', Hid (ops' = l.toArray) → seqG P ops' Q V X (ts.map (·.2)) (ts.filterMap fun t => l[t.1]?) a w.drew) : (Code.region id l.toArray true).wp P Q a w := by
  have h := h0 l.toArray (hid rfl)
  rw [Bool.and_eq_true] at hB
  refine wp_region_any hm (wpAny_of_G (V := V) (X := X) (g := g) _ _ _ _ ?_)
  have := wpAnyG_perm (md := .any) (Q := Q) (V := V) (X := X) (P := P) (g := g) hB.1 hQ ts _ (Array.replicate l.length false) a w.drew (picks ts hin) (fun j oj _ hl => by
    rw [Array.getD_eq_getD_getElem?, Array.getElem?_replicate] at hl
    split at hl <;> cases hl) hB.2 hV (fun _ => hX) h
  rw [hlen] at this
  have e : l.toArray.size = l.length := by simp
  rw [e]
  exact this
end Go.Proofs.YtaefpjecalnbcaaGreat
namespace Go.Proofs.YtaefpjecalnbcaaGreat
open Go.RowKit
variable {P : Program} {ops : Array Oper} {md : Region.Mode} {w : World} {V X : World → Prop} {g : Nat} {Q : Exit → Act → World → Prop}
def guardSlot (ops : Array Oper) (k d : Nat) : Bool := match (ops[k]?).bind (·.guard) with
  | some (j, _) => decide ((ops[j]?).bind (·.dst) = some d)
  | none => false
def guardTrue (o : Oper) : Bool := match o.guard with
  | some (_, b) => b
  | none => true
theorem wanted_slot {k d : Nat} {o : Oper} {a : Act} {b : Bool} (hk : ops[k]? = some o) (h : guardSlot ops k d = true) (ht : a.tmps[d]? = some (.bool b)) : Region.wanted o (yielded ops a.tmps) = decide (b = guardTrue o) := by
  unfold guardSlot at h
  rw [hk] at h
  simp only [Option.bind_some] at h
  cases hg : o.guard with
  | none => rw [hg] at h; cases h
  | some p =>
    obtain ⟨j, c⟩ := p
    rw [hg] at h
    have h2 : (ops[j]?).bind (·.dst) = some d := of_decide_eq_true h
    have hy : yielded ops a.tmps j = some b := by
      unfold yielded
      rw [h2]
      simp only [Option.bind_some, ht]
    unfold Region.wanted guardTrue
    rw [hg]
    simp only [hy]
    cases b <;> cases c <;> rfl
def planH (md : Region.Mode) (ops : Array Oper) (g : Nat) : List (Nat × Nat × Nat) → Array Bool → Bool
  | [], listed => (Region.ready md ops listed).isEmpty
  | (k, t, d) :: ts, listed => (match t with
      | 0 => Region.free md ops listed k && (Region.ready md ops listed).contains k && !(k == g) && ((ops[k]?).map fun o => o.guard.isNone).getD false
      | 1 => Region.free md ops listed k && (Region.ready md ops listed).contains k && !(k == g) && ((ops[k]?).map fun o => o.guard.isNone).getD false && laterB md ops 60 k g
      | 4 => Region.free md ops listed k && (Region.ready md ops listed).contains k && !(k == g) && guardSlot ops k d
      | 5 => Region.free md ops listed k && (Region.ready md ops listed).contains k && !(k == g) && guardSlot ops k d
      | 6 => decide (Region.ready md ops listed = [k]) && (listed.setIfInBounds k true).getD g false && guardSlot ops k d
      | _ => decide (Region.ready md ops listed = [k]) && (listed.setIfInBounds k true).getD g false) && planH md ops g ts (listed.setIfInBounds k true)
def seqH (P : Program) (ops : Array Oper) (Q : Exit → Act → World → Prop) (V X : World → Prop) : List (Nat × Nat) → List Oper → Act → World → Prop
  | (0, _) :: ts, o :: os, a, w => ∃ v, (∀ w, V w → (execOp a.eval o).run P w = .ok (.value v) w) ∧ seqH P ops Q V X ts os (a.put o.dst v) w
  | (1, _) :: ts, o :: os, a, w => ∃ v, (∀ w, X w → (execOp a.eval o).run P w = .ok (.value v) w) ∧ seqH P ops Q V X ts os (a.put o.dst v) w
  | (4, d) :: ts, o :: os, a, w => a.tmps[d]? = some (.bool (guardTrue o)) ∧ ∃ v, (∀ w, V w → (execOp a.eval o).run P w = .ok (.value v) w) ∧ seqH P ops Q V X ts os (a.put o.dst v) w
  | (5, d) :: ts, o :: os, a, w => a.tmps[d]? = some (.bool (!guardTrue o)) ∧ seqH P ops Q V X ts os (a.put o.dst undef) w
  | (6, d) :: ts, o :: os, a, w => a.tmps[d]? = some (.bool (guardTrue o)) ∧ ∀ K : Exit → Act → World → Prop, Hid (∀ a' w', V w' → (V w' → seqH P ops Q V X ts os a' w') → K .normal a' w') → wpList P ops K [{ o with guard := none }] a w
  | _ :: ts, o :: os, a, w => ∀ K : Exit → Act → World → Prop, Hid (∀ a' w', V w' → (V w' → seqH P ops Q V X ts os a' w') → K .normal a' w') → wpList P ops K [o] a w
  | _, _, a, w => Q .normal a w
theorem unguard {o : Oper} {K : Exit → Act → World → Prop} {a : Act} {w : World} (h : wpList P ops K [{ o with guard := none }] a w) (hw : Region.wanted o (yielded ops a.tmps) = true) : wpList P ops K [o] a w := by
  unfold wpList at h ⊢
  rw [if_pos hw]
  rw [if_pos (by rfl)] at h
  exact h
theorem wpAnyG_one' {k : Nat} {o : Oper} {fuel : Nat} {listed : Array Bool} {a : Act} {w : World} {T : Act → World → Prop} (hr : Region.ready md ops listed = [k]) (hk : ops[k]? = some o)
    (hg : (listed.setIfInBounds k true).getD g false = true) (h : ∀ K : Exit → Act → World → Prop, Hid (∀ a' w', V w' → (V w' → T a' w') → K .normal a' w') → wpList P ops K [o] a w)
    (hT : ∀ a' w', V w' → T a' w' → wpAnyG P md ops Q V X g fuel (listed.setIfInBounds k true) a' w') : wpAnyG P md ops Q V X g (fuel + 1) listed a w :=
  wpAnyG_one hr hk hg fun K HK => h K (hid fun a' w' hV hK => HK.out a' w' hV fun hV'' => hT a' w' hV'' (hK hV''))
theorem wpAnyG_permH (hsel : Region.noSelect ops = true) (hQ : ∀ c (a : Act) dst v w, Q (.panic c) (a.put dst v) w → Q (.panic c) a w) (ts : List (Nat × Nat × Nat)) : ∀ (os : List Oper) (listed : Array Bool) (a : Act) (w : World),
    os.map some = ts.map (fun t => ops[t.1]?) → ClosedL md ops listed → planH md ops g ts listed = true → V w → (listed.getD g false = false → X w) → seqH P ops Q V X (ts.map (·.2)) os a w →
    wpAnyG P md ops Q V X g ts.length listed a w := by
  induction ts with
  | nil =>
    intro os listed a w hl _ hB _ _ h
    cases os with
    | nil => exact ⟨by simpa [planH] using hB, h⟩
    | cons o os => simp at hl
  | cons t ts ih =>
    intro os listed a w hl hc hB hV hX h
    cases os with
    | nil => simp at hl
    | cons o os =>
      rw [List.map_cons, List.map_cons] at hl
      obtain ⟨hi0, hl'⟩ := List.cons.inj hl
      clear hl
      obtain ⟨k, tag, d⟩ := t
      have hi : ops[k]? = some o := hi0.symm
      clear hi0
      rw [List.length_cons]
      rw [List.map_cons] at h
      unfold planH at hB
      obtain ⟨hB1, hB2⟩ := (Bool.and_eq_true _ _).mp hB
      clear hB
      have quiet : ∀ v, Region.free md ops listed k = true → (Region.ready md ops listed).contains k = true → k ≠ g → YieldsIf P ops V o v a → seqH P ops Q V X (ts.map (·.2)) os (a.put o.dst v) w → wpAnyG P md ops Q V X g (ts.length + 1) listed a w := fun v h3 h4 h5 hy h => by
        have h4' : k ∈ Region.ready md ops listed := List.contains_iff_mem.1 h4
        refine wpAnyG_first hi (Region.noSelect_spec hsel) (fun c a w h => hQ c _ _ _ w h) h5 V (fun _ _ _ _ hA => hA.1) ts.length listed a w hc (Region.free_spec hi h3) h4' hy ⟨hV, hX⟩ ?_
        exact ih os _ _ w hl' (hc.set h4') hB2 hV (fun h0 => hX (by rw [getD_set_ne false h5] at h0; exact h0)) h
      have alone : Region.ready md ops listed = [k] → (listed.setIfInBounds k true).getD g false = true → (∀ K : Exit → Act → World → Prop, Hid (∀ a' w', V w' → (V w' → seqH P ops Q V X (ts.map (·.2)) os a' w') → K .normal a' w') → wpList P ops K [o] a w) → wpAnyG P md ops Q V X g (ts.length + 1) listed a w := fun h3 h4 h => by
        have h4' : k ∈ Region.ready md ops listed := by rw [h3]; exact List.mem_singleton.2 rfl
        exact wpAnyG_one' h3 hi h4 h fun a' w' hV' hT => ih os _ a' w' hl' (hc.set h4') hB2 hV' (fun h0 => by rw [h4] at h0; cases h0) hT
      match tag, hB1, h with
      | 0, hB1, h =>
        obtain ⟨v, hy, h⟩ := h
        simp only [Bool.and_eq_true, Bool.not_eq_true', beq_eq_false_iff_ne] at hB1
        obtain ⟨⟨⟨h3, h4⟩, h5⟩, h6⟩ := hB1
        rw [hi] at h6
        exact quiet v h3 h4 h5 (Or.inl ⟨wanted_none h6, hy⟩) h
      | 1, hB1, h =>
        obtain ⟨v, hy, h⟩ := h
        simp only [Bool.and_eq_true, Bool.not_eq_true', beq_eq_false_iff_ne] at hB1
        obtain ⟨⟨⟨⟨h3, h4⟩, h5⟩, h6⟩, h8⟩ := hB1
        have h4' : k ∈ Region.ready md ops listed := List.contains_iff_mem.1 h4
        rw [hi] at h6
        refine wpAnyG_first hi (Region.noSelect_spec hsel) (fun c a w h => hQ c _ _ _ w h) h5 X (fun _ _ hc hl hA => hA.2 (later_spec hc 60 k g h8 hl).2) ts.length listed a w hc (Region.free_spec hi h3) h4' (Or.inl ⟨wanted_none h6, hy⟩) ⟨hV, hX⟩ ?_
        exact ih os _ _ w hl' (hc.set h4') hB2 hV (fun h0 => hX (by rw [getD_set_ne false h5] at h0; exact h0)) h
      | 4, hB1, h =>
        obtain ⟨ht, v, hy, h⟩ := h
        simp only [Bool.and_eq_true, Bool.not_eq_true', beq_eq_false_iff_ne] at hB1
        obtain ⟨⟨⟨h3, h4⟩, h5⟩, h6⟩ := hB1
        exact quiet v h3 h4 h5 (Or.inl ⟨by rw [wanted_slot hi h6 ht]; simp, hy⟩) h
      | 5, hB1, h =>
        obtain ⟨ht, h⟩ := h
        simp only [Bool.and_eq_true, Bool.not_eq_true', beq_eq_false_iff_ne] at hB1
        obtain ⟨⟨⟨h3, h4⟩, h5⟩, h6⟩ := hB1
        exact quiet undef h3 h4 h5 (Or.inr ⟨by rw [wanted_slot hi h6 ht]; simp, rfl⟩) h
      | 6, hB1, h =>
        obtain ⟨ht, h⟩ := h
        simp only [Bool.and_eq_true, decide_eq_true_eq] at hB1
        obtain ⟨⟨h3, h4⟩, h6⟩ := hB1
        exact alone h3 h4 fun K HK => unguard (h K HK) (by rw [wanted_slot hi h6 ht]; simp)
      | 2, hB1, h =>
        simp only [Bool.and_eq_true, decide_eq_true_eq] at hB1
        exact alone hB1.1 hB1.2 h
      | 3, hB1, h =>
        simp only [Bool.and_eq_true, decide_eq_true_eq] at hB1
        exact alone hB1.1 hB1.2 h
      | n + 7, hB1, h =>
        simp only [Bool.and_eq_true, decide_eq_true_eq] at hB1
        exact alone hB1.1 hB1.2 h
theorem picksH {l : List Oper} : ∀ ts : List (Nat × Nat × Nat), (ts.all fun t => decide (t.1 < l.length)) = true → (ts.filterMap fun t => l[t.1]?).map some = ts.map fun t => l.toArray[t.1]?
  | [], _ => rfl
  | t :: ts, h => by
    rw [List.all_cons, Bool.and_eq_true] at h
    have h1 : t.1 < l.length := of_decide_eq_true h.1
    have h2 : l[t.1]? = some (l[t.1]'h1) := List.getElem?_eq_getElem h1
    rw [List.filterMap_cons, h2]
    simp only [List.map_cons]
    rw [picksH ts h.2, List.getElem?_toArray, h2]
theorem wp_region_guard {id : Nat} {l : List Oper} {a : Act} {w : World} (V X : World → Prop) (g : Nat) (ts : List (Nat × Nat × Nat)) (hm : P.follows .mixedOrders = true) (hlen : ts.length = l.length)
    (hin : (ts.all fun t => decide (t.1 < l.length)) = true) (hB : (Region.noSelect l.toArray && planH .any l.toArray g ts (Array.replicate l.length false)) = true) (hQ : ∀ c (a : Act) dst v w, Q (.panic c) (a.put dst v) w → Q (.panic c) a w)
    (hV : V w.drew) (hX : X w.drew) (h0 : ∀ ops', Hid (ops' = l.toArray) → seqH P ops' Q V X (ts.map (·.2)) (ts.filterMap fun t => l[t.1]?) a w.drew) : (Code.region id l.toArray true).wp P Q a w := by
  have h := h0 l.toArray (hid rfl)
  rw [Bool.and_eq_true] at hB
  refine wp_region_any hm (wpAny_of_G (V := V) (X := X) (g := g) _ _ _ _ ?_)
  have := wpAnyG_permH (md := .any) (Q := Q) (V := V) (X := X) (P := P) (g := g) hB.1 hQ ts _ (Array.replicate l.length false) a w.drew (picksH ts hin) (fun j oj _ hl => by
    rw [Array.getD_eq_getD_getElem?, Array.getElem?_replicate] at hl
    split at hl <;> cases hl) hB.2 hV (fun _ => hX) h
  rw [hlen] at this
  have e : l.toArray.size = l.length := by simp
  rw [e]
  exact this
theorem seqH0 {d : Nat} {ts : List (Nat × Nat)} {o : Oper} {os : List Oper} {a : Act} {w : World} {v : Value} (hy : ∀ w, V w → (execOp a.eval o).run P w = .ok (.value v) w) (h : seqH P ops Q V X ts os (a.put o.dst v) w) : seqH P ops Q V X ((0, d) :: ts) (o :: os) a w := ⟨v, hy, h⟩
theorem seqH2 {d : Nat} {ts : List (Nat × Nat)} {o : Oper} {os : List Oper} {a : Act} {w : World} (h : ∀ K : Exit → Act → World → Prop, Hid (∀ a' w', V w' → (V w' → seqH P ops Q V X ts os a' w') → K .normal a' w') → wpList P ops K [o] a w) : seqH P ops Q V X ((2, d) :: ts) (o :: os) a w := h
theorem seqH4 {d : Nat} {ts : List (Nat × Nat)} {o : Oper} {os : List Oper} {a : Act} {w : World} {v : Value} (ht : a.tmps[d]? = some (.bool (guardTrue o))) (hy : ∀ w, V w → (execOp a.eval o).run P w = .ok (.value v) w) (h : seqH P ops Q V X ts os (a.put o.dst v) w) : seqH P ops Q V X ((4, d) :: ts) (o :: os) a w := ⟨ht, v, hy, h⟩
theorem seqH6 {d : Nat} {ts : List (Nat × Nat)} {o : Oper} {os : List Oper} {a : Act} {w : World} (ht : a.tmps[d]? = some (.bool (guardTrue o))) (h : ∀ K : Exit → Act → World → Prop, Hid (∀ a' w', V w' → (V w' → seqH P ops Q V X ts os a' w') → K .normal a' w') → wpList P ops K [{ o with guard := none }] a w) : seqH P ops Q V X ((6, d) :: ts) (o :: os) a w := ⟨ht, h⟩
theorem seqH_end {a : Act} {w : World} (h : Q .normal a w) : seqH P ops Q V X [] [] a w := h
end Go.Proofs.YtaefpjecalnbcaaGreat
