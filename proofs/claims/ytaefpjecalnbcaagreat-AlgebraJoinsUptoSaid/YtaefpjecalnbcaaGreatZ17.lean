/- A region that draws its order, in which two allocations float among calls: they may come up at any time; what follows waits for both. No condition. A region that draws its order, in which one allocation floats among calls: it may come up at any time; what follows waits for it. No condition. -/
import Derived.Test.YtaefpjecalnbcaaGreatZ07
import Derived.Test.YtaefpjecalnbcaaGreatZ12
import Derived.Test.YtaefpjecalnbcaaGreatZ16
namespace Go.Proofs.YtaefpjecalnbcaaGreat
open Go.RowKit
variable {P : Program} {ops : Array Oper} {md : Region.Mode} {Q : Exit → Act → World → Prop}
theorem wpAnyG_weak {V V' X : World → Prop} {g : Nat} (h : ∀ w, V' w → V w) : ∀ (fuel : Nat) (listed : Array Bool) (a : Act) (w : World), wpAnyG P md ops Q V' X g fuel listed a w → wpAnyG P md ops Q V X g fuel listed a w
  | 0, _, _, _, h0 => h0
  | fuel + 1, _, _, _, h0 => ⟨h0.1, fun i hi => wpOp_mono (fun a' w' h' => ⟨⟨h _ h'.1.1, h'.1.2⟩, wpAnyG_weak h fuel _ a' w' h'.2⟩) (h0.2 i hi)⟩
theorem put_put (a : Act) (d : Nat) (u v : Value) : (a.put (some d) u).put (some d) v = a.put (some d) v := by
  simp [Act.put]
theorem put_comm (a : Act) {d e : Nat} (h : d ≠ e) (u v : Value) : (a.put (some d) u).put (some e) v = (a.put (some e) v).put (some d) u := by
  simp only [Act.put]
  rw [Array.setIfInBounds_comm _ _ h]
def Stab (V : World → Prop) : Prop := ∀ w w', V w → Below w.heap.size w w' → V w'
structure Flo where
  j : Nat
  d : Nat
  z : List Value
  T : TypeId
def Flo.Ok (P : Program) (ops : Array Oper) (f : Flo) : Prop := ∃ o, ops[f.j]? = some o ∧ o.dst = some f.d ∧ o.guard = none ∧ ∀ (a : Act) (w : World), (execOp a.eval o).run P w = .ok (.value (.pointer (some ⟨w.heap.size, 0, none⟩))) (w.alloc (.cells f.z.toArray f.T))
def Flo.At (f : Flo) (H : Nat) (rs : List (Nat × Nat)) (b : Bool) (u : Value) (w : World) : Prop := b = true → ∃ p, u = .pointer (some ⟨p, 0, none⟩) ∧ H ≤ p ∧ (∀ r ∈ rs, p < r.1 ∨ r.2 ≤ p) ∧ Blk w p f.z f.T
theorem Flo.At.below {f : Flo} {H : Nat} {rs : List (Nat × Nat)} {b : Bool} {u : Value} {w w' : World} (h : f.At H rs b u w) (hb : Below w.heap.size w w') : f.At H rs b u w' := fun e => let ⟨p, h1, h0, h3, h2⟩ := h e; ⟨p, h1, h0, h3, h2.below hb⟩
theorem Flo.At.call {f : Flo} {H : Nat} {rs : List (Nat × Nat)} {b : Bool} {u : Value} {w w' : World} (h : f.At H rs b u w) (hb : Below w.heap.size w w') : f.At H ((w.heap.size, w'.heap.size) :: rs) b u w' := fun e => by
  obtain ⟨p, h1, h0, h3, h2⟩ := h e
  refine ⟨p, h1, h0, fun r hr => ?_, h2.below hb⟩
  rcases List.mem_cons.1 hr with rfl | hr
  · exact .inl h2.lt
  · exact h3 r hr
def mark (f f2 : Flo) (b b2 : Bool) (base : Array Bool) : Array Bool := (if b then (fun x : Array Bool => x.setIfInBounds f.j true) else id) ((if b2 then (fun x : Array Bool => x.setIfInBounds f2.j true) else id) base)
theorem wpOp_alloc {f : Flo} {K : Act → World → Prop} {a : Act} {w : World} (hf : f.Ok P ops) (h : K (a.put (some f.d) (.pointer (some ⟨w.heap.size, 0, none⟩))) (w.alloc (.cells f.z.toArray f.T))) : wpOp P ops Q f.j K a w := by
  obtain ⟨o, h1, h2, h3, h4⟩ := hf
  unfold wpOp
  rw [h1]
  simp only
  rw [if_pos (wanted_none (by rw [h3]; rfl))]
  refine Or.inl ?_
  unfold Oper.wp
  rw [h4]
  show K (a.put o.dst _) _
  rw [h2]
  exact h
theorem wpOp_of_list {k : Nat} {o : Oper} {a : Act} {w : World} (hk : ops[k]? = some o) {T : Act → World → Prop} (h : ∀ K : Exit → Act → World → Prop, Hid (∀ a' w', T a' w' → K .normal a' w') → wpList P ops K [o] a w) : wpOp P ops Q k T a w := by
  have h2 := h (fun e a' w' => match e with | .normal => T a' w' | e => Q e a' w') (hid fun a' w' h => h)
  unfold wpOp
  simp only [hk]
  rw [wpList] at h2
  split at h2
  · rename_i hw
    simp only [hw, if_true]
    exact h2.imp (wp_swap (fun _ _ h => h) (fun _ _ _ h => h) (fun h => h)) (fun h => ⟨h.1, h.2⟩)
  · rename_i hw
    simp only [hw]
    exact h2
def ptrF (p : Nat) : Value := .pointer (some ⟨p, 0, none⟩)
def actF (f f2 : Flo) (a : Act) (u u2 : Value) : Act := (a.put (some f.d) u).put (some f2.d) u2
def seqF (P : Program) (ops : Array Oper) (Q : Exit → Act → World → Prop) (H : Nat) (f f2 : Flo) (ts2 : List (Nat × Nat)) (os2 : List Oper) : List (Nat × Nat) → List Nat → List Oper → (World → Prop) → Act → Prop
  | rs, 0 :: ts, o :: os, V, a0 => ∃ v, (∀ u u2 w, V w → (execOp (actF f f2 a0 u u2).eval o).run P w = .ok (.value v) w) ∧ seqF P ops Q H f f2 ts2 os2 rs ts os V (a0.put o.dst v)
  | rs, _ :: ts, o :: os, V, a0 => ∀ u u2 w, V w → ∀ K : Exit → Act → World → Prop, Hid (∀ v w' (V' : World → Prop), Stab V' → (∀ w, V' w → V w) → (∀ W, V' W → w'.heap.size ≤ W.heap.size) → V' w' → Below w.heap.size w w' → seqF P ops Q H f f2 ts2 os2 ((w.heap.size, w'.heap.size) :: rs) ts os V' (a0.put o.dst v) → K .normal ((actF f f2 a0 u u2).put o.dst v) w') → wpList P ops K [o] (actF f f2 a0 u u2) w
  | rs, _, _, V, a0 => ∀ p p2 w, V w → p ≠ p2 → H ≤ p → H ≤ p2 → (∀ r ∈ rs, p < r.1 ∨ r.2 ≤ p) → (∀ r ∈ rs, p2 < r.1 ∨ r.2 ≤ p2) → Blk w p f.z f.T → Blk w p2 f2.z f2.T → seqH P ops Q V (fun _ => True) ts2 os2 (actF f f2 a0 (ptrF p) (ptrF p2)) w
def combos : List (Bool × Bool) := [(false, false), (false, true), (true, false), (true, true)]
def plF (md : Region.Mode) (ops : Array Oper) (g : Nat) (f f2 : Flo) (ts2 : List (Nat × Nat × Nat)) : List (Nat × Nat) → Array Bool → Bool
  | [], base => planH md ops g ts2 (mark f f2 true true base) && [(false, false), (false, true), (true, false)].all fun b =>
      (Region.ready md ops (mark f f2 b.1 b.2 base)).all (fun i => (!b.1 && i == f.j) || (!b.2 && i == f2.j)) && !(Region.ready md ops (mark f f2 b.1 b.2 base)).isEmpty
  | (k, t) :: ts, base => (!(k == f.j) && !(k == f2.j) && !(k == g) && combos.all fun b => match t with
      | 0 => Region.free md ops (mark f f2 b.1 b.2 base) k && (Region.ready md ops (mark f f2 b.1 b.2 base)).contains k && ((ops[k]?).map fun o => o.guard.isNone).getD false && ((ops[k]?).map fun o => decide (o.dst ≠ some f.d) && decide (o.dst ≠ some f2.d)).getD false
      | _ => (Region.ready md ops (mark f f2 b.1 b.2 base)).contains k && (Region.ready md ops (mark f f2 b.1 b.2 base)).all (fun i => i == k || (!b.1 && i == f.j) || (!b.2 && i == f2.j)) && ((ops[k]?).map fun o => decide (o.dst ≠ some f.d) && decide (o.dst ≠ some f2.d)).getD false) && plF md ops g f f2 ts2 ts (base.setIfInBounds k true)
def pend (b b2 : Bool) : Nat := (if b then 0 else 1) + (if b2 then 0 else 1)
theorem mark_set {f f2 : Flo} {b b2 : Bool} {base : Array Bool} (k : Nat) : (mark f f2 b b2 base).setIfInBounds k true = mark f f2 b b2 (base.setIfInBounds k true) := by
  have hc : ∀ (x : Array Bool) (i j : Nat), (x.setIfInBounds i true).setIfInBounds j true = (x.setIfInBounds j true).setIfInBounds i true := fun x i j => by
    by_cases h : i = j
    · subst h; rfl
    · rw [Array.setIfInBounds_comm _ _ h]
  unfold mark
  cases b <;> cases b2 <;> simp only [if_true, if_false, Bool.false_eq_true, id]
  · rw [hc]
  · rw [hc]
  · rw [hc, hc base]
theorem mark1 {f f2 : Flo} {b2 : Bool} {base : Array Bool} : (mark f f2 false b2 base).setIfInBounds f.j true = mark f f2 true b2 base := by
  unfold mark; cases b2 <;> rfl
theorem mark2 {f f2 : Flo} {b : Bool} {base : Array Bool} : (mark f f2 b false base).setIfInBounds f2.j true = mark f f2 b true base := by
  have hc : ∀ (x : Array Bool) (i j : Nat), (x.setIfInBounds i true).setIfInBounds j true = (x.setIfInBounds j true).setIfInBounds i true := fun x i j => by
    by_cases h : i = j
    · subst h; rfl
    · rw [Array.setIfInBounds_comm _ _ h]
  unfold mark
  cases b <;> simp only [if_true, if_false, Bool.false_eq_true, id]
  rw [hc]
theorem actF_put {f f2 : Flo} {a : Act} {u u2 v : Value} {dst : Option Nat} (h : dst ≠ some f.d) (h2 : dst ≠ some f2.d) : (actF f f2 a u u2).put dst v = actF f f2 (a.put dst v) u u2 := by
  cases dst with
  | none => rfl
  | some e =>
    have h : e ≠ f.d := fun e2 => h (by rw [e2])
    have h2 : e ≠ f2.d := fun e2 => h2 (by rw [e2])
    unfold actF
    rw [put_comm _ (Ne.symm h2), put_comm _ (Ne.symm h)]
theorem actF_d {f f2 : Flo} {a : Act} {u u2 v : Value} (h : f.d ≠ f2.d) : (actF f f2 a u u2).put (some f.d) v = actF f f2 a v u2 := by
  unfold actF
  rw [put_comm _ (Ne.symm h), put_put]
theorem actF_d2 {f f2 : Flo} {a : Act} {u u2 v : Value} : (actF f f2 a u u2).put (some f2.d) v = actF f f2 a u v := by
  unfold actF
  rw [put_put]
theorem float_up {f f2 : Flo} (hf : f.Ok P ops) (hf2 : f2.Ok P ops) (hd : f.d ≠ f2.d) {V : World → Prop} (hS : Stab V) {H : Nat} {rs : List (Nat × Nat)} (hH : ∀ w, V w → H ≤ w.heap.size) (hR : ∀ w, V w → ∀ r ∈ rs, r.2 ≤ w.heap.size) {g : Nat} {base : Array Bool} {a0 : Act} {n fuel : Nat}
    (ih : ∀ b b2 u u2 w, pend b b2 = n → ClosedL md ops (mark f f2 b b2 base) → V w → f.At H rs b u w → f2.At H rs b2 u2 w → (b = true → b2 = true → u ≠ u2) → wpAnyG P md ops Q V (fun _ => True) g fuel (mark f f2 b b2 base) (actF f f2 a0 u u2) w)
    {b b2 : Bool} {u u2 : Value} {w : World} (hn : pend b b2 = n + 1) (hc : ClosedL md ops (mark f f2 b b2 base)) (hV : V w) (h1 : f.At H rs b u w) (h2 : f2.At H rs b2 u2 w) {i : Nat} (hr : i ∈ Region.ready md ops (mark f f2 b b2 base)) (hi : (!b && i == f.j) = true ∨ (!b2 && i == f2.j) = true) :
    wpOp P ops Q i (fun a' w' => AtG V (fun _ => True) g ((mark f f2 b b2 base).setIfInBounds i true) w' ∧ wpAnyG P md ops Q V (fun _ => True) g fuel ((mark f f2 b b2 base).setIfInBounds i true) a' w') (actF f f2 a0 u u2) w := by
  rcases hi with hi | hi
  · simp only [Bool.and_eq_true, Bool.not_eq_true', beq_iff_eq] at hi
    obtain ⟨rfl, rfl⟩ := hi
    have hb : Below w.heap.size w (w.alloc (.cells f.z.toArray f.T)) := (Below.refl _ _).alloc (Nat.le_refl _) _
    refine wpOp_alloc hf ⟨⟨hS _ _ hV hb, fun _ => trivial⟩, ?_⟩
    have hc' := hc.set hr
    rw [mark1] at hc' ⊢
    rw [actF_d hd]
    refine ih true b2 _ u2 _ ?_ hc' (hS _ _ hV hb) (fun _ => ⟨_, rfl, hH w hV, fun r hr => .inr (hR w hV r hr), Blk.new w f.z f.T⟩) (h2.below hb) fun _ e => ?_
    · cases b2 <;> simp [pend] at hn ⊢ <;> omega
    · obtain ⟨p, rfl, -, -, hp⟩ := h2 e
      intro e2
      have := hp.lt
      injection e2 with e2; injection e2 with e2; injection e2 with e2
      omega
  · simp only [Bool.and_eq_true, Bool.not_eq_true', beq_iff_eq] at hi
    obtain ⟨rfl, rfl⟩ := hi
    have hb : Below w.heap.size w (w.alloc (.cells f2.z.toArray f2.T)) := (Below.refl _ _).alloc (Nat.le_refl _) _
    refine wpOp_alloc hf2 ⟨⟨hS _ _ hV hb, fun _ => trivial⟩, ?_⟩
    have hc' := hc.set hr
    rw [mark2] at hc' ⊢
    rw [actF_d2]
    refine ih b true u _ _ ?_ hc' (hS _ _ hV hb) (h1.below hb) (fun _ => ⟨_, rfl, hH w hV, fun r hr => .inr (hR w hV r hr), Blk.new w f2.z f2.T⟩) fun e _ => ?_
    · cases b <;> simp [pend] at hn ⊢ <;> omega
    · obtain ⟨p, rfl, -, -, hp⟩ := h1 e
      intro e2
      have := hp.lt
      injection e2 with e2; injection e2 with e2; injection e2 with e2
      omega
theorem combos_mem (b b2 : Bool) : (b, b2) ∈ combos := by cases b <;> cases b2 <;> decide
theorem wpAnyG_float (hsel : Region.noSelect ops = true) (hQ : ∀ c (a : Act) dst v w, Q (.panic c) (a.put dst v) w → Q (.panic c) a w) {f f2 : Flo} (hf : f.Ok P ops) (hf2 : f2.Ok P ops) (hd : f.d ≠ f2.d) {g H : Nat}
    (ts2 : List (Nat × Nat × Nat)) (os2 : List Oper) (hos2 : os2.map some = ts2.map (fun t => ops[t.1]?)) (ts : List (Nat × Nat)) : ∀ (rs : List (Nat × Nat)) (os : List Oper) (V : World → Prop) (a0 : Act) (base : Array Bool),
    os.map some = ts.map (fun t => ops[t.1]?) → plF md ops g f f2 ts2 ts base = true → Stab V → (∀ w, V w → H ≤ w.heap.size) → (∀ w, V w → ∀ r ∈ rs, r.2 ≤ w.heap.size) → seqF P ops Q H f f2 (ts2.map (·.2)) os2 rs (ts.map (·.2)) os V a0 →
    ∀ (n : Nat) b b2 u u2 w, pend b b2 = n → ClosedL md ops (mark f f2 b b2 base) → V w → f.At H rs b u w → f2.At H rs b2 u2 w → (b = true → b2 = true → u ≠ u2) →
      wpAnyG P md ops Q V (fun _ => True) g (n + ts.length + ts2.length) (mark f f2 b b2 base) (actF f f2 a0 u u2) w := by
  induction ts with
  | nil =>
    intro rs os V a0 base hl hB hS hH hR h n
    unfold plF at hB
    obtain ⟨hB1, hB2⟩ := (Bool.and_eq_true _ _).mp hB
    induction n with
    | zero =>
      intro b b2 u u2 w hp hc hV h1 h2 hne
      obtain ⟨rfl, rfl⟩ : b = true ∧ b2 = true := by cases b <;> cases b2 <;> simp [pend] at hp ⊢
      obtain ⟨p, rfl, hq1, hr1, hp1⟩ := h1 rfl
      obtain ⟨p2, rfl, hq2, hr2, hp2⟩ := h2 rfl
      have hpp : p ≠ p2 := fun e => hne rfl rfl (by rw [e])
      have hs : seqH P ops Q V (fun _ => True) (ts2.map (·.2)) os2 (actF f f2 a0 (ptrF p) (ptrF p2)) w := by
        cases os with
        | nil => exact h p p2 w hV hpp hq1 hq2 hr1 hr2 hp1 hp2
        | cons o os => simp at hl
      have := wpAnyG_permH (md := md) (g := g) hsel hQ ts2 os2 _ (actF f f2 a0 (ptrF p) (ptrF p2)) w hos2 hc hB1 hV (fun _ => trivial) hs
      simpa [ptrF] using this
    | succ n ihn =>
      intro b b2 u u2 w hp hc hV h1 h2 hne
      have hbb : (b, b2) ∈ [(false, false), (false, true), (true, false)] := by cases b <;> cases b2 <;> simp [pend] at hp ⊢
      have hck := List.all_eq_true.1 hB2 _ hbb
      simp only [Bool.and_eq_true] at hck
      obtain ⟨hall, hne2⟩ := hck
      rw [show n + 1 + ([] : List (Nat × Nat)).length + ts2.length = (n + ([] : List (Nat × Nat)).length + ts2.length) + 1 by simp; omega]
      refine ⟨fun e => ?_, fun i hi => ?_⟩
      · rw [e] at hne2; simp at hne2
      · have hi2 := List.all_eq_true.1 hall i hi
        rw [Bool.or_eq_true] at hi2
        exact float_up hf hf2 hd hS hH hR (fun b b2 u u2 w hp hc hV h1 h2 hne => ihn b b2 u u2 w hp hc hV h1 h2 hne) hp hc hV h1 h2 hi hi2
  | cons t ts ih =>
    intro rs os V a0 base hl hB hS hH hR h
    obtain ⟨k, tag⟩ := t
    cases os with
    | nil => simp at hl
    | cons o os =>
      rw [List.map_cons, List.map_cons] at hl
      obtain ⟨hi0, hl'⟩ := List.cons.inj hl
      have hi : ops[k]? = some o := hi0.symm
      clear hl hi0
      unfold plF at hB
      obtain ⟨hB1, hB2⟩ := (Bool.and_eq_true _ _).mp hB
      obtain ⟨hB3, hB4⟩ := (Bool.and_eq_true _ _).mp hB1
      simp only [Bool.and_eq_true, Bool.not_eq_true', beq_eq_false_iff_ne] at hB3
      obtain ⟨⟨hkf, hkf2⟩, hkg⟩ := hB3
      rw [List.map_cons] at h
      rcases tag with _ | tag
      · obtain ⟨v, hy, h⟩ := h
        intro n b b2 u u2 w hp hc hV h1 h2 hne
        have hck := List.all_eq_true.1 hB4 _ (combos_mem b b2)
        simp only [Bool.and_eq_true] at hck
        obtain ⟨⟨⟨h3, h4⟩, h6⟩, h7⟩ := hck
        rw [hi] at h6 h7
        simp only [Option.map_some, Option.getD_some, Bool.and_eq_true, decide_eq_true_eq] at h7
        have h4' : k ∈ Region.ready md ops (mark f f2 b b2 base) := List.contains_iff_mem.1 h4
        rw [show n + ((k, 0) :: ts).length + ts2.length = (n + ts.length + ts2.length) + 1 by simp; omega]
        refine wpAnyG_first hi (Region.noSelect_spec hsel) (fun c a w h => hQ c _ _ _ w h) hkg V (fun _ _ _ _ hA => hA.1) _ _ _ w hc (Region.free_spec hi h3) h4' (Or.inl ⟨wanted_none h6, hy u u2⟩) ⟨hV, fun _ => trivial⟩ ?_
        have hc' := hc.set h4'
        rw [mark_set] at hc' ⊢
        rw [actF_put h7.1 h7.2]
        exact ih rs os V _ _ hl' hB2 hS hH hR h n b b2 u u2 w hp hc' hV h1 h2 hne
      · intro n
        induction n with
        | zero =>
          intro b b2 u u2 w hp hc hV h1 h2 hne
          have hck := List.all_eq_true.1 hB4 _ (combos_mem b b2)
          simp only [Bool.and_eq_true] at hck
          obtain ⟨⟨h4, h5⟩, h7⟩ := hck
          rw [hi] at h7
          simp only [Option.map_some, Option.getD_some, Bool.and_eq_true, decide_eq_true_eq] at h7
          have h4' : k ∈ Region.ready md ops (mark f f2 b b2 base) := List.contains_iff_mem.1 h4
          obtain ⟨rfl, rfl⟩ : b = true ∧ b2 = true := by cases b <;> cases b2 <;> simp [pend] at hp ⊢
          rw [show 0 + ((k, tag + 1) :: ts).length + ts2.length = (0 + ts.length + ts2.length) + 1 by simp; omega]
          refine ⟨fun e => (by rw [e] at h4'; cases h4'), fun i hir => ?_⟩
          have hi2 := List.all_eq_true.1 h5 i hir
          simp at hi2
          subst hi2
          refine wpOp_of_list hi fun K HK => h u u2 w hV K (hid fun v w' V' hS' hw' hsz hV' hb hseq => HK.out _ _ ⟨⟨hw' _ hV', fun _ => trivial⟩, wpAnyG_weak hw' _ _ _ _ ?_⟩)
          have hc' := hc.set h4'
          rw [mark_set] at hc' ⊢
          rw [actF_put h7.1 h7.2]
          exact ih _ os V' _ _ hl' hB2 hS' (fun w h => hH w (hw' w h)) (fun W hW r hr => by
            rcases List.mem_cons.1 hr with rfl | hr
            · exact hsz W hW
            · exact hR W (hw' W hW) r hr) hseq 0 true true u u2 w' rfl hc' hV' (h1.call hb) (h2.call hb) hne
        | succ n ihn =>
          intro b b2 u u2 w hp hc hV h1 h2 hne
          have hck := List.all_eq_true.1 hB4 _ (combos_mem b b2)
          simp only [Bool.and_eq_true] at hck
          obtain ⟨⟨h4, h5⟩, h7⟩ := hck
          rw [hi] at h7
          simp only [Option.map_some, Option.getD_some, Bool.and_eq_true, decide_eq_true_eq] at h7
          have h4' : k ∈ Region.ready md ops (mark f f2 b b2 base) := List.contains_iff_mem.1 h4
          rw [show n + 1 + ((k, tag + 1) :: ts).length + ts2.length = (n + 1 + ts.length + ts2.length) + 1 by simp; omega]
          refine ⟨fun e => (by rw [e] at h4'; cases h4'), fun i hir => ?_⟩
          have hi2 := List.all_eq_true.1 h5 i hir
          simp only [Bool.or_eq_true] at hi2
          rcases hi2 with (hi2 | hi2) | hi2
          · have hi2 : i = k := by simpa using hi2
            subst hi2
            refine wpOp_of_list hi fun K HK => h u u2 w hV K (hid fun v w' V' hS' hw' hsz hV' hb hseq => HK.out _ _ ⟨⟨hw' _ hV', fun _ => trivial⟩, wpAnyG_weak hw' _ _ _ _ ?_⟩)
            have hc' := hc.set h4'
            rw [mark_set] at hc' ⊢
            rw [actF_put h7.1 h7.2]
            exact ih _ os V' _ _ hl' hB2 hS' (fun w h => hH w (hw' w h)) (fun W hW r hr => by
            rcases List.mem_cons.1 hr with rfl | hr
            · exact hsz W hW
            · exact hR W (hw' W hW) r hr) hseq (n + 1) b b2 u u2 w' hp hc' hV' (h1.call hb) (h2.call hb) hne
          · rw [show n + 1 + ts.length + ts2.length = n + ((k, tag + 1) :: ts).length + ts2.length by simp; omega]
            exact float_up hf hf2 hd hS hH hR (fun b b2 u u2 w hp hc hV h1 h2 hne => ihn b b2 u u2 w hp hc hV h1 h2 hne) hp hc hV h1 h2 hir (.inl hi2)
          · rw [show n + 1 + ts.length + ts2.length = n + ((k, tag + 1) :: ts).length + ts2.length by simp; omega]
            exact float_up hf hf2 hd hS hH hR (fun b b2 u u2 w hp hc hV h1 h2 hne => ihn b b2 u u2 w hp hc hV h1 h2 hne) hp hc hV h1 h2 hir (.inr hi2)
theorem put_self (a : Act) (d : Nat) : a.put (some d) (a.tmps.getD d undef) = a := by
  have h : a.tmps.setIfInBounds d (a.tmps.getD d undef) = a.tmps := by
    apply Array.ext
    · simp
    · intro i h1 h2
      rw [Array.getElem_setIfInBounds]
      split
      · rename_i e
        subst e
        simp [Array.getD, h2]
      · rfl
  show { a with tmps := a.tmps.setIfInBounds d (a.tmps.getD d undef) } = a
  rw [h]
theorem actF_self (f f2 : Flo) (a : Act) : actF f f2 a (a.tmps.getD f.d undef) (a.tmps.getD f2.d undef) = a := by
  unfold actF
  rw [put_self, put_self]
theorem picksF {l : List Oper} : ∀ ts : List (Nat × Nat), (ts.all fun t => decide (t.1 < l.length)) = true → (ts.filterMap fun t => l[t.1]?).map some = ts.map fun t => l.toArray[t.1]? := picks
theorem wp_region_float {id : Nat} {l : List Oper} {a : Act} {w : World} (V : World → Prop) (g : Nat) (f f2 : Flo) (ts : List (Nat × Nat)) (ts2 : List (Nat × Nat × Nat)) (hm : P.follows .mixedOrders = true) (hlen : 2 + ts.length + ts2.length = l.length)
    (hin : (ts.all fun t => decide (t.1 < l.length)) = true) (hin2 : (ts2.all fun t => decide (t.1 < l.length)) = true) (hB : (Region.noSelect l.toArray && plF .any l.toArray g f f2 ts2 ts (Array.replicate l.length false)) = true)
    (hQ : ∀ c (a : Act) dst v w, Q (.panic c) (a.put dst v) w → Q (.panic c) a w) (hf : f.Ok P l.toArray) (hf2 : f2.Ok P l.toArray) (hd : f.d ≠ f2.d) (hS : Stab V) (H : Nat) (hH : ∀ w, V w → H ≤ w.heap.size) (hV : V w.drew)
    (h0 : ∀ ops', Hid (ops' = l.toArray) → seqF P ops' Q H f f2 (ts2.map (·.2)) (ts2.filterMap fun t => l[t.1]?) [] (ts.map (·.2)) (ts.filterMap fun t => l[t.1]?) V a) : (Code.region id l.toArray true).wp P Q a w := by
  have h := h0 l.toArray (hid rfl)
  rw [Bool.and_eq_true] at hB
  refine wp_region_any hm (wpAny_of_G (V := V) (X := fun _ => True) (g := g) _ _ _ _ ?_)
  have := wpAnyG_float (md := .any) (Q := Q) (P := P) (g := g) hB.1 hQ hf hf2 hd ts2 _ (picksH ts2 hin2) ts [] _ V a (Array.replicate l.length false) (picksF ts hin) hB.2 hS hH (fun _ _ r hr => by cases hr) h 2 false false (a.tmps.getD f.d undef) (a.tmps.getD f2.d undef) w.drew rfl
    (show ClosedL _ _ (Array.replicate l.length false) from fun j oj _ hl => by
      rw [Array.getD_eq_getD_getElem?, Array.getElem?_replicate] at hl
      split at hl <;> cases hl) hV (fun e => by cases e) (fun e => by cases e) (fun e => by cases e)
  rw [actF_self, hlen] at this
  have e : l.toArray.size = l.length := by simp
  rw [e]
  exact this
end Go.Proofs.YtaefpjecalnbcaaGreat
namespace Go.Proofs.YtaefpjecalnbcaaGreat
open Go.RowKit
variable {P : Program} {ops : Array Oper} {md : Region.Mode} {Q : Exit → Act → World → Prop}
def Kept2 (n0 lo hi : Nat) (w : World) (P : World → Prop) : Prop := ∀ w', (∀ b, (b < n0 ∨ (lo ≤ b ∧ b < hi)) → w'.heap[b]? = w.heap[b]?) → P w'
theorem Kept2.here {n0 lo hi : Nat} {w : World} {P : World → Prop} (h : Kept2 n0 lo hi w P) : P w := h w fun _ _ => rfl
theorem Kept2.below {n0 lo hi : Nat} {w w' : World} {P : World → Prop} (h : Kept2 n0 lo hi w P) (h0 : n0 ≤ w.heap.size) (h1 : hi ≤ w.heap.size) (hb : Below w.heap.size w w') : Kept2 n0 lo hi w' P := fun w2 hw2 => h w2 fun b hc => (hw2 b hc).trans (hb.block b (by omega))
theorem Kept2.set {n0 lo hi p j : Nat} {w : World} {P : World → Prop} (h : Kept2 n0 lo hi w P) (h0 : n0 ≤ p) (h1 : p < lo ∨ hi ≤ p) (u : Value) : Kept2 n0 lo hi (w.setCell ⟨p, j, none⟩ u) P := fun w2 hw2 => h w2 fun b hc => (hw2 b hc).trans (Below.heap_setCell _ _ _ b (by show b ≠ p; omega))
theorem kept2_of {n0 lo : Nat} {w : World} {P : World → Prop} (h : Apart n0 lo w P) : Kept2 n0 lo w.heap.size w P := fun w' hw' => h w' fun b hb hc => hw' b (hc.imp id fun h => ⟨h, hb⟩)
def actF1 (f : Flo) (a : Act) (u : Value) : Act := a.put (some f.d) u
def seqF1 (P : Program) (ops : Array Oper) (Q : Exit → Act → World → Prop) (H : Nat) (f : Flo) (ts2 : List (Nat × Nat)) (os2 : List Oper) : List (Nat × Nat) → List Nat → List Oper → (World → Prop) → Act → Prop
  | rs, 0 :: ts, o :: os, V, a0 => ∃ v, (∀ u w, V w → (execOp (actF1 f a0 u).eval o).run P w = .ok (.value v) w) ∧ seqF1 P ops Q H f ts2 os2 rs ts os V (a0.put o.dst v)
  | rs, _ :: ts, o :: os, V, a0 => ∀ u w, V w → ∀ K : Exit → Act → World → Prop, Hid (∀ v w' (V' : World → Prop), Stab V' → (∀ w, V' w → V w) → (∀ W, V' W → w'.heap.size ≤ W.heap.size) → V' w' → Below w.heap.size w w' → seqF1 P ops Q H f ts2 os2 ((w.heap.size, w'.heap.size) :: rs) ts os V' (a0.put o.dst v) → K .normal ((actF1 f a0 u).put o.dst v) w') → wpList P ops K [o] (actF1 f a0 u) w
  | rs, _, _, V, a0 => ∀ p w, V w → H ≤ p → (∀ r ∈ rs, p < r.1 ∨ r.2 ≤ p) → Blk w p f.z f.T → seqH P ops Q V (fun _ => True) ts2 os2 (actF1 f a0 (ptrF p)) w
theorem seqF1_q {H : Nat} {f : Flo} {ts2 : List (Nat × Nat)} {os2 : List Oper} {rs : List (Nat × Nat)} {ts : List Nat} {o : Oper} {os : List Oper} {V : World → Prop} {a0 : Act} {v : Value} (hy : ∀ u w, V w → (execOp (actF1 f a0 u).eval o).run P w = .ok (.value v) w) (h : seqF1 P ops Q H f ts2 os2 rs ts os V (a0.put o.dst v)) : seqF1 P ops Q H f ts2 os2 rs (0 :: ts) (o :: os) V a0 := ⟨v, hy, h⟩
def markf (f : Flo) (b : Bool) (base : Array Bool) : Array Bool := if b then base.setIfInBounds f.j true else base
def plF1 (md : Region.Mode) (ops : Array Oper) (g : Nat) (f : Flo) (ts2 : List (Nat × Nat × Nat)) : List (Nat × Nat) → Array Bool → Bool
  | [], base => planH md ops g ts2 (markf f true base) && ((Region.ready md ops (markf f false base)).all (fun i => i == f.j) && !(Region.ready md ops (markf f false base)).isEmpty)
  | (k, t) :: ts, base => (!(k == f.j) && !(k == g) && [false, true].all fun b => match t with
      | 0 => Region.free md ops (markf f b base) k && (Region.ready md ops (markf f b base)).contains k && ((ops[k]?).map fun o => o.guard.isNone).getD false && ((ops[k]?).map fun o => decide (o.dst ≠ some f.d)).getD false
      | _ => (Region.ready md ops (markf f b base)).contains k && (Region.ready md ops (markf f b base)).all (fun i => i == k || (!b && i == f.j)) && ((ops[k]?).map fun o => decide (o.dst ≠ some f.d)).getD false) && plF1 md ops g f ts2 ts (base.setIfInBounds k true)
theorem markf_set {f : Flo} {b : Bool} {base : Array Bool} (k : Nat) : (markf f b base).setIfInBounds k true = markf f b (base.setIfInBounds k true) := by
  cases b
  · rfl
  · show (base.setIfInBounds f.j true).setIfInBounds k true = (base.setIfInBounds k true).setIfInBounds f.j true
    by_cases h : f.j = k
    · rw [h]
    · rw [Array.setIfInBounds_comm _ _ h]
theorem actF1_put {f : Flo} {a : Act} {u v : Value} {dst : Option Nat} (h : dst ≠ some f.d) : (actF1 f a u).put dst v = actF1 f (a.put dst v) u := by
  cases dst with
  | none => rfl
  | some e =>
    have h : e ≠ f.d := fun e2 => h (by rw [e2])
    unfold actF1
    rw [put_comm _ (Ne.symm h)]
theorem actF1_d {f : Flo} {a : Act} {u v : Value} : (actF1 f a u).put (some f.d) v = actF1 f a v := put_put _ _ _ _
theorem float_up1 {f : Flo} (hf : f.Ok P ops) {V : World → Prop} (hS : Stab V) {H : Nat} {rs : List (Nat × Nat)} (hH : ∀ w, V w → H ≤ w.heap.size) (hR : ∀ w, V w → ∀ r ∈ rs, r.2 ≤ w.heap.size) {g : Nat} {base : Array Bool} {a0 : Act} {fuel : Nat}
    (ih : ∀ u w, ClosedL md ops (markf f true base) → V w → f.At H rs true u w → wpAnyG P md ops Q V (fun _ => True) g fuel (markf f true base) (actF1 f a0 u) w)
    {u : Value} {w : World} (hc : ClosedL md ops (markf f false base)) (hV : V w) {i : Nat} (hr : i ∈ Region.ready md ops (markf f false base)) (hi : i = f.j) :
    wpOp P ops Q i (fun a' w' => AtG V (fun _ => True) g ((markf f false base).setIfInBounds i true) w' ∧ wpAnyG P md ops Q V (fun _ => True) g fuel ((markf f false base).setIfInBounds i true) a' w') (actF1 f a0 u) w := by
  subst hi
  have hb : Below w.heap.size w (w.alloc (.cells f.z.toArray f.T)) := (Below.refl _ _).alloc (Nat.le_refl _) _
  refine wpOp_alloc hf ⟨⟨hS _ _ hV hb, fun _ => trivial⟩, ?_⟩
  have hc' := hc.set hr
  rw [actF1_d]
  exact ih _ _ hc' (hS _ _ hV hb) (fun _ => ⟨_, rfl, hH w hV, fun r hr => .inr (hR w hV r hr), Blk.new w f.z f.T⟩)
def pendf (b : Bool) : Nat := if b then 0 else 1
theorem bools_mem (b : Bool) : b ∈ [false, true] := by cases b <;> decide
theorem wpAnyG_float1 (hsel : Region.noSelect ops = true) (hQ : ∀ c (a : Act) dst v w, Q (.panic c) (a.put dst v) w → Q (.panic c) a w) {f : Flo} (hf : f.Ok P ops) {g H : Nat}
    (ts2 : List (Nat × Nat × Nat)) (os2 : List Oper) (hos2 : os2.map some = ts2.map (fun t => ops[t.1]?)) (ts : List (Nat × Nat)) : ∀ (rs : List (Nat × Nat)) (os : List Oper) (V : World → Prop) (a0 : Act) (base : Array Bool),
    os.map some = ts.map (fun t => ops[t.1]?) → plF1 md ops g f ts2 ts base = true → Stab V → (∀ w, V w → H ≤ w.heap.size) → (∀ w, V w → ∀ r ∈ rs, r.2 ≤ w.heap.size) → seqF1 P ops Q H f (ts2.map (·.2)) os2 rs (ts.map (·.2)) os V a0 →
    ∀ b u w, ClosedL md ops (markf f b base) → V w → f.At H rs b u w →
      wpAnyG P md ops Q V (fun _ => True) g (pendf b + ts.length + ts2.length) (markf f b base) (actF1 f a0 u) w := by
  induction ts with
  | nil =>
    intro rs os V a0 base hl hB hS hH hR h
    unfold plF1 at hB
    obtain ⟨hB1, hB2⟩ := (Bool.and_eq_true _ _).mp hB
    have hup : ∀ u w, ClosedL md ops (markf f true base) → V w → f.At H rs true u w → wpAnyG P md ops Q V (fun _ => True) g (0 + ([] : List (Nat × Nat)).length + ts2.length) (markf f true base) (actF1 f a0 u) w := by
      intro u w hc hV h1
      obtain ⟨p, rfl, hq1, hr1, hp1⟩ := h1 rfl
      have hs : seqH P ops Q V (fun _ => True) (ts2.map (·.2)) os2 (actF1 f a0 (ptrF p)) w := by
        cases os with
        | nil => exact h p w hV hq1 hr1 hp1
        | cons o os => simp at hl
      have := wpAnyG_permH (md := md) (g := g) hsel hQ ts2 os2 _ (actF1 f a0 (ptrF p)) w hos2 hc hB1 hV (fun _ => trivial) hs
      simpa [ptrF] using this
    intro b u w hc hV h1
    cases b with
    | true => exact hup u w hc hV h1
    | false =>
      obtain ⟨hall, hne2⟩ := (Bool.and_eq_true _ _).mp hB2
      show wpAnyG P md ops Q V (fun _ => True) g (1 + ([] : List (Nat × Nat)).length + ts2.length) _ _ _
      rw [show 1 + ([] : List (Nat × Nat)).length + ts2.length = (0 + ([] : List (Nat × Nat)).length + ts2.length) + 1 by simp; omega]
      refine ⟨fun e => ?_, fun i hi => ?_⟩
      · rw [e] at hne2; simp at hne2
      · have hi2 := List.all_eq_true.1 hall i hi
        exact float_up1 hf hS hH hR hup hc hV hi (by simpa using hi2)
  | cons t ts ih =>
    intro rs os V a0 base hl hB hS hH hR h
    obtain ⟨k, tag⟩ := t
    cases os with
    | nil => simp at hl
    | cons o os =>
      rw [List.map_cons, List.map_cons] at hl
      obtain ⟨hi0, hl'⟩ := List.cons.inj hl
      have hi : ops[k]? = some o := hi0.symm
      clear hl hi0
      unfold plF1 at hB
      obtain ⟨hB1, hB2⟩ := (Bool.and_eq_true _ _).mp hB
      obtain ⟨hB3, hB4⟩ := (Bool.and_eq_true _ _).mp hB1
      simp only [Bool.and_eq_true, Bool.not_eq_true', beq_eq_false_iff_ne] at hB3
      obtain ⟨hkf, hkg⟩ := hB3
      rw [List.map_cons] at h
      rcases tag with _ | tag
      · obtain ⟨v, hy, h⟩ := h
        intro b u w hc hV h1
        have hck := List.all_eq_true.1 hB4 _ (bools_mem b)
        simp only [Bool.and_eq_true] at hck
        obtain ⟨⟨⟨h3, h4⟩, h6⟩, h7⟩ := hck
        rw [hi] at h6 h7
        simp only [Option.map_some, Option.getD_some, decide_eq_true_eq] at h7
        have h4' : k ∈ Region.ready md ops (markf f b base) := List.contains_iff_mem.1 h4
        rw [show pendf b + ((k, 0) :: ts).length + ts2.length = (pendf b + ts.length + ts2.length) + 1 by simp; omega]
        refine wpAnyG_first hi (Region.noSelect_spec hsel) (fun c a w h => hQ c _ _ _ w h) hkg V (fun _ _ _ _ hA => hA.1) _ _ _ w hc (Region.free_spec hi h3) h4' (Or.inl ⟨wanted_none h6, hy u⟩) ⟨hV, fun _ => trivial⟩ ?_
        have hc' := hc.set h4'
        rw [markf_set] at hc' ⊢
        rw [actF1_put h7]
        exact ih rs os V _ _ hl' hB2 hS hH hR h b u w hc' hV h1
      · have hstep : ∀ b u w (n : Nat), n = pendf b → ClosedL md ops (markf f b base) → V w → f.At H rs b u w → k ∈ Region.ready md ops (markf f b base) → o.dst ≠ some f.d →
            wpOp P ops Q k (fun a' w' => AtG V (fun _ => True) g ((markf f b base).setIfInBounds k true) w' ∧ wpAnyG P md ops Q V (fun _ => True) g (pendf b + ts.length + ts2.length) ((markf f b base).setIfInBounds k true) a' w') (actF1 f a0 u) w := by
          intro b u w n _ hc hV h1 h4' h7
          refine wpOp_of_list hi fun K HK => h u w hV K (hid fun v w' V' hS' hw' hsz hV' hb hseq => HK.out _ _ ⟨⟨hw' _ hV', fun _ => trivial⟩, wpAnyG_weak hw' _ _ _ _ ?_⟩)
          have hc' := hc.set h4'
          rw [markf_set] at hc' ⊢
          rw [actF1_put h7]
          exact ih _ os V' _ _ hl' hB2 hS' (fun w h => hH w (hw' w h)) (fun W hW r hr => by
            rcases List.mem_cons.1 hr with rfl | hr
            · exact hsz W hW
            · exact hR W (hw' W hW) r hr) hseq b u w' hc' hV' (h1.call hb)
        have hfacts : ∀ b, (k ∈ Region.ready md ops (markf f b base)) ∧ (∀ i ∈ Region.ready md ops (markf f b base), (i == k || (!b && i == f.j)) = true) ∧ o.dst ≠ some f.d := by
          intro b
          have hck := List.all_eq_true.1 hB4 _ (bools_mem b)
          simp only [Bool.and_eq_true] at hck
          obtain ⟨⟨h4, h5⟩, h7⟩ := hck
          rw [hi] at h7
          simp only [Option.map_some, Option.getD_some, decide_eq_true_eq] at h7
          exact ⟨List.contains_iff_mem.1 h4, List.all_eq_true.1 h5, h7⟩
        have hup : ∀ u w, ClosedL md ops (markf f true base) → V w → f.At H rs true u w → wpAnyG P md ops Q V (fun _ => True) g (0 + ts.length + ts2.length + 1) (markf f true base) (actF1 f a0 u) w := by
          intro u w hc hV h1
          obtain ⟨h4', h5, h7⟩ := hfacts true
          refine ⟨fun e => (by rw [e] at h4'; cases h4'), fun i hir => ?_⟩
          have hi2 := h5 i hir
          simp at hi2
          subst hi2
          exact hstep true u w 0 rfl hc hV h1 h4' h7
        intro b u w hc hV h1
        cases b with
        | true =>
          rw [show pendf true + ((k, tag + 1) :: ts).length + ts2.length = 0 + ts.length + ts2.length + 1 by simp [pendf]; omega]
          exact hup u w hc hV h1
        | false =>
          obtain ⟨h4', h5, h7⟩ := hfacts false
          rw [show pendf false + ((k, tag + 1) :: ts).length + ts2.length = (1 + ts.length + ts2.length) + 1 by simp [pendf]; omega]
          refine ⟨fun e => (by rw [e] at h4'; cases h4'), fun i hir => ?_⟩
          have hi2 := h5 i hir
          simp only [Bool.or_eq_true] at hi2
          rcases hi2 with hi2 | hi2
          · have hi2 : i = k := by simpa using hi2
            subst hi2
            exact hstep false u w 1 rfl hc hV h1 h4' h7
          · rw [show 1 + ts.length + ts2.length = 0 + ts.length + ts2.length + 1 by omega]
            exact float_up1 hf hS hH hR hup hc hV hir (by simpa using hi2)
theorem actF1_self (f : Flo) (a : Act) : actF1 f a (a.tmps.getD f.d undef) = a := put_self _ _
theorem wp_region_float1 {id : Nat} {l : List Oper} {a : Act} {w : World} (V : World → Prop) (g : Nat) (f : Flo) (ts : List (Nat × Nat)) (ts2 : List (Nat × Nat × Nat)) (hm : P.follows .mixedOrders = true) (hlen : 1 + ts.length + ts2.length = l.length)
    (hin : (ts.all fun t => decide (t.1 < l.length)) = true) (hin2 : (ts2.all fun t => decide (t.1 < l.length)) = true) (hB : (Region.noSelect l.toArray && plF1 .any l.toArray g f ts2 ts (Array.replicate l.length false)) = true)
    (hQ : ∀ c (a : Act) dst v w, Q (.panic c) (a.put dst v) w → Q (.panic c) a w) (hf : f.Ok P l.toArray) (hS : Stab V) (H : Nat) (hH : ∀ w, V w → H ≤ w.heap.size) (hV : V w.drew)
    (h0 : ∀ ops', Hid (ops' = l.toArray) → seqF1 P ops' Q H f (ts2.map (·.2)) (ts2.filterMap fun t => l[t.1]?) [] (ts.map (·.2)) (ts.filterMap fun t => l[t.1]?) V a) : (Code.region id l.toArray true).wp P Q a w := by
  have h := h0 l.toArray (hid rfl)
  rw [Bool.and_eq_true] at hB
  refine wp_region_any hm (wpAny_of_G (V := V) (X := fun _ => True) (g := g) _ _ _ _ ?_)
  have := wpAnyG_float1 (md := .any) (Q := Q) (P := P) (g := g) hB.1 hQ hf ts2 _ (picksH ts2 hin2) ts [] _ V a (Array.replicate l.length false) (picksF ts hin) hB.2 hS hH (fun _ _ r hr => by cases hr) h false (a.tmps.getD f.d undef) w.drew
    (show ClosedL _ _ (Array.replicate l.length false) from fun j oj _ hl => by
      rw [Array.getD_eq_getD_getElem?, Array.getElem?_replicate] at hl
      split at hl <;> cases hl) hV (fun e => by cases e)
  have hp : pendf false + ts.length + ts2.length = l.length := hlen
  rw [actF1_self, hp] at this
  have e : l.toArray.size = l.length := by simp
  rw [e]
  exact this
end Go.Proofs.YtaefpjecalnbcaaGreat
