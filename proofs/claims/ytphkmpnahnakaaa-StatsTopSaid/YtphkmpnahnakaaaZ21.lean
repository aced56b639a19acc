/- A region that draws its order, with stores: V holds throughout, X till the gate g (the first store) has come up: what every later one waits for may be taken first by what X says. No condition. Plain laws: rows of paths (rowsS); the rows of two messages, one behind the other, are the sums of theirs. No condition. Plain laws: how many messages lie how deep (dmsg); events and depths, told view by view. No condition. -/
import Derived.Test.YtphkmpnahnakaaaZ03
import Derived.Test.YtphkmpnahnakaaaZ09
import Derived.Test.YtphkmpnahnakaaaZ18
import Derived.OrdersHeld
namespace Go.Proofs.Ytphkmpnahnakaaa
open Go.RowKit
variable {P : Program} {ops : Array Oper} {md : Region.Mode} {w : World}
/-- t waits for i, through others or not -/
def laterB (md : Region.Mode) (ops : Array Oper) : Nat → Nat → Nat → Bool
  | 0, _, _ => false
  | f + 1, i, t => match ops[t]? with
    | some o => o.after.toList.any fun e => Region.binds md e && (e.on == i || laterB md ops f i e.on)
    | none => false
def ClosedL (md : Region.Mode) (ops : Array Oper) (listed : Array Bool) : Prop := ∀ (j : Nat) (oj : Oper), ops[j]? = some oj → listed.getD j false = true → ∀ e ∈ oj.after, Region.binds md e = true → listed.getD e.on false = true
theorem later_spec {listed : Array Bool} (hc : ClosedL md ops listed) : ∀ (f i t : Nat), laterB md ops f i t = true → listed.getD i false = false → t ∉ Region.ready md ops listed ∧ listed.getD t false = false
  | 0, _, _, h, _ => by cases h
  | f + 1, i, t, h, hi => by
    rw [laterB] at h
    cases ho : ops[t]? with
    | none => rw [ho] at h; cases h
    | some o =>
      rw [ho] at h
      obtain ⟨e, he0, hb⟩ := List.any_eq_true.1 h
      have he : e ∈ o.after := Array.mem_toList_iff.1 he0
      simp only [Bool.and_eq_true, Bool.or_eq_true, beq_iff_eq] at hb
      obtain ⟨hbi, hon⟩ := hb
      have hun : listed.getD e.on false = false := by
        rcases hon with hon | hon
        · rw [hon]; exact hi
        · exact (later_spec hc f i e.on hon hi).2
      constructor
      · intro hr
        obtain ⟨-, o', ho', hall⟩ := mem_ready.1 hr
        rw [ho] at ho'
        cases ho'
        rw [hall e he hbi] at hun
        cases hun
      · cases hl : listed.getD t false with
        | false => rfl
        | true =>
          rw [hc t o ho hl e he hbi] at hun
          cases hun
theorem ClosedL.set {listed : Array Bool} (hc : ClosedL md ops listed) {i : Nat} (hi : i ∈ Region.ready md ops listed) : ClosedL md ops (listed.setIfInBounds i true) := by
  intro j oj hj hl e he hb
  obtain ⟨-, oi, hoi, hall⟩ := mem_ready.1 hi
  by_cases hij : i = j
  · subst hij
    rw [hj] at hoi
    cases hoi
    exact getD_set_true (hall e he hb)
  · rw [getD_set_ne false hij] at hl
    exact getD_set_true (hc j oj hj hl e he hb)
theorem unlisted_of_ready {listed : Array Bool} {i : Nat} (h : i ∈ Region.ready md ops listed) : listed.getD i false = false := by
  have h0 := (mem_ready.1 h).1
  rcases Nat.lt_or_ge i listed.size with h' | h'
  · simp [h'] at h0 ⊢; exact h0
  · simp [Array.getElem?_eq_none h'] at h0
variable {V X : World → Prop} {g : Nat} {Q : Exit → Act → World → Prop}
/-- V holds at w, and X while the gate has not come up -/
def AtG (V X : World → Prop) (g : Nat) (listed : Array Bool) (w : World) : Prop := V w ∧ (listed.getD g false = false → X w)
/-- whatever order is picked from here on, AtG holds behind each operation -/
def wpAnyG (P : Program) (md : Region.Mode) (ops : Array Oper) (Q : Exit → Act → World → Prop) (V X : World → Prop) (g : Nat) : Nat → Array Bool → Act → World → Prop
  | 0, listed, a, w => Region.ready md ops listed = [] ∧ Q .normal a w
  | fuel + 1, listed, a, w => (Region.ready md ops listed = [] → Q .normal a w) ∧
    ∀ i ∈ Region.ready md ops listed, wpOp P ops Q i (fun a' w' => AtG V X g (listed.setIfInBounds i true) w' ∧ wpAnyG P md ops Q V X g fuel (listed.setIfInBounds i true) a' w') a w
theorem wpAny_of_G : ∀ (fuel : Nat) (listed : Array Bool) (a : Act) (w : World), wpAnyG P md ops Q V X g fuel listed a w → wpAny P md ops Q fuel listed a w
  | 0, _, _, _, h => h
  | fuel + 1, _, _, _, h => ⟨h.1, fun i hi => wpOp_mono (fun a' w' h' => wpAny_of_G fuel _ a' w' h'.2) (h.2 i hi)⟩
theorem AtG.back {i : Nat} {listed : Array Bool} {w : World} (hig : i ≠ g) (h : AtG V X g (listed.setIfInBounds i true) w) : AtG V X g listed w :=
  ⟨h.1, fun hl => h.2 (by rw [getD_set_ne false hig]; exact hl)⟩
theorem wpAnyG_first {i : Nat} {oi : Oper} {v : Value} (hi : ops[i]? = some oi) (hsel : ∀ (j : Nat) (o : Oper) cs b, ops[j]? = some o → o.op ≠ .select cs b)
    (hQ : ∀ c a w, Q (.panic c) (a.put oi.dst v) w → Q (.panic c) a w) (hig : i ≠ g) (S : World → Prop) (hS : ∀ (listed : Array Bool) w, ClosedL md ops listed → listed.getD i false = false → AtG V X g listed w → S w) :
    ∀ (fuel : Nat) (listed : Array Bool) (a : Act) (w : World), ClosedL md ops listed →
      (∀ j oj, ops[j]? = some oj → j ≠ i → listed.getD j true = false → (∀ e ∈ oj.after, Region.binds md e = true → e.on ≠ i) → oi.apart ops oj = true) →
      i ∈ Region.ready md ops listed → YieldsIf P ops S oi v a → AtG V X g listed w →
      wpAnyG P md ops Q V X g fuel (listed.setIfInBounds i true) (a.put oi.dst v) w → wpAnyG P md ops Q V X g (fuel + 1) listed a w := by
  have hput : ∀ (listed : Array Bool) (w : World), AtG V X g listed w → AtG V X g (listed.setIfInBounds i true) w := fun listed w h =>
    ⟨h.1, fun hl => h.2 (by rw [getD_set_ne false hig] at hl; exact hl)⟩
  intro fuel
  induction fuel with
  | zero =>
    intro listed a w hc _ hr hy hA H
    refine ⟨fun h => (by rw [h] at hr; cases hr), fun j hj => ?_⟩
    by_cases hji : j = i
    · subst hji; exact hy.wpOp hi (hS listed w hc (unlisted_of_ready hr) hA) ⟨hput _ _ hA, H⟩
    · have := ready_mono hj hji
      rw [H.1] at this
      cases this
  | succ fuel ih =>
    intro listed a w hc hfree hr hy hA H
    refine ⟨fun h => (by rw [h] at hr; cases hr), fun j hj => ?_⟩
    by_cases hji : j = i
    · subst hji; exact hy.wpOp hi (hS listed w hc (unlisted_of_ready hr) hA) ⟨hput _ _ hA, H⟩
    · have h1 := H.2 j (ready_mono hj hji)
      obtain ⟨hjun, oj, hoj, hall⟩ := mem_ready.1 hj
      have hnot : ∀ e ∈ oj.after, Region.binds md e = true → e.on ≠ i := fun e he hb heq => by
        have h2 := hall e he hb
        rw [heq, unlisted_of_ready hr] at h2
        cases h2
      have h2 := wpOp_putIf hoj (hfree j oj hoj hji hjun hnot) (fun cs b => hsel i oi cs b hi) (fun cs b => hsel j oj cs b hoj) hQ hy h1
      have hfree' : ∀ k ok, ops[k]? = some ok → k ≠ i → (listed.setIfInBounds j true).getD k true = false →
          (∀ e ∈ ok.after, Region.binds md e = true → e.on ≠ i) → oi.apart ops ok = true := fun k ok hk hki hun hno => by
        refine hfree k ok hk hki ?_ hno
        by_cases hjk : j = k
        · subst hjk; exact hjun
        · rw [getD_set_ne true hjk] at hun; exact hun
      refine wpOp_mono (fun a' w' h3 => ?_) h2
      obtain ⟨h4, h5, h6⟩ := h3
      rw [Array.setIfInBounds_comm _ _ (Ne.symm hji)] at h5 h6
      exact ⟨h5.back hig, ih (listed.setIfInBounds j true) a' w' (hc.set hj) hfree' (ready_mono hr (Ne.symm hji)) h4 (h5.back hig) h6⟩
theorem wp_swap {o : Oper} {a : Act} {w : World} {K K' : Act → World → Prop} {Q' : Exit → Act → World → Prop} (hK : ∀ a w, K a w → K' a w) (hP : ∀ c a w, Q (.panic c) a w → Q' (.panic c) a w) (hL : LetsOut Q → LetsOut Q') (h : o.wp P a w K Q) : o.wp P a w K' Q' := by
  unfold Oper.wp at *
  generalize (execOp a.eval o).run P w = r at *
  cases r with
  | ok n w' =>
    cases n <;> simp only [Oper.upon] at h ⊢
    case value u => exact hK _ _ h
    case skip => exact hK _ _ h
    case defer d => exact hK _ _ h
    case enter f args =>
      refine Calls.mono h fun e w'' he => ?_
      cases e with
      | returned u => exact hK _ _ he
      | panicked c => exact hP _ _ _ he
      | outgrown => exact hL he
    case row row args => exact Go.Rows.mono h fun u w'' he => hK _ _ he
  | halt x w' =>
    cases x <;> simp only [Oper.upon] at h ⊢
    case panic u => exact hP _ _ _ h
/-- the only one that may come up; the gate has come up behind it -/
theorem wpAnyG_one {k : Nat} {o : Oper} {fuel : Nat} {listed : Array Bool} {a : Act} {w : World} (hr : Region.ready md ops listed = [k]) (hk : ops[k]? = some o)
    (hg : (listed.setIfInBounds k true).getD g false = true)
    (h : ∀ K : Exit → Act → World → Prop, Hid (∀ a' w', V w' → (V w' → wpAnyG P md ops Q V X g fuel (listed.setIfInBounds k true) a' w') → K .normal a' w') → wpList P ops K [o] a w) :
    wpAnyG P md ops Q V X g (fuel + 1) listed a w := by
  refine ⟨fun h1 => (by rw [hr] at h1; cases h1), fun i hi => ?_⟩
  rw [hr] at hi
  have hik : i = k := by simpa using hi
  subst hik
  have h2 := h (fun e a' w' => match e with
    | .normal => AtG V X g (listed.setIfInBounds i true) w' ∧ wpAnyG P md ops Q V X g fuel (listed.setIfInBounds i true) a' w'
    | e => Q e a' w') (hid fun a' w' hV hK => ⟨⟨hV, fun hl => by rw [hg] at hl; cases hl⟩, hK hV⟩)
  unfold wpOp
  simp only [hk]
  rw [wpList] at h2
  split at h2
  · rename_i hw
    simp only [hw, if_true]
    exact h2.imp (wp_swap (fun _ _ h => h) (fun _ _ _ h => h) (fun h => h)) (fun h => ⟨h.1, h.2⟩)
  · rename_i hw
    simp only [hw]
    exact h2
def planG (md : Region.Mode) (ops : Array Oper) (g : Nat) : List Nat → Nat → Array Bool → Bool
  | [], _, listed => (Region.ready md ops listed).isEmpty
  | t :: ts, k, listed => (match t with
      | 0 => Region.free md ops listed k && (Region.ready md ops listed).contains k && !(k == g) && ((ops[k]?).map fun o => o.guard.isNone).getD false
      | 1 => Region.free md ops listed k && (Region.ready md ops listed).contains k && !(k == g) && ((ops[k]?).map fun o => o.guard.isNone).getD false && laterB md ops 60 k g
      | _ => decide (Region.ready md ops listed = [k]) && (listed.setIfInBounds k true).getD g false) && planG md ops g ts (k + 1) (listed.setIfInBounds k true)
def seqG (P : Program) (ops : Array Oper) (Q : Exit → Act → World → Prop) (V X : World → Prop) : List Nat → List Oper → Act → World → Prop
  | 0 :: ts, o :: os, a, w => ∃ v, (∀ w, V w → (execOp a.eval o).run P w = .ok (.value v) w) ∧ seqG P ops Q V X ts os (a.put o.dst v) w
  | 1 :: ts, o :: os, a, w => ∃ v, (∀ w, X w → (execOp a.eval o).run P w = .ok (.value v) w) ∧ seqG P ops Q V X ts os (a.put o.dst v) w
  | _ :: ts, o :: os, a, w => ∀ K : Exit → Act → World → Prop, Hid (∀ a' w', V w' → (V w' → seqG P ops Q V X ts os a' w') → K .normal a' w') → wpList P ops K [o] a w
  | _, _, a, w => Q .normal a w
theorem wanted_none {o : Oper} {y : Nat → Option Bool} (h : o.guard.isNone = true) : Region.wanted o y = true := by
  have h' : o.guard = none := by simpa using h
  simp [Region.wanted, h']
theorem wpAnyG_seq (hsel : Region.noSelect ops = true) (hQ : ∀ c (a : Act) dst v w, Q (.panic c) (a.put dst v) w → Q (.panic c) a w) (ts : List Nat) : ∀ (os : List Oper) (k : Nat) (listed : Array Bool) (a : Act) (w : World),
    ts.length = os.length → (∀ i o, os[i]? = some o → ops[k + i]? = some o) → ClosedL md ops listed → planG md ops g ts k listed = true → V w → (listed.getD g false = false → X w) → seqG P ops Q V X ts os a w →
    wpAnyG P md ops Q V X g ts.length listed a w := by
  induction ts with
  | nil =>
    intro os k listed a w hl _ _ hB _ _ h
    cases os with
    | nil => exact ⟨by simpa [planG] using hB, h⟩
    | cons o os => simp at hl
  | cons t ts ih =>
    intro os k listed a w hl ho hc hB hV hX h
    cases os with
    | nil => simp at hl
    | cons o os =>
      have hi : ops[k]? = some o := ho 0 o rfl
      have ho' : ∀ i o', os[i]? = some o' → ops[k + 1 + i]? = some o' := fun i o' h => by
        have := ho (i + 1) o' h
        rw [show k + 1 + i = k + (i + 1) by omega]
        exact this
      have hl' : ts.length = os.length := by simpa using hl
      rw [List.length_cons]
      rcases t with _ | _ | n
      · obtain ⟨v, hy, h⟩ := h
        unfold planG at hB
        obtain ⟨hB1, hB2⟩ := (Bool.and_eq_true _ _).mp hB
        simp only [Bool.and_eq_true, Bool.not_eq_true', beq_eq_false_iff_ne] at hB1
        obtain ⟨⟨⟨h3, h4⟩, h5⟩, h6⟩ := hB1
        have h4' : k ∈ Region.ready md ops listed := List.contains_iff_mem.1 h4
        rw [hi] at h6
        refine wpAnyG_first hi (Region.noSelect_spec hsel) (fun c a w h => hQ c _ _ _ w h) h5 V (fun _ _ _ _ hA => hA.1) ts.length listed a w hc (Region.free_spec hi h3) h4' (Or.inl ⟨wanted_none h6, hy⟩) ⟨hV, hX⟩ ?_
        exact ih os (k + 1) _ _ w hl' ho' (hc.set h4') hB2 hV (fun h0 => hX (by rw [getD_set_ne false h5] at h0; exact h0)) h
      · obtain ⟨v, hy, h⟩ := h
        unfold planG at hB
        obtain ⟨hB1, hB2⟩ := (Bool.and_eq_true _ _).mp hB
        simp only [Bool.and_eq_true, Bool.not_eq_true', beq_eq_false_iff_ne] at hB1
        obtain ⟨⟨⟨⟨h3, h4⟩, h5⟩, h6⟩, h8⟩ := hB1
        have h4' : k ∈ Region.ready md ops listed := List.contains_iff_mem.1 h4
        rw [hi] at h6
        refine wpAnyG_first hi (Region.noSelect_spec hsel) (fun c a w h => hQ c _ _ _ w h) h5 X (fun _ _ hc hl hA => hA.2 (later_spec hc 60 k g h8 hl).2) ts.length listed a w hc (Region.free_spec hi h3) h4' (Or.inl ⟨wanted_none h6, hy⟩) ⟨hV, hX⟩ ?_
        exact ih os (k + 1) _ _ w hl' ho' (hc.set h4') hB2 hV (fun h0 => hX (by rw [getD_set_ne false h5] at h0; exact h0)) h
      · unfold planG at hB
        obtain ⟨hB1, hB2⟩ := (Bool.and_eq_true _ _).mp hB
        obtain ⟨h3, h4⟩ := (Bool.and_eq_true _ _).mp hB1
        replace h3 := of_decide_eq_true h3
        have h4' : k ∈ Region.ready md ops listed := by rw [h3]; exact List.mem_singleton.2 rfl
        refine wpAnyG_one h3 hi h4 fun K HK => h K (hid fun a' w' hV' hK => HK.out a' w' hV' fun hV'' => ?_)
        exact ih os (k + 1) _ a' w' hl' ho' (hc.set h4') hB2 hV'' (fun h0 => by rw [h4] at h0; cases h0) (hK hV'')
theorem wp_region_seq {id : Nat} {l : List Oper} {a : Act} {w : World} (V X : World → Prop) (g : Nat) (ts : List Nat) (hm : P.follows .mixedOrders = true) (hlen : ts.length = l.length)
    (hB : (Region.noSelect l.toArray && planG .any l.toArray g ts 0 (Array.replicate l.length false)) = true) (hQ : ∀ c (a : Act) dst v w, Q (.panic c) (a.put dst v) w → Q (.panic c) a w)
    (hV : V w.drew) (hX : X w.drew) (h0 : ∀ ops', Hid (ops' = l.toArray) → seqG P ops' Q V X ts l a w.drew) : (Code.region id l.toArray true).wp P Q a w := by
  have h := h0 l.toArray (hid rfl)
  rw [Bool.and_eq_true] at hB
  refine wp_region_any hm (wpAny_of_G (V := V) (X := X) (g := g) _ _ _ _ ?_)
  have := wpAnyG_seq (md := .any) (Q := Q) (V := V) (X := X) (P := P) (g := g) hB.1 hQ ts l 0 (Array.replicate l.length false) a w.drew hlen (fun i o h => by rw [Nat.zero_add, List.getElem?_toArray]; exact h) (fun j oj _ hl => by
    rw [Array.getD_eq_getD_getElem?, Array.getElem?_replicate] at hl
    split at hl <;> cases hl) hB.2 hV (fun _ => hX) h
  rw [hlen] at this
  have e : l.toArray.size = l.length := by simp
  rw [e]
  exact this
theorem seqG0 {ts : List Nat} {o : Oper} {os : List Oper} {a : Act} {w : World} {v : Value} (hy : ∀ w, V w → (execOp a.eval o).run P w = .ok (.value v) w) (h : seqG P ops Q V X ts os (a.put o.dst v) w) : seqG P ops Q V X (0 :: ts) (o :: os) a w := ⟨v, hy, h⟩
theorem seqG1 {ts : List Nat} {o : Oper} {os : List Oper} {a : Act} {w : World} {v : Value} (hy : ∀ w, X w → (execOp a.eval o).run P w = .ok (.value v) w) (h : seqG P ops Q V X ts os (a.put o.dst v) w) : seqG P ops Q V X (1 :: ts) (o :: os) a w := ⟨v, hy, h⟩
theorem seqG2 {ts : List Nat} {o : Oper} {os : List Oper} {a : Act} {w : World} (h : ∀ K : Exit → Act → World → Prop, Hid (∀ a' w', V w' → (V w' → seqG P ops Q V X ts os a' w') → K .normal a' w') → wpList P ops K [o] a w) : seqG P ops Q V X (2 :: ts) (o :: os) a w := h
theorem seqG_end {a : Act} {w : World} (h : Q .normal a w) : seqG P ops Q V X [] [] a w := h
end Go.Proofs.Ytphkmpnahnakaaa
namespace Go.Proofs.Ytphkmpnahnakaaa
open Go.RowKit
structure SR where
  path : ByteArray
  recs : Nat
  bytes : Nat
  vals : Nat
def emptyS : ByteArray := ⟨#[]⟩
def rowS (t : List SE) (p : ByteArray) : SR := ⟨p, cntE t p, bytE t p, valE t p⟩
def rowsS (t : List SE) (ks : List ByteArray) (n : Nat) : List SR := ⟨emptyS, t.length, n, n⟩ :: ks.map (rowS t)
/-- the keys of rows -/
structure KeysOf (t : List SE) (ks : List ByteArray) : Prop where
  nd : ks.Nodup
  mem : ∀ p, p ∈ ks ↔ ∃ e ∈ t, e.path = p
theorem nodup_le {α : Type} [DecidableEq α] : ∀ {a b : List α}, a.Nodup → (∀ x ∈ a, x ∈ b) → a.length ≤ b.length
  | [], _, _, _ => by simp
  | x :: r, b, h, hb => by
    rw [List.nodup_cons] at h
    have hx := hb x (by simp)
    have := nodup_le (a := r) (b := b.erase x) h.2 fun y hy => (List.mem_erase_of_ne (fun e : y = x => h.1 (e ▸ hy))).2 (hb y (by simp [hy]))
    rw [List.length_erase_of_mem hx] at this
    have : 0 < b.length := List.length_pos_of_mem hx
    rw [List.length_cons]
    omega
theorem sright_nameS {s : List Mes} (h : sright s = true) (m : Nat) (hm : m < s.length) (f : Fld) (hf : f ∈ (s.getD m .zero).fields) : nameOk f.name = true := by
  have h0 : (scheck s).2.2 = 0 := of_decide_eq_true h
  unfold scheck at h0
  by_cases h1 : s.length = 0 ∨ 100 < s.length
  · rw [if_pos h1] at h0; simp at h0
  rw [if_neg h1] at h0
  have hmem : s.getD m .zero ∈ s := by
    have : s.getD m .zero = s[m] := by simp [List.getD, hm]
    rw [this]; exact List.getElem_mem hm
  obtain ⟨h2, -, -⟩ := scheckGo_ok s [] 0 h0 _ hmem
  obtain ⟨nm, nu, h3⟩ := fieldsFault_none _ _ _ h2 f hf
  exact (fieldFault_ok h3).1
theorem nameOk_size {n : ByteArray} (h : nameOk n = true) : 1 ≤ n.size ∧ n.size ≤ 60 := by
  unfold nameOk at h
  rw [Bool.and_eq_true] at h
  exact of_decide_eq_true h.2
theorem getD_memS {α : Type} (l : List α) (k : Nat) (z : α) (h : k < l.length) : l.getD k z ∈ l := by
  have : l.getD k z = l[k] := by simp [List.getD, h]
  rw [this]; exact List.getElem_mem h
theorem nameOf_size {s : List Mes} (hs : sright s = true) {d m : Nat} {l : List UInt8} {x : VW} (hm : m < s.length) (hx : ViewOk s d m l x) : 1 ≤ (nameOf (s.getD m .zero).fields x.k).size ∧ (nameOf (s.getD m .zero).fields x.k).size ≤ 60 := by
  obtain ⟨-, -, -, h⟩ := hx.facts
  rcases h with ⟨h, -⟩ | ⟨k, h1, h2, -⟩
  · rw [h]
    unfold nameOf
    rw [if_pos (by decide)]
    decide
  · unfold nameOf
    rw [h1, if_neg (by omega), Int.toNat_natCast]
    exact nameOk_size (sright_nameS hs m hm _ (getD_memS _ _ _ h2))
end Go.Proofs.Ytphkmpnahnakaaa
namespace Go.Proofs.Ytphkmpnahnakaaa
open Go.RowKit
/-- depths, when a message so deep is met -/
def padD (ds : List Int) (k : Nat) : List Int := ds ++ List.replicate (k + 1 - ds.length) 0
def bumpD (ds : List Int) (k : Nat) : List Int := (padD ds k).set k ((padD ds k).getD k 0 + 1)
def subD (sub : Int → List UInt8 → List Int → List Int) (fs : List Fld) (ds : List Int) (x : AR) : List Int :=
  if 0 ≤ x.k ∧ (fs.getD x.k.toNat .zero).kind = 17 then sub (fs.getD x.k.toNat .zero).of x.val ds else ds
def dmsg (s : List Mes) : Nat → Int → List UInt8 → Nat → List Int → List Int
  | 0, _, _, _, ds => ds
  | d + 1, m, l, k, ds => (arecs (s.getD m.toNat .zero).fields l).foldl (subD (fun o v ds => dmsg s d o v (k + 1) ds) (s.getD m.toNat .zero).fields) (bumpD ds k)
/-- what one view adds -/
def evV (s : List Mes) (d : Nat) (fs : List Fld) (l : List UInt8) (p : ByteArray) (x : VW) : List SE := evA (evsub s d) fs p (arOf l x)
def dvV (s : List Mes) (d : Nat) (fs : List Fld) (l : List UInt8) (k : Nat) (ds : List Int) (x : VW) : List Int := subD (fun o v ds => dmsg s d o v (k + 1) ds) fs ds (arOf l x)
theorem evsub_views (s : List Mes) (d m : Nat) (l : List UInt8) (p : ByteArray) : evsub s (d + 1) (m : Int) l p = (vall (s.getD m .zero).fields l).1.flatMap (evV s d (s.getD m .zero).fields l p) := by
  rw [evsub, Int.toNat_natCast]
  unfold arecs
  rw [List.flatMap_map]
  rfl
theorem dmsg_views (s : List Mes) (d m : Nat) (l : List UInt8) (k : Nat) (ds : List Int) : dmsg s (d + 1) (m : Int) l k ds = (vall (s.getD m .zero).fields l).1.foldl (dvV s d (s.getD m .zero).fields l k) (bumpD ds k) := by
  rw [dmsg, Int.toNat_natCast]
  unfold arecs
  rw [List.foldl_map]
  rfl
theorem evV_none {s : List Mes} {d : Nat} {fs : List Fld} {l : List UInt8} {p : ByteArray} {x : VW} (h : ¬ (0 ≤ x.k ∧ (fs.getD x.k.toNat .zero).kind = 17)) (k : Nat) (ds : List Int) :
    evV s d fs l p x = [⟨underS p (nameOf fs x.k), (part l x.r.start x.r.to).length, (part l x.r.at' x.r.to).length⟩] ∧ dvV s d fs l k ds x = ds := by
  unfold evV dvV evA subD
  have h' : ¬ (0 ≤ (arOf l x).k ∧ (fs.getD (arOf l x).k.toNat .zero).kind = 17) := h
  rw [if_neg h', if_neg h']
  exact ⟨rfl, rfl⟩
theorem evV_sub {s : List Mes} {d : Nat} {fs : List Fld} {l : List UInt8} {p : ByteArray} {x : VW} (h : 0 ≤ x.k ∧ (fs.getD x.k.toNat .zero).kind = 17) (k : Nat) (ds : List Int) :
    evV s d fs l p x = ⟨underS p (nameOf fs x.k), (part l x.r.start x.r.to).length, (part l x.r.at' x.r.to).length⟩ :: evsub s d (fs.getD x.k.toNat .zero).of (part l x.r.at' x.r.to) (underS p (nameOf fs x.k)) ∧
    dvV s d fs l k ds x = dmsg s d (fs.getD x.k.toNat .zero).of (part l x.r.at' x.r.to) (k + 1) ds := by
  unfold evV dvV evA subD
  have h' : 0 ≤ (arOf l x).k ∧ (fs.getD (arOf l x).k.toNat .zero).kind = 17 := h
  rw [if_pos h', if_pos h']
  exact ⟨rfl, rfl⟩
theorem padD_len (ds : List Int) (k : Nat) : (padD ds k).length = max ds.length (k + 1) := by unfold padD; rw [List.length_append, List.length_replicate]; omega
theorem bumpD_len (ds : List Int) (k : Nat) : (bumpD ds k).length = max ds.length (k + 1) := by unfold bumpD; rw [List.length_set, padD_len]
theorem padD_mem {ds : List Int} {k : Nat} {B : Int} (hB : 0 ≤ B) (h : ∀ x ∈ ds, 0 ≤ x ∧ x ≤ B) : ∀ x ∈ padD ds k, 0 ≤ x ∧ x ≤ B := by
  intro x hx
  rcases List.mem_append.1 hx with hx | hx
  · exact h x hx
  · rw [List.mem_replicate] at hx
    omega
theorem bumpD_mem {ds : List Int} {k : Nat} {B : Int} (hB : 0 ≤ B) (h : ∀ x ∈ ds, 0 ≤ x ∧ x ≤ B) : ∀ x ∈ bumpD ds k, 0 ≤ x ∧ x ≤ B + 1 := by
  intro x hx
  have hp := padD_mem (k := k) hB h
  rcases List.mem_or_eq_of_mem_set hx with hx | hx
  · have := hp x hx; omega
  · have hk : k < (padD ds k).length := by rw [padD_len]; omega
    have := hp _ (getD_memS (padD ds k) k 0 hk)
    omega
/-- what lies less deep stays -/
theorem bumpD_low {ds : List Int} {k i : Nat} (hi : i < k) (hk : k ≤ ds.length) : (bumpD ds k)[i]? = ds[i]? := by
  unfold bumpD padD
  rw [List.getElem?_set_ne (by omega), List.getElem?_append_left (by omega)]
theorem foldl_low {α : Type} (f : List Int → α → List Int) (k : Nat) (h : ∀ ds x, k ≤ ds.length → k ≤ (f ds x).length ∧ ∀ i, i < k → (f ds x)[i]? = ds[i]?) : ∀ (l : List α) (ds : List Int), k ≤ ds.length → k ≤ (l.foldl f ds).length ∧ ∀ i, i < k → (l.foldl f ds)[i]? = ds[i]?
  | [], ds, hk => ⟨hk, fun _ _ => rfl⟩
  | x :: r, ds, hk => by
    obtain ⟨h1, h2⟩ := h ds x hk
    obtain ⟨h3, h4⟩ := foldl_low f k h r (f ds x) h1
    exact ⟨h3, fun i hi => (h4 i hi).trans (h2 i hi)⟩
theorem dmsg_low (s : List Mes) : ∀ (d : Nat) (m : Int) (l : List UInt8) (k : Nat) (ds : List Int), k ≤ ds.length → k ≤ (dmsg s d m l k ds).length ∧ ∀ i, i < k → (dmsg s d m l k ds)[i]? = ds[i]?
  | 0, _, _, _, _, hk => ⟨hk, fun _ _ => rfl⟩
  | d + 1, m, l, k, ds, hk => by
    rw [dmsg]
    have h0 : k + 1 ≤ (bumpD ds k).length := by rw [bumpD_len]; omega
    obtain ⟨h1, h2⟩ := foldl_low (subD (fun o v ds => dmsg s d o v (k + 1) ds) (s.getD m.toNat .zero).fields) (k + 1) (fun ds x hx => by
      unfold subD
      split
      · exact dmsg_low s d _ _ (k + 1) ds hx
      · exact ⟨hx, fun _ _ => rfl⟩) (arecs (s.getD m.toNat .zero).fields l) (bumpD ds k) h0
    exact ⟨by omega, fun i hi => (h2 i (by omega)).trans (bumpD_low hi hk)⟩
theorem dfold_low (s : List Mes) (d : Nat) (fs : List Fld) (l : List UInt8) (k : Nat) (xs : List VW) (ds : List Int) (h : k + 1 ≤ ds.length) : k + 1 ≤ (xs.foldl (dvV s d fs l k) ds).length :=
  (foldl_low (dvV s d fs l k) (k + 1) (fun ds x hx => by
    unfold dvV subD
    split
    · exact dmsg_low s d _ _ (k + 1) ds hx
    · exact ⟨hx, fun _ _ => rfl⟩) xs ds h).1
end Go.Proofs.Ytphkmpnahnakaaa
