/- Maps of the call's own, told by their entries: a store at any key (putK). Slices of the call's own: append as an equation of the run, whatever the source (nil too); slices.Clone of bytes. Masks, in plain words: ways of numbers, their order, what a mask of ways is (the least ways that lie under no other one, in order), and that there is just one. -/
import Derived.Test.YtaefpjecalnbcaaGreatZ01
import Derived.Test.YtaefpjecalnbcaaGreatZ03
import Derived.Maps.AppendAt
import Derived.OwnWalk
import Derived.OwnWalkIn
namespace Go.Proofs.YtaefpjecalnbcaaGreat
open Go.RowKit
variable {K : Type}
def setAt [DecidableEq K] (k : K) (v : Value) : List (K × Value) → List (K × Value)
  | [] => []
  | (k', u) :: r => if k = k' then (k', v) :: r else (k', u) :: setAt k v r
def putK [DecidableEq K] (k : K) (v : Value) (es : List (K × Value)) : List (K × Value) := if (getOf k es).isSome = true then setAt k v es else es ++ [(k, v)]
theorem setAt_len [DecidableEq K] (k : K) (v : Value) : ∀ es : List (K × Value), (setAt k v es).length = es.length
  | [] => rfl
  | (k', u) :: r => by
    rw [setAt]
    split
    · rfl
    · rw [List.length_cons, List.length_cons, setAt_len k v r]
theorem setAt_get [DecidableEq K] (k : K) (v : Value) (k' : K) : ∀ es : List (K × Value), getOf k' (setAt k v es) = if k' = k then (if (getOf k es).isSome = true then some v else none) else getOf k' es
  | [] => by simp [setAt, getOf]
  | (q, u) :: r => by
    rw [setAt]
    by_cases h : k = q
    · subst h
      rw [if_pos rfl, getOf, getOf, getOf, if_pos rfl]
      by_cases h2 : k' = k
      · rw [if_pos h2, if_pos h2]; rfl
      · rw [if_neg h2, if_neg h2, if_neg h2]
    · rw [if_neg h, getOf, getOf, getOf, if_neg h, setAt_get k v k' r]
      by_cases h2 : k' = q
      · rw [if_pos h2, if_neg (by rintro rfl; exact h h2), if_pos h2]
      · rw [if_neg h2, if_neg h2]
theorem getOf_app2 [DecidableEq K] (k' : K) : ∀ (a b : List (K × Value)), getOf k' (a ++ b) = match getOf k' a with | some v => some v | none => getOf k' b
  | [], b => rfl
  | (q, u) :: r, b => by
    rw [List.cons_append, getOf, getOf]
    by_cases h : k' = q
    · rw [if_pos h, if_pos h]
    · rw [if_neg h, if_neg h]; exact getOf_app2 k' r b
theorem putK_get [DecidableEq K] (k : K) (v : Value) (es : List (K × Value)) (k' : K) : getOf k' (putK k v es) = if k' = k then some v else getOf k' es := by
  unfold putK
  by_cases h : (getOf k es).isSome = true
  · rw [if_pos h, setAt_get, if_pos h]
  · rw [if_neg h, getOf_app2]
    by_cases h2 : k' = k
    · subst h2
      rw [if_pos rfl]
      cases h3 : getOf k' es with
      | some u => rw [h3] at h; exact absurd rfl h
      | none => simp [getOf]
    · rw [if_neg h2]
      cases getOf k' es with
      | some u => rfl
      | none => simp only [getOf]; rw [if_neg h2]
theorem posOf_ge [DecidableEq K] (k : K) : ∀ (es : List (K × Value)) (j p : Nat) (v : Value), posOf k es j = some (p, v) → j ≤ p
  | [], _, _, _, h => by cases h
  | (k', u) :: r, j, p, v, h => by
    rw [posOf] at h
    split at h
    · cases h; exact Nat.le_refl _
    · exact Nat.le_of_succ_le (posOf_ge k r (j + 1) p v h)
theorem entL_set [DecidableEq K] (kv : K → Value) (k : K) (v : Value) : ∀ (es : List (K × Value)) (i j p : Nat) (u : Value), posOf k es j = some (p, u) →
    ((entL kv es i)[p - j]?).map (·.key) = some (kv k) ∧ (entL kv es i).modify (p - j) (fun e => { e with key := kv k, val := v }) = entL kv (setAt k v es) i
  | [], _, _, _, _, h => by cases h
  | (k', w) :: r, i, j, p, u, h => by
    rw [posOf] at h
    by_cases e : k = k'
    · rw [if_pos e] at h
      cases h
      subst e
      rw [setAt, if_pos rfl, Nat.sub_self]
      simp [entL]
    · rw [if_neg e] at h
      have hp := posOf_ge k r (j + 1) p u h
      obtain ⟨h1, h2⟩ := entL_set kv k v r (i + 1) (j + 1) p u h
      rw [setAt, if_neg e]
      obtain ⟨q, hq⟩ : ∃ q, p - j = q + 1 := ⟨p - j - 1, by omega⟩
      have hq' : p - (j + 1) = q := by omega
      rw [hq'] at h1 h2
      rw [hq]
      simp only [entL, List.getElem?_cons_succ, List.modify_succ_cons]
      exact ⟨h1, by rw [h2]⟩
theorem map_put [DecidableEq K] {P : Program} {t kt et : TypeId} {kv : K → Value} (KO : KeyOk P kt kv) (hsb : ∀ k, Instr.sameBits 10000 (kv k) (kv k) = true) (ht : P.underlying t = some (.map kt et)) {w : World} {r : Nat} {es : List (K × Value)} (h : MapIs w r kv es) (k : K) (v : Value) :
    (Instr.mapUpdate t (.map (some r)) (kv k) v).run P w = .ok () (putMap w r kv (putK k v es)) := by
  cases hg : getOf k es with
  | none =>
    rw [map_insert KO ht h k v hg]
    unfold putK
    rw [hg, if_neg (by decide)]
  | some u =>
    have hf := KO.find w k es 0
    obtain ⟨p, hp⟩ : ∃ p, posOf k es 0 = some (p, u) := by
      have := posOf_getOf k es 0
      rw [hg] at this
      cases hp : posOf k es 0 with
      | none => rw [hp] at this; cases this
      | some x => rw [hp] at this; obtain ⟨p, y⟩ := x; cases this; exact ⟨p, rfl⟩
    rw [hp] at hf
    obtain ⟨h1, h2⟩ := entL_set kv k v es 0 0 p u hp
    rw [Nat.sub_zero] at h1 h2
    have hkey : (Instr.keyThatStays (kv k) (kv k)).run P w = .ok (kv k) w := by
      unfold Instr.keyThatStays
      rw [if_pos (hsb k)]
      rfl
    have hk0 : ((((entL kv es 0).toArray)[p]?).map (·.key)).getD (kv k) = kv k := by
      rw [List.getElem?_toArray, h1]; rfl
    simp only [Instr.mapUpdate, Sem.run_bind, run_underlying ht, Result.andThen, MapKept.run_getObj_map h, KO.check, hf, hk0, hkey, MapKept.run_setObj_map _ h, putMap]
    congr 3
    unfold putK
    rw [hg, if_pos (show (some u).isSome = true from rfl), setAt_len, List.modify_toArray, h2]
theorem int_sameBits (k : Int) : Instr.sameBits 10000 (.int .i64 k) (.int .i64 k) = true := by
  simp [Instr.sameBits]
end Go.Proofs.YtaefpjecalnbcaaGreat
namespace Go.Proofs.YtaefpjecalnbcaaGreat
open Go.RowKit
theorem run_append_of_nil {P : Program} (w : World) (base : Nat) (t ty e : TypeId) (i : TypeInfo) (size : Nat) (ht : P.underlying t = some (.slice e)) (hi : P.info? e = some i)
    (v : Value) (n : Nat) (xs : List Value) (hown : w.ownsRow base e size v n xs) (c : Nat) : (Builtin.append_ #[t, t] ty #[v, .slice none 0 c]).run P w = .ok v w := by
  rcases hown.2 with ⟨rfl, rfl⟩ | ⟨g, cap, cur, rfl, _, _, hnc, _⟩
  · simp [Builtin.append_, run_underlying ht, sizeOf, typeInfo, hi, Builtin.lenOf, Builtin.firstCells]
  · simp [Builtin.append_, run_underlying ht, sizeOf, typeInfo, hi, Builtin.lenOf, Builtin.firstCells, hnc, storeCells]
/-- append onto a row of the call's own, from whatever reads as cells -/
theorem seg_append {P : Program} (w : World) (base : Nat) (t ty e : TypeId) (z : Value) (size bytes : Nat) (ht : P.underlying t = some (.slice e)) (hinfo : (P.info? e).map (fun i => (i.zero, i.size, i.bytes)) = some (some z, size, bytes))
    (hzs : z.cells.size = size) (hsz : 0 < size) (v x : Value) (n m : Nat) (xs news : List Value) (hown : w.ownsRow base e size v n xs) (hx : Seg w x size m news) (h1 : ∀ u ∈ news, u.oneCell' = true)
    (h63 : n + m ≤ 140737488355328) (hbytes : (n + m) * bytes ≤ 140737488355328) (hbase : base ≤ w.heap.size) :
    ∃ v' w', (Builtin.append_ #[t, t] ty #[v, x]).run P w = .ok v' w' ∧ w'.ownsRow base e size v' (n + m) (xs ++ news) ∧ w.grownBy w' v.ownBlock ∧ (v'.ownBlock = v.ownBlock ∨ v'.ownBlock = some w.heap.size) := by
  obtain ⟨i, hi, hz, hsize, hby⟩ := info_parts hinfo
  obtain ⟨hl, hm, a, cap, rfl, hmc, hcap, hnil, hc⟩ := hx
  cases a with
  | none =>
    have hm0 : m = 0 := by have := hnil rfl; omega
    subst hm0
    have hn : news = [] := List.eq_nil_of_length_eq_zero (by simpa using hl)
    subst hn
    exact ⟨v, w, run_append_of_nil w base t ty e i size ht hi v n xs hown cap, by simpa using hown, World.grownBy.refl w _, .inl rfl⟩
  | some ad =>
    have hcells : ∀ j u, news[j]? = some u → w.cell? (ad.add j) = some u := fun j u hu => by
      obtain ⟨b, o, e', h⟩ := hc j u hu
      cases e'
      rw [addr_add]; exact h
    obtain ⟨v', w', hrun, h2, h3, -, h5⟩ := run_append_own_at (P := P) w base t ty e i z size bytes ht hi hz hsize hby hzs hsz v n xs hown ad m cap news hl hcells h1 (by unfold maxLen; omega) hbytes hbase
    exact ⟨v', w', hrun, h2, h3, h5⟩
/-- the operation, by its run -/
theorem wp_append_eq {P : Program} {w : World} {o : Oper} {a : Act} {K : Act → World → Prop} {Q : Exit → Act → World → Prop} (s x : Operand) (t : TypeId)
    (ho : o.op = .call { callee := .builtin .append, args := #[s, x], argTypes := #[t, t] }) (v xv : Value) (hs : a.eval s = v) (hx : a.eval x = xv) {v' : Value} {w' : World}
    (hr : (Builtin.append_ #[t, t] o.type #[v, xv]).run P w = .ok v' w') (h : K (a.put o.dst v') w') : o.wp P a w K Q := by
  unfold Oper.wp execOp
  simp only [ho, resolve, invoke, builtin, Sem.run_bind, Sem.run_pure, Result.andThen_ok, List.map_toArray, List.map_cons, List.map_nil, hs, hx, hr]
  exact h
theorem wpList_append_eq {P : Program} {w : World} {ops : Array Oper} {rest : List Oper} {o : Oper} {a : Act} {Q : Exit → Act → World → Prop} (hgd : o.guard = none) (s x : Operand) (t : TypeId)
    (ho : o.op = .call { callee := .builtin .append, args := #[s, x], argTypes := #[t, t] }) (v xv : Value) (hs : a.eval s = v) (hx : a.eval x = xv) {v' : Value} {w' : World}
    (hr : (Builtin.append_ #[t, t] o.type #[v, xv]).run P w = .ok v' w') (h : wpList P ops Q rest (a.put o.dst v') w') : wpList P ops Q (o :: rest) a w :=
  wpList_plain hgd fun _ hK => wp_append_eq s x t ho v xv hs hx hr (hK _ _ h)
theorem step_append_eq {P : Program} {w : World} {ops : Array Oper} {o : Oper} {a : Act} {K : Act → World → Prop} {Q : Exit → Act → World → Prop} {E : Prop} (hgd : o.guard = none) (s x : Operand) (t : TypeId)
    (ho : o.op = .call { callee := .builtin .append, args := #[s, x], argTypes := #[t, t] }) (v xv : Value) (hs : a.eval s = v) (hx : a.eval x = xv) {v' : Value} {w' : World}
    (hr : (Builtin.append_ #[t, t] o.type #[v, xv]).run P w = .ok v' w') (h : K (a.put o.dst v') w') :
    if Region.wanted o (yielded ops a.tmps) = true then Oper.wp P o a w K Q else E := by
  have hw : Region.wanted o (yielded ops a.tmps) = true := by simp [Region.wanted, hgd]
  rw [if_pos hw]
  exact wp_append_eq s x t ho v xv hs hx hr h
/-- A []byte of the call's own (blocks from base on). -/
def Own (w : World) (base : Nat) (v : Value) (l : List UInt8) : Prop := w.ownsRow base 5 1 v l.length (l.map byteV)
theorem row_seg {w : World} {base size n : Nat} {e : TypeId} {v : Value} {xs : List Value} (h : w.ownsRow base e size v n xs) (hn : n ≤ 140737488355328) : Seg w v size n xs := by
  refine ⟨h.1, hn, ?_⟩
  rcases h.2 with ⟨rfl, rfl⟩ | ⟨g, cap, cur, rfl, hb, hg, hnc, hcm, hcs, ht⟩
  · exact ⟨none, 0, rfl, Nat.le_refl _, by omega, fun _ => rfl, fun j u hu => by
      have := h.1
      simp at this
      subst this
      simp at hu⟩
  · refine ⟨some ⟨g, 0, none⟩, cap, rfl, hnc, hcm, by simp, fun j u hu => ⟨g, 0, rfl, ?_⟩⟩
    have := h.cells (g := g) rfl j u hu
    rwa [addr_add] at this
theorem Own.bytes {w : World} {base : Nat} {v : Value} {l : List UInt8} (h : Own w base v l) (hn : l.length ≤ 140737488355328) : Bytes w v l := row_seg h hn
end Go.Proofs.YtaefpjecalnbcaaGreat
namespace Go.Proofs.YtaefpjecalnbcaaGreat
/-- does a way come first? -/
def ltW : List Int → List Int → Bool
  | [], [] => false
  | [], _ :: _ => true
  | _ :: _, [] => false
  | x :: a, y :: b => if x = y then ltW a b else decide (x < y)
theorem ltW_irrefl : ∀ a, ltW a a = false
  | [] => rfl
  | x :: a => by simp [ltW, ltW_irrefl a]
theorem ltW_trans : ∀ a b c, ltW a b = true → ltW b c = true → ltW a c = true
  | [], b, [] => by cases b <;> simp [ltW]
  | [], _, _ :: _ => by simp [ltW]
  | _ :: _, [], _ => by simp [ltW]
  | _ :: _, _ :: _, [] => by simp [ltW]
  | x :: a, y :: b, z :: c => by
    have ih := ltW_trans a b c
    simp only [ltW]
    by_cases h1 : x = y
    · subst h1
      by_cases h2 : x = z
      · subst h2; simpa using ih
      · simp only [if_true, if_neg h2, decide_eq_true_eq]; intro _ h; exact h
    · by_cases h2 : y = z
      · subst h2
        simp only [if_true, if_neg h1, decide_eq_true_eq]
        intro h _; exact h
      · by_cases h3 : x = z
        · subst h3
          simp only [if_neg h1, if_neg h2, decide_eq_true_eq]
          intro h h'; omega
        · simp only [if_neg h1, if_neg h2, if_neg h3, decide_eq_true_eq]
          intro h h'; omega
theorem ltW_total : ∀ a b, ltW a b = false → ltW b a = false → a = b
  | [], [] => fun _ _ => rfl
  | [], _ :: _ => by simp [ltW]
  | _ :: _, [] => by simp [ltW]
  | x :: a, y :: b => by
    have ih := ltW_total a b
    simp only [ltW]
    by_cases h1 : x = y
    · subst h1; simp only [if_true]; intro h h'; rw [ih h h']
    · simp only [if_neg h1, if_neg (fun e : y = x => h1 e.symm), decide_eq_false_iff_not]
      intro h h'; omega
/-- begins a way with another one? -/
def beginsW (way pre : List Int) : Bool := decide (pre.length ≤ way.length) && decide (way.take pre.length = pre)
theorem beginsW_iff (way pre : List Int) : beginsW way pre = true ↔ pre <+: way := by
  unfold beginsW
  rw [List.prefix_iff_eq_take]
  simp only [Bool.and_eq_true, decide_eq_true_eq]
  constructor
  · rintro ⟨_, h⟩; exact h.symm
  · intro h
    refine ⟨?_, h.symm⟩
    have h2 := congrArg List.length h
    simp at h2
    omega
/-- what lies between a way and one under it lies under it -/
theorem prefix_between : ∀ u v w : List Int, u <+: w → ltW v u = false → ltW w v = false → u <+: v
  | [], v, _, _, _, _ => List.nil_prefix
  | _ :: _, _, [], h, _, _ => by simp at h
  | x :: u, [], z :: w, h, h1, _ => by simp [ltW] at h1
  | x :: u, y :: v, z :: w, h, h1, h2 => by
    rw [List.cons_prefix_cons] at h
    obtain ⟨rfl, h⟩ := h
    by_cases e : x = y
    · subst e
      simp only [ltW, if_true] at h1 h2
      rw [List.cons_prefix_cons]
      exact ⟨rfl, prefix_between u v w h h1 h2⟩
    · simp only [ltW, if_neg e, if_neg (fun e' : y = x => e e'.symm), decide_eq_false_iff_not] at h1 h2
      omega
theorem ltW_prefix : ∀ u w : List Int, u <+: w → ltW w u = false
  | [], [], _ => rfl
  | [], _ :: _, _ => rfl
  | _ :: _, [], h => by simp at h
  | x :: u, z :: w, h => by
    rw [List.cons_prefix_cons] at h
    obtain ⟨rfl, h⟩ := h
    simpa [ltW] using ltW_prefix u w h
/-- of ways, the ones that lie under no other one -/
def Least (l : List (List Int)) (w : List Int) : Prop := w ∈ l ∧ w ≠ [] ∧ ∀ u ∈ l, u ≠ [] → u <+: w → u = w
/-- a mask of ways -/
def IsMask (l o : List (List Int)) : Prop := o.Pairwise (fun a b => ltW a b = true) ∧ ∀ w, w ∈ o ↔ Least l w
theorem sorted_same : ∀ {a b : List (List Int)}, a.Pairwise (fun a b => ltW a b = true) → b.Pairwise (fun a b => ltW a b = true) → (∀ w, w ∈ a ↔ w ∈ b) → a = b
  | [], [], _, _, _ => rfl
  | [], y :: b, _, _, h => absurd ((h y).2 (by simp)) (by simp)
  | x :: a, [], _, _, h => absurd ((h x).1 (by simp)) (by simp)
  | x :: a, y :: b, ha, hb, h => by
    rw [List.pairwise_cons] at ha hb
    have hxy : x = y := by
      have h1 := (h x).1 (by simp)
      have h2 := (h y).2 (by simp)
      rcases List.mem_cons.1 h1 with e | h1
      · exact e
      rcases List.mem_cons.1 h2 with e | h2
      · exact e.symm
      have h3 := ltW_trans _ _ _ (ha.1 y h2) (hb.1 x h1)
      rw [ltW_irrefl] at h3
      cases h3
    subst hxy
    have hab : ∀ w, w ∈ a ↔ w ∈ b := fun w => by
      constructor
      · intro hw
        rcases List.mem_cons.1 ((h w).1 (by simp [hw])) with e | hb'
        · subst e
          have := ha.1 w hw
          rw [ltW_irrefl] at this; cases this
        · exact hb'
      · intro hw
        rcases List.mem_cons.1 ((h w).2 (by simp [hw])) with e | hb'
        · subst e
          have := hb.1 w hw
          rw [ltW_irrefl] at this; cases this
        · exact hb'
    rw [sorted_same ha.2 hb.2 hab]
theorem IsMask.one {l a b : List (List Int)} (ha : IsMask l a) (hb : IsMask l b) : a = b :=
  sorted_same ha.1 hb.1 fun w => (ha.2 w).trans (hb.2 w).symm
/-- the program's way: over the ways in order, each that doesn't lie under the last one taken -/
def sieveW (o : List (List Int)) : List (List Int) → List (List Int)
  | [] => o
  | w :: r => sieveW (if w = [] ∨ (∃ u, o.getLast? = some u ∧ u <+: w) then o else o ++ [w]) r
/-- what holds of what is taken (o) of the ways gone through (l) -/
def Taken (l o : List (List Int)) : Prop :=
  o.Pairwise (fun a b => ltW a b = true) ∧ (∀ w ∈ o, w ∈ l ∧ w ≠ []) ∧ (∀ w ∈ l, w ≠ [] → ∃ u ∈ o, u <+: w) ∧ ∀ u ∈ o, ∀ v ∈ o, u <+: v → u = v
theorem Taken.mask {l o : List (List Int)} (h : Taken l o) : IsMask l o := by
  obtain ⟨h1, h2, h3, h4⟩ := h
  refine ⟨h1, fun w => ⟨fun hw => ⟨(h2 w hw).1, (h2 w hw).2, fun u hu hn hp => ?_⟩, fun ⟨hw, hn, hl⟩ => ?_⟩⟩
  · obtain ⟨v, hv, hvu⟩ := h3 u hu hn
    have e := h4 v hv w hw (hvu.trans hp)
    subst e
    exact hp.eq_of_length_le hvu.length_le
  · obtain ⟨v, hv, hvw⟩ := h3 w hw hn
    have e := hl v (h2 v hv).1 (h2 v hv).2 hvw
    subst e
    exact hv
theorem last_most {o : List (List Int)} (h : o.Pairwise (fun a b => ltW a b = true)) {u v : List Int} (hu : u ∈ o) (hv : o.getLast? = some v) : u = v ∨ ltW u v = true := by
  obtain ⟨r, rfl⟩ : ∃ r, o = r ++ [v] := by
    rw [List.getLast?_eq_some_iff] at hv
    exact hv
  rcases List.mem_append.1 hu with h1 | h1
  · exact .inr ((List.pairwise_append.1 h).2.2 u h1 v (by simp))
  · exact .inl (by simpa using h1)
theorem sieve_taken : ∀ (r l o : List (List Int)), Taken l o → r.Pairwise (fun a b => ltW b a = false) → (∀ w ∈ l, ∀ v ∈ r, ltW v w = false) → Taken (l ++ r) (sieveW o r)
  | [], l, o, h, _, _ => by simpa [sieveW] using h
  | w :: r, l, o, h, hr, hl => by
    have hr' := List.pairwise_cons.1 hr
    rw [sieveW, show l ++ w :: r = (l ++ [w]) ++ r by simp]
    refine sieve_taken r (l ++ [w]) _ ?_ hr'.2 ?_
    · obtain ⟨h1, h2, h3, h4⟩ := h
      split
      · rename_i hc
        refine ⟨h1, fun v hv => ⟨by simp [(h2 v hv).1], (h2 v hv).2⟩, fun v hv hn => ?_, h4⟩
        rcases List.mem_append.1 hv with hv | hv
        · exact h3 v hv hn
        · simp at hv
          subst hv
          rcases hc with e | ⟨u, hu, hp⟩
          · exact absurd e hn
          · exact ⟨u, List.mem_of_getLast? hu, hp⟩
      · rename_i hc
        simp only [not_or, not_exists, not_and] at hc
        -- none that is taken begins w
        have hno : ∀ u ∈ o, ¬ u <+: w := by
          intro u hu hp
          have hne : o ≠ [] := fun e => by subst e; simp at hu
          have hg : o.getLast? = some (o.getLast hne) := List.getLast?_eq_some_getLast hne
          have hgm := List.getLast_mem hne
          rcases last_most h1 hu hg with e | hlt
          · exact hc.2 _ hg (e ▸ hp)
          · have hp2 : u <+: o.getLast hne := by
              refine prefix_between _ _ _ hp ?_ (hl _ (h2 _ hgm).1 w (by simp))
              cases hx : ltW (o.getLast hne) u with
              | false => rfl
              | true =>
                have := ltW_trans _ _ _ hlt hx
                rw [ltW_irrefl] at this; cases this
            have e := h4 u hu _ hgm hp2
            rw [← e, ltW_irrefl] at hlt
            cases hlt
        have hnb : ∀ u ∈ o, ltW u w = true := by
          intro u hu
          cases hx : ltW u w with
          | true => rfl
          | false =>
            have e := ltW_total u w hx (hl u (h2 u hu).1 w (by simp))
            exact absurd (e ▸ List.prefix_refl u) (hno u hu)
        refine ⟨?_, ?_, ?_, ?_⟩
        · rw [List.pairwise_append]
          exact ⟨h1, by simp, fun u hu v hv => by simp at hv; subst hv; exact hnb u hu⟩
        · intro v hv
          rcases List.mem_append.1 hv with hv | hv
          · exact ⟨by simp [(h2 v hv).1], (h2 v hv).2⟩
          · simp at hv; subst hv; exact ⟨by simp, hc.1⟩
        · intro v hv hn
          rcases List.mem_append.1 hv with hv | hv
          · obtain ⟨u, hu, hp⟩ := h3 v hv hn
            exact ⟨u, by simp [hu], hp⟩
          · simp at hv; subst hv; exact ⟨v, by simp, List.prefix_refl v⟩
        · intro u hu0 v hv0 hp
          rcases List.mem_append.1 hu0 with hu | hu <;> rcases List.mem_append.1 hv0 with hv | hv
          · exact h4 u hu v hv hp
          · have e : v = w := by simpa using hv
            exact absurd (e ▸ hp) (hno u hu)
          · have e : u = w := by simpa using hu
            have h5 := hnb v hv
            rw [ltW_prefix w v (e ▸ hp)] at h5
            cases h5
          · simp at hu hv; rw [hu, hv]
    · intro u hu v hv
      rcases List.mem_append.1 hu with hu | hu
      · exact hl u hu v (by simp [hv])
      · simp at hu; subst hu; exact hr'.1 v hv
/-- the mask of sorted ways -/
theorem sieve_mask {l : List (List Int)} (h : l.Pairwise (fun a b => ltW b a = false)) : IsMask l (sieveW [] l) := by
  have := sieve_taken l [] [] ⟨by simp, by simp, by simp, by simp⟩ h (by simp)
  simpa using this.mask
theorem IsMask.perm {l l' o : List (List Int)} (hp : ∀ w, w ∈ l ↔ w ∈ l') (h : IsMask l o) : IsMask l' o := by
  refine ⟨h.1, fun w => (h.2 w).trans ?_⟩
  unfold Least
  constructor
  · rintro ⟨h1, h2, h3⟩; exact ⟨(hp w).1 h1, h2, fun u hu => h3 u ((hp u).2 hu)⟩
  · rintro ⟨h1, h2, h3⟩; exact ⟨(hp w).2 h1, h2, fun u hu => h3 u ((hp u).1 hu)⟩
/-- the document's way: into its place -/
def insW (w : List Int) : List (List Int) → List (List Int)
  | [] => [w]
  | u :: r => if ltW u w then u :: insW w r else w :: u :: r
theorem insW_mem (w v : List Int) : ∀ o, v ∈ insW w o ↔ v = w ∨ v ∈ o
  | [] => by simp [insW]
  | u :: r => by
    rw [insW]
    split
    · rw [List.mem_cons, insW_mem w v r, List.mem_cons]
      constructor
      · rintro (h | h | h) <;> simp [h]
      · rintro (h | h | h) <;> simp [h]
    · simp
theorem insW_sorted (w : List Int) : ∀ o : List (List Int), o.Pairwise (fun a b => ltW a b = true) → w ∉ o → (insW w o).Pairwise (fun a b => ltW a b = true)
  | [], _, _ => by simp [insW]
  | u :: r, h, hn => by
    have h' := List.pairwise_cons.1 h
    rw [insW]
    split
    · rename_i hlt
      rw [List.pairwise_cons]
      refine ⟨fun v hv => ?_, insW_sorted w r h'.2 (fun hx => hn (by simp [hx]))⟩
      rcases (insW_mem w v r).1 hv with e | hv
      · rw [e]; exact hlt
      · exact h'.1 v hv
    · rename_i hlt
      have hwu : ltW w u = true := by
        cases hx : ltW w u with
        | true => rfl
        | false => exact absurd (by simp [ltW_total w u hx (by simpa using hlt)]) hn
      rw [List.pairwise_cons]
      refine ⟨fun v hv => ?_, h⟩
      rcases List.mem_cons.1 hv with e | hv
      · rw [e]; exact hwu
      · exact ltW_trans _ _ _ hwu (h'.1 v hv)
/-- is the i-th way one that is kept? -/
def keepW (l : List (List Int)) (i : Nat) : Bool :=
  decide ((l.getD i []) ≠ []) && (List.range l.length).all fun k => !(decide (k ≠ i) && decide ((l.getD k []) ≠ []) && beginsW (l.getD i []) (l.getD k []) && (decide ((l.getD k []).length < (l.getD i []).length) || decide (k < i)))
/-- what the document's mask is behind n ways -/
def rOf (l : List (List Int)) : Nat → List (List Int)
  | 0 => []
  | n + 1 => if keepW l n then insW (l.getD n []) (rOf l n) else rOf l n
theorem keepW_iff (l : List (List Int)) (i : Nat) (hi : i < l.length) : keepW l i = true ↔ Least l (l.getD i []) ∧ ∀ k, k < i → l.getD k [] ≠ l.getD i [] := by
  have hget : ∀ k, k < l.length → l.getD k [] ∈ l := fun k hk => by
    rw [List.getD_eq_getElem?_getD, List.getElem?_eq_getElem hk]; exact List.getElem_mem hk
  unfold keepW Least
  simp only [Bool.and_eq_true, decide_eq_true_eq, List.all_eq_true, List.mem_range, Bool.not_eq_true', Bool.and_eq_false_iff, decide_eq_false_iff_not, Bool.or_eq_false_iff]
  constructor
  · rintro ⟨hn, h⟩
    have key : ∀ k, k < l.length → k ≠ i → l.getD k [] ≠ [] → l.getD k [] <+: l.getD i [] → ¬ ((l.getD k []).length < (l.getD i []).length) ∧ ¬ k < i := by
      intro k hk hki hkn hp
      rcases h k hk with ((h1 | h1) | h1) | h1
      · exact absurd hki h1
      · exact absurd hkn h1
      · rw [(beginsW_iff _ _).2 hp] at h1; cases h1
      · exact h1
    refine ⟨⟨hget i hi, hn, fun u hu hun hp => ?_⟩, fun k hk e => ?_⟩
    · obtain ⟨k, hk, e⟩ := List.getElem_of_mem hu
      have e' : l.getD k [] = u := by rw [List.getD_eq_getElem?_getD, List.getElem?_eq_getElem hk]; exact e
      by_cases hki : k = i
      · subst hki; exact e'.symm
      · have h5 := (key k hk hki (by rw [e']; exact hun) (by rw [e']; exact hp)).1
        rw [e'] at h5
        exact hp.eq_of_length_le (by omega)
    · exact (key k (by omega) (by omega) (by rw [e]; exact hn) (by rw [e]; exact List.prefix_refl _)).2 hk
  · rintro ⟨⟨_, hn, hl⟩, hf⟩
    refine ⟨hn, fun k hk => ?_⟩
    by_cases hki : k = i
    · exact .inl (.inl (.inl (fun h => h hki)))
    by_cases hkn : l.getD k [] = []
    · exact .inl (.inl (.inr (fun h => h hkn)))
    cases hb : beginsW (l.getD i []) (l.getD k []) with
    | false => exact .inl (.inr rfl)
    | true =>
      have e := hl _ (hget k hk) hkn ((beginsW_iff _ _).1 hb)
      exact .inr ⟨by rw [e]; omega, fun h => hf k h e⟩
theorem rOf_in (l : List (List Int)) : ∀ n, n ≤ l.length → (rOf l n).Pairwise (fun a b => ltW a b = true) ∧ ∀ w, w ∈ rOf l n ↔ Least l w ∧ ∃ k, k < n ∧ l.getD k [] = w
  | 0, _ => ⟨by simp [rOf], by simp [rOf]⟩
  | n + 1, hn => by
    obtain ⟨h1, h2⟩ := rOf_in l n (by omega)
    have hk := keepW_iff l n (by omega)
    rw [rOf]
    cases hx : keepW l n with
    | true =>
      rw [hx] at hk
      obtain ⟨hl, hf⟩ := hk.1 rfl
      refine ⟨insW_sorted _ _ h1 (fun hm => ?_), fun w => ?_⟩
      · obtain ⟨_, k, hk1, hk2⟩ := (h2 _).1 hm
        exact hf k hk1 hk2
      · show w ∈ insW (l.getD n []) (rOf l n) ↔ _
        rw [insW_mem, h2]
        constructor
        · rintro (rfl | ⟨hw, k, hk1, hk2⟩)
          · exact ⟨hl, n, by omega, rfl⟩
          · exact ⟨hw, k, by omega, hk2⟩
        · rintro ⟨hw, k, hk1, hk2⟩
          by_cases e : k = n
          · subst e; exact .inl hk2.symm
          · exact .inr ⟨hw, k, by omega, hk2⟩
    | false =>
      refine ⟨h1, fun w => ?_⟩
      show w ∈ rOf l n ↔ _
      rw [h2]
      constructor
      · rintro ⟨hw, k, hk1, hk2⟩; exact ⟨hw, k, by omega, hk2⟩
      · rintro ⟨hw, k, hk1, hk2⟩
        by_cases e : k = n
        · subst e
          subst hk2
          -- it is least, but not kept: it stands further ahead
          have : ¬ ∀ j, j < k → l.getD j [] ≠ l.getD k [] := fun hf => by
            have := hk.2 ⟨hw, hf⟩
            rw [hx] at this; cases this
          obtain ⟨j, hj⟩ := Classical.not_forall.1 this
          obtain ⟨hj1, hj2⟩ := Classical.not_imp.1 hj
          exact ⟨hw, j, hj1, Classical.not_not.1 hj2⟩
        · exact ⟨hw, k, by omega, hk2⟩
theorem rOf_mask (l : List (List Int)) : IsMask l (rOf l l.length) := by
  obtain ⟨h1, h2⟩ := rOf_in l l.length (Nat.le_refl _)
  refine ⟨h1, fun w => (h2 w).trans ⟨fun h => h.1, fun h => ⟨h, ?_⟩⟩⟩
  obtain ⟨k, hk, e⟩ := List.getElem_of_mem h.1
  exact ⟨k, hk, by rw [List.getD_eq_getElem?_getD, List.getElem?_eq_getElem hk]; exact e⟩
/-- what the program's mask is: the document's -/
theorem sieve_rOf {l s : List (List Int)} (hp : ∀ w, w ∈ s ↔ w ∈ l) (hs : s.Pairwise (fun a b => ltW b a = false)) : sieveW [] s = rOf l l.length :=
  ((sieve_mask hs).perm hp).one (rOf_mask l)
end Go.Proofs.YtaefpjecalnbcaaGreat
