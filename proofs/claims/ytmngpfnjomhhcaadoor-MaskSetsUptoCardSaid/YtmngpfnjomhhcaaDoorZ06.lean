/- Slices of the call's own: append as an equation of the run, whatever the source (nil too); slices.Clone of bytes. Masks, in plain words: ways of numbers, their order, what a mask of ways is (the least ways that lie under no other one, in order), and that there is just one. Slices of ints: what they hold; slices.Equal, slices.Clone, slices.Compare of ints; darningref07.SameInts. No condition. Masks, in plain words: of a union, of a meet, of what lies under a number. -/
import Derived.Test.YtmngpfnjomhhcaaDoorZ01
import Derived.Maps.AppendAt
import Derived.OwnWalk
import Derived.OwnWalkIn
namespace Go.Proofs.YtmngpfnjomhhcaaDoor
open Go.RowKit
theorem run_append_of_nil {P : Program} (w : World) (base : Nat) (t ty e : TypeId) (i : TypeInfo) (size : Nat) (ht : P.underlying t = some (.slice e)) (hi : P.info? e = some i)
    (v : Value) (n : Nat) (xs : List Value) (hown : w.ownsRow base e size v n xs) (c : Nat) : (Builtin.append_ #[t, t] ty #[v, .slice none 0 c]).run P w = .ok v w := by
  rcases hown.2 with ⟨rfl, rfl⟩ | ⟨g, cap, cur, rfl, _, _, hnc, _⟩
  · simp [Builtin.append_, run_underlying ht, sizeOf, typeInfo, hi, Builtin.lenOf, Builtin.firstCells]
  · simp [Builtin.append_, run_underlying ht, sizeOf, typeInfo, hi, Builtin.lenOf, Builtin.firstCells, hnc, storeCells]
/-- append onto a row of the call's own, from whatever reads as cells -/
theorem seg_append {P : Program} (w : World) (base : Nat) (t ty e : TypeId) (z : Value) (size bytes : Nat) (ht : P.underlying t = some (.slice e)) (hinfo : (P.info? e).map (fun i => (i.zero, i.size, i.bytes)) = some (some z, size, bytes))
    (hzs : z.cells.size = size) (hsz : 0 < size) (v x : Value) (n m : Nat) (xs news : List Value) (hown : w.ownsRow base e size v n xs) (hx : Seg w x size m news) (h1 : ∀ u ∈ news, u.oneCell' = true)
    (h63 : n + m ≤ 140737488355328) (hbytes : (n + m) * bytes ≤ 140737488355328) (hbase : base ≤ w.heap.size) :
    ∃ v' w', (Builtin.append_ #[t, t] ty #[v, x]).run P w = .ok v' w' ∧ w'.ownsRow base e size v' (n + m) (xs ++ news) ∧ w.grownBy w' v.ownBlock ∧ (v'.ownBlock = v.ownBlock ∨ v'.ownBlock = some w.heap.size) := by
  obtain ⟨i, hi, hz, hsize, hby⟩ := info_parts hinfo
  obtain ⟨hl, hm, a, cap, rfl, hmc, hcap, hnil, hc⟩ := hx
  cases a with
  | none =>
    have hm0 : m = 0 := by have := hnil rfl; omega
    subst hm0
    have hn : news = [] := List.eq_nil_of_length_eq_zero (by simpa using hl)
    subst hn
    exact ⟨v, w, run_append_of_nil w base t ty e i size ht hi v n xs hown cap, by simpa using hown, World.grownBy.refl w _, .inl rfl⟩
  | some ad =>
    have hcells : ∀ j u, news[j]? = some u → w.cell? (ad.add j) = some u := fun j u hu => by
      obtain ⟨b, o, e', h⟩ := hc j u hu
      cases e'
      rw [addr_add]; exact h
    obtain ⟨v', w', hrun, h2, h3, -, h5⟩ := run_append_own_at (P := P) w base t ty e i z size bytes ht hi hz hsize hby hzs hsz v n xs hown ad m cap news hl hcells h1 (by unfold maxLen; omega) hbytes hbase
    exact ⟨v', w', hrun, h2, h3, h5⟩
/-- the operation, by its run -/
theorem wp_append_eq {P : Program} {w : World} {o : Oper} {a : Act} {K : Act → World → Prop} {Q : Exit → Act → World → Prop} (s x : Operand) (t : TypeId)
    (ho : o.op = .call { callee := .builtin .append, args := #[s, x], argTypes := #[t, t] }) (v xv : Value) (hs : a.eval s = v) (hx : a.eval x = xv) {v' : Value} {w' : World}
    (hr : (Builtin.append_ #[t, t] o.type #[v, xv]).run P w = .ok v' w') (h : K (a.put o.dst v') w') : o.wp P a w K Q := by
  unfold Oper.wp execOp
  simp only [ho, resolve, invoke, builtin, Sem.run_bind, Sem.run_pure, Result.andThen_ok, List.map_toArray, List.map_cons, List.map_nil, hs, hx, hr]
  exact h
theorem wpList_append_eq {P : Program} {w : World} {ops : Array Oper} {rest : List Oper} {o : Oper} {a : Act} {Q : Exit → Act → World → Prop} (hgd : o.guard = none) (s x : Operand) (t : TypeId)
    (ho : o.op = .call { callee := .builtin .append, args := #[s, x], argTypes := #[t, t] }) (v xv : Value) (hs : a.eval s = v) (hx : a.eval x = xv) {v' : Value} {w' : World}
    (hr : (Builtin.append_ #[t, t] o.type #[v, xv]).run P w = .ok v' w') (h : wpList P ops Q rest (a.put o.dst v') w') : wpList P ops Q (o :: rest) a w :=
  wpList_plain hgd fun _ hK => wp_append_eq s x t ho v xv hs hx hr (hK _ _ h)
/-- A []byte of the call's own (blocks from base on). -/
def Own (w : World) (base : Nat) (v : Value) (l : List UInt8) : Prop := w.ownsRow base 5 1 v l.length (l.map byteV)
theorem row_seg {w : World} {base size n : Nat} {e : TypeId} {v : Value} {xs : List Value} (h : w.ownsRow base e size v n xs) (hn : n ≤ 140737488355328) : Seg w v size n xs := by
  refine ⟨h.1, hn, ?_⟩
  rcases h.2 with ⟨rfl, rfl⟩ | ⟨g, cap, cur, rfl, hb, hg, hnc, hcm, hcs, ht⟩
  · exact ⟨none, 0, rfl, Nat.le_refl _, by omega, fun _ => rfl, fun j u hu => by
      have := h.1
      simp at this
      subst this
      simp at hu⟩
  · refine ⟨some ⟨g, 0, none⟩, cap, rfl, hnc, hcm, by simp, fun j u hu => ⟨g, 0, rfl, ?_⟩⟩
    have := h.cells (g := g) rfl j u hu
    rwa [addr_add] at this
theorem Own.bytes {w : World} {base : Nat} {v : Value} {l : List UInt8} (h : Own w base v l) (hn : l.length ≤ 140737488355328) : Bytes w v l := row_seg h hn
end Go.Proofs.YtmngpfnjomhhcaaDoor
namespace Go.Proofs.YtmngpfnjomhhcaaDoor
/-- does a way come first? -/
def ltW : List Int → List Int → Bool
  | [], [] => false
  | [], _ :: _ => true
  | _ :: _, [] => false
  | x :: a, y :: b => if x = y then ltW a b else decide (x < y)
theorem ltW_irrefl : ∀ a, ltW a a = false
  | [] => rfl
  | x :: a => by simp [ltW, ltW_irrefl a]
theorem ltW_trans : ∀ a b c, ltW a b = true → ltW b c = true → ltW a c = true
  | [], b, [] => by cases b <;> simp [ltW]
  | [], _, _ :: _ => by simp [ltW]
  | _ :: _, [], _ => by simp [ltW]
  | _ :: _, _ :: _, [] => by simp [ltW]
  | x :: a, y :: b, z :: c => by
    have ih := ltW_trans a b c
    simp only [ltW]
    by_cases h1 : x = y
    · subst h1
      by_cases h2 : x = z
      · subst h2; simpa using ih
      · simp only [if_true, if_neg h2, decide_eq_true_eq]; intro _ h; exact h
    · by_cases h2 : y = z
      · subst h2
        simp only [if_true, if_neg h1, decide_eq_true_eq]
        intro h _; exact h
      · by_cases h3 : x = z
        · subst h3
          simp only [if_neg h1, if_neg h2, decide_eq_true_eq]
          intro h h'; omega
        · simp only [if_neg h1, if_neg h2, if_neg h3, decide_eq_true_eq]
          intro h h'; omega
theorem ltW_total : ∀ a b, ltW a b = false → ltW b a = false → a = b
  | [], [] => fun _ _ => rfl
  | [], _ :: _ => by simp [ltW]
  | _ :: _, [] => by simp [ltW]
  | x :: a, y :: b => by
    have ih := ltW_total a b
    simp only [ltW]
    by_cases h1 : x = y
    · subst h1; simp only [if_true]; intro h h'; rw [ih h h']
    · simp only [if_neg h1, if_neg (fun e : y = x => h1 e.symm), decide_eq_false_iff_not]
      intro h h'; omega
/-- begins a way with another one? -/
def beginsW (way pre : List Int) : Bool := decide (pre.length ≤ way.length) && decide (way.take pre.length = pre)
theorem beginsW_iff (way pre : List Int) : beginsW way pre = true ↔ pre <+: way := by
  unfold beginsW
  rw [List.prefix_iff_eq_take]
  simp only [Bool.and_eq_true, decide_eq_true_eq]
  constructor
  · rintro ⟨_, h⟩; exact h.symm
  · intro h
    refine ⟨?_, h.symm⟩
    have h2 := congrArg List.length h
    simp at h2
    omega
/-- what lies between a way and one under it lies under it -/
theorem prefix_between : ∀ u v w : List Int, u <+: w → ltW v u = false → ltW w v = false → u <+: v
  | [], v, _, _, _, _ => List.nil_prefix
  | _ :: _, _, [], h, _, _ => by simp at h
  | x :: u, [], z :: w, h, h1, _ => by simp [ltW] at h1
  | x :: u, y :: v, z :: w, h, h1, h2 => by
    rw [List.cons_prefix_cons] at h
    obtain ⟨rfl, h⟩ := h
    by_cases e : x = y
    · subst e
      simp only [ltW, if_true] at h1 h2
      rw [List.cons_prefix_cons]
      exact ⟨rfl, prefix_between u v w h h1 h2⟩
    · simp only [ltW, if_neg e, if_neg (fun e' : y = x => e e'.symm), decide_eq_false_iff_not] at h1 h2
      omega
theorem ltW_prefix : ∀ u w : List Int, u <+: w → ltW w u = false
  | [], [], _ => rfl
  | [], _ :: _, _ => rfl
  | _ :: _, [], h => by simp at h
  | x :: u, z :: w, h => by
    rw [List.cons_prefix_cons] at h
    obtain ⟨rfl, h⟩ := h
    simpa [ltW] using ltW_prefix u w h
/-- of ways, the ones that lie under no other one -/
def Least (l : List (List Int)) (w : List Int) : Prop := w ∈ l ∧ w ≠ [] ∧ ∀ u ∈ l, u ≠ [] → u <+: w → u = w
/-- a mask of ways -/
def IsMask (l o : List (List Int)) : Prop := o.Pairwise (fun a b => ltW a b = true) ∧ ∀ w, w ∈ o ↔ Least l w
theorem sorted_same : ∀ {a b : List (List Int)}, a.Pairwise (fun a b => ltW a b = true) → b.Pairwise (fun a b => ltW a b = true) → (∀ w, w ∈ a ↔ w ∈ b) → a = b
  | [], [], _, _, _ => rfl
  | [], y :: b, _, _, h => absurd ((h y).2 (by simp)) (by simp)
  | x :: a, [], _, _, h => absurd ((h x).1 (by simp)) (by simp)
  | x :: a, y :: b, ha, hb, h => by
    rw [List.pairwise_cons] at ha hb
    have hxy : x = y := by
      have h1 := (h x).1 (by simp)
      have h2 := (h y).2 (by simp)
      rcases List.mem_cons.1 h1 with e | h1
      · exact e
      rcases List.mem_cons.1 h2 with e | h2
      · exact e.symm
      have h3 := ltW_trans _ _ _ (ha.1 y h2) (hb.1 x h1)
      rw [ltW_irrefl] at h3
      cases h3
    subst hxy
    have hab : ∀ w, w ∈ a ↔ w ∈ b := fun w => by
      constructor
      · intro hw
        rcases List.mem_cons.1 ((h w).1 (by simp [hw])) with e | hb'
        · subst e
          have := ha.1 w hw
          rw [ltW_irrefl] at this; cases this
        · exact hb'
      · intro hw
        rcases List.mem_cons.1 ((h w).2 (by simp [hw])) with e | hb'
        · subst e
          have := hb.1 w hw
          rw [ltW_irrefl] at this; cases this
        · exact hb'
    rw [sorted_same ha.2 hb.2 hab]
theorem IsMask.one {l a b : List (List Int)} (ha : IsMask l a) (hb : IsMask l b) : a = b :=
  sorted_same ha.1 hb.1 fun w => (ha.2 w).trans (hb.2 w).symm
/-- the program's way: over the ways in order, each that doesn't lie under the last one taken -/
def sieveW (o : List (List Int)) : List (List Int) → List (List Int)
  | [] => o
  | w :: r => sieveW (if w = [] ∨ (∃ u, o.getLast? = some u ∧ u <+: w) then o else o ++ [w]) r
/-- what holds of what is taken (o) of the ways gone through (l) -/
def Taken (l o : List (List Int)) : Prop :=
  o.Pairwise (fun a b => ltW a b = true) ∧ (∀ w ∈ o, w ∈ l ∧ w ≠ []) ∧ (∀ w ∈ l, w ≠ [] → ∃ u ∈ o, u <+: w) ∧ ∀ u ∈ o, ∀ v ∈ o, u <+: v → u = v
theorem Taken.mask {l o : List (List Int)} (h : Taken l o) : IsMask l o := by
  obtain ⟨h1, h2, h3, h4⟩ := h
  refine ⟨h1, fun w => ⟨fun hw => ⟨(h2 w hw).1, (h2 w hw).2, fun u hu hn hp => ?_⟩, fun ⟨hw, hn, hl⟩ => ?_⟩⟩
  · obtain ⟨v, hv, hvu⟩ := h3 u hu hn
    have e := h4 v hv w hw (hvu.trans hp)
    subst e
    exact hp.eq_of_length_le hvu.length_le
  · obtain ⟨v, hv, hvw⟩ := h3 w hw hn
    have e := hl v (h2 v hv).1 (h2 v hv).2 hvw
    subst e
    exact hv
theorem last_most {o : List (List Int)} (h : o.Pairwise (fun a b => ltW a b = true)) {u v : List Int} (hu : u ∈ o) (hv : o.getLast? = some v) : u = v ∨ ltW u v = true := by
  obtain ⟨r, rfl⟩ : ∃ r, o = r ++ [v] := by
    rw [List.getLast?_eq_some_iff] at hv
    exact hv
  rcases List.mem_append.1 hu with h1 | h1
  · exact .inr ((List.pairwise_append.1 h).2.2 u h1 v (by simp))
  · exact .inl (by simpa using h1)
theorem sieve_taken : ∀ (r l o : List (List Int)), Taken l o → r.Pairwise (fun a b => ltW b a = false) → (∀ w ∈ l, ∀ v ∈ r, ltW v w = false) → Taken (l ++ r) (sieveW o r)
  | [], l, o, h, _, _ => by simpa [sieveW] using h
  | w :: r, l, o, h, hr, hl => by
    have hr' := List.pairwise_cons.1 hr
    rw [sieveW, show l ++ w :: r = (l ++ [w]) ++ r by simp]
    refine sieve_taken r (l ++ [w]) _ ?_ hr'.2 ?_
    · obtain ⟨h1, h2, h3, h4⟩ := h
      split
      · rename_i hc
        refine ⟨h1, fun v hv => ⟨by simp [(h2 v hv).1], (h2 v hv).2⟩, fun v hv hn => ?_, h4⟩
        rcases List.mem_append.1 hv with hv | hv
        · exact h3 v hv hn
        · simp at hv
          subst hv
          rcases hc with e | ⟨u, hu, hp⟩
          · exact absurd e hn
          · exact ⟨u, List.mem_of_getLast? hu, hp⟩
      · rename_i hc
        simp only [not_or, not_exists, not_and] at hc
        -- none that is taken begins w
        have hno : ∀ u ∈ o, ¬ u <+: w := by
          intro u hu hp
          have hne : o ≠ [] := fun e => by subst e; simp at hu
          have hg : o.getLast? = some (o.getLast hne) := List.getLast?_eq_some_getLast hne
          have hgm := List.getLast_mem hne
          rcases last_most h1 hu hg with e | hlt
          · exact hc.2 _ hg (e ▸ hp)
          · have hp2 : u <+: o.getLast hne := by
              refine prefix_between _ _ _ hp ?_ (hl _ (h2 _ hgm).1 w (by simp))
              cases hx : ltW (o.getLast hne) u with
              | false => rfl
              | true =>
                have := ltW_trans _ _ _ hlt hx
                rw [ltW_irrefl] at this; cases this
            have e := h4 u hu _ hgm hp2
            rw [← e, ltW_irrefl] at hlt
            cases hlt
        have hnb : ∀ u ∈ o, ltW u w = true := by
          intro u hu
          cases hx : ltW u w with
          | true => rfl
          | false =>
            have e := ltW_total u w hx (hl u (h2 u hu).1 w (by simp))
            exact absurd (e ▸ List.prefix_refl u) (hno u hu)
        refine ⟨?_, ?_, ?_, ?_⟩
        · rw [List.pairwise_append]
          exact ⟨h1, by simp, fun u hu v hv => by simp at hv; subst hv; exact hnb u hu⟩
        · intro v hv
          rcases List.mem_append.1 hv with hv | hv
          · exact ⟨by simp [(h2 v hv).1], (h2 v hv).2⟩
          · simp at hv; subst hv; exact ⟨by simp, hc.1⟩
        · intro v hv hn
          rcases List.mem_append.1 hv with hv | hv
          · obtain ⟨u, hu, hp⟩ := h3 v hv hn
            exact ⟨u, by simp [hu], hp⟩
          · simp at hv; subst hv; exact ⟨v, by simp, List.prefix_refl v⟩
        · intro u hu0 v hv0 hp
          rcases List.mem_append.1 hu0 with hu | hu <;> rcases List.mem_append.1 hv0 with hv | hv
          · exact h4 u hu v hv hp
          · have e : v = w := by simpa using hv
            exact absurd (e ▸ hp) (hno u hu)
          · have e : u = w := by simpa using hu
            have h5 := hnb v hv
            rw [ltW_prefix w v (e ▸ hp)] at h5
            cases h5
          · simp at hu hv; rw [hu, hv]
    · intro u hu v hv
      rcases List.mem_append.1 hu with hu | hu
      · exact hl u hu v (by simp [hv])
      · simp at hu; subst hu; exact hr'.1 v hv
/-- the mask of sorted ways -/
theorem sieve_mask {l : List (List Int)} (h : l.Pairwise (fun a b => ltW b a = false)) : IsMask l (sieveW [] l) := by
  have := sieve_taken l [] [] ⟨by simp, by simp, by simp, by simp⟩ h (by simp)
  simpa using this.mask
theorem IsMask.perm {l l' o : List (List Int)} (hp : ∀ w, w ∈ l ↔ w ∈ l') (h : IsMask l o) : IsMask l' o := by
  refine ⟨h.1, fun w => (h.2 w).trans ?_⟩
  unfold Least
  constructor
  · rintro ⟨h1, h2, h3⟩; exact ⟨(hp w).1 h1, h2, fun u hu => h3 u ((hp u).2 hu)⟩
  · rintro ⟨h1, h2, h3⟩; exact ⟨(hp w).2 h1, h2, fun u hu => h3 u ((hp u).1 hu)⟩
/-- the document's way: into its place -/
def insW (w : List Int) : List (List Int) → List (List Int)
  | [] => [w]
  | u :: r => if ltW u w then u :: insW w r else w :: u :: r
theorem insW_mem (w v : List Int) : ∀ o, v ∈ insW w o ↔ v = w ∨ v ∈ o
  | [] => by simp [insW]
  | u :: r => by
    rw [insW]
    split
    · rw [List.mem_cons, insW_mem w v r, List.mem_cons]
      constructor
      · rintro (h | h | h) <;> simp [h]
      · rintro (h | h | h) <;> simp [h]
    · simp
theorem insW_sorted (w : List Int) : ∀ o : List (List Int), o.Pairwise (fun a b => ltW a b = true) → w ∉ o → (insW w o).Pairwise (fun a b => ltW a b = true)
  | [], _, _ => by simp [insW]
  | u :: r, h, hn => by
    have h' := List.pairwise_cons.1 h
    rw [insW]
    split
    · rename_i hlt
      rw [List.pairwise_cons]
      refine ⟨fun v hv => ?_, insW_sorted w r h'.2 (fun hx => hn (by simp [hx]))⟩
      rcases (insW_mem w v r).1 hv with e | hv
      · rw [e]; exact hlt
      · exact h'.1 v hv
    · rename_i hlt
      have hwu : ltW w u = true := by
        cases hx : ltW w u with
        | true => rfl
        | false => exact absurd (by simp [ltW_total w u hx (by simpa using hlt)]) hn
      rw [List.pairwise_cons]
      refine ⟨fun v hv => ?_, h⟩
      rcases List.mem_cons.1 hv with e | hv
      · rw [e]; exact hwu
      · exact ltW_trans _ _ _ hwu (h'.1 v hv)
/-- is the i-th way one that is kept? -/
def keepW (l : List (List Int)) (i : Nat) : Bool :=
  decide ((l.getD i []) ≠ []) && (List.range l.length).all fun k => !(decide (k ≠ i) && decide ((l.getD k []) ≠ []) && beginsW (l.getD i []) (l.getD k []) && (decide ((l.getD k []).length < (l.getD i []).length) || decide (k < i)))
/-- what the document's mask is behind n ways -/
def rOf (l : List (List Int)) : Nat → List (List Int)
  | 0 => []
  | n + 1 => if keepW l n then insW (l.getD n []) (rOf l n) else rOf l n
theorem keepW_iff (l : List (List Int)) (i : Nat) (hi : i < l.length) : keepW l i = true ↔ Least l (l.getD i []) ∧ ∀ k, k < i → l.getD k [] ≠ l.getD i [] := by
  have hget : ∀ k, k < l.length → l.getD k [] ∈ l := fun k hk => by
    rw [List.getD_eq_getElem?_getD, List.getElem?_eq_getElem hk]; exact List.getElem_mem hk
  unfold keepW Least
  simp only [Bool.and_eq_true, decide_eq_true_eq, List.all_eq_true, List.mem_range, Bool.not_eq_true', Bool.and_eq_false_iff, decide_eq_false_iff_not, Bool.or_eq_false_iff]
  constructor
  · rintro ⟨hn, h⟩
    have key : ∀ k, k < l.length → k ≠ i → l.getD k [] ≠ [] → l.getD k [] <+: l.getD i [] → ¬ ((l.getD k []).length < (l.getD i []).length) ∧ ¬ k < i := by
      intro k hk hki hkn hp
      rcases h k hk with ((h1 | h1) | h1) | h1
      · exact absurd hki h1
      · exact absurd hkn h1
      · rw [(beginsW_iff _ _).2 hp] at h1; cases h1
      · exact h1
    refine ⟨⟨hget i hi, hn, fun u hu hun hp => ?_⟩, fun k hk e => ?_⟩
    · obtain ⟨k, hk, e⟩ := List.getElem_of_mem hu
      have e' : l.getD k [] = u := by rw [List.getD_eq_getElem?_getD, List.getElem?_eq_getElem hk]; exact e
      by_cases hki : k = i
      · subst hki; exact e'.symm
      · have h5 := (key k hk hki (by rw [e']; exact hun) (by rw [e']; exact hp)).1
        rw [e'] at h5
        exact hp.eq_of_length_le (by omega)
    · exact (key k (by omega) (by omega) (by rw [e]; exact hn) (by rw [e]; exact List.prefix_refl _)).2 hk
  · rintro ⟨⟨_, hn, hl⟩, hf⟩
    refine ⟨hn, fun k hk => ?_⟩
    by_cases hki : k = i
    · exact .inl (.inl (.inl (fun h => h hki)))
    by_cases hkn : l.getD k [] = []
    · exact .inl (.inl (.inr (fun h => h hkn)))
    cases hb : beginsW (l.getD i []) (l.getD k []) with
    | false => exact .inl (.inr rfl)
    | true =>
      have e := hl _ (hget k hk) hkn ((beginsW_iff _ _).1 hb)
      exact .inr ⟨by rw [e]; omega, fun h => hf k h e⟩
theorem rOf_in (l : List (List Int)) : ∀ n, n ≤ l.length → (rOf l n).Pairwise (fun a b => ltW a b = true) ∧ ∀ w, w ∈ rOf l n ↔ Least l w ∧ ∃ k, k < n ∧ l.getD k [] = w
  | 0, _ => ⟨by simp [rOf], by simp [rOf]⟩
  | n + 1, hn => by
    obtain ⟨h1, h2⟩ := rOf_in l n (by omega)
    have hk := keepW_iff l n (by omega)
    rw [rOf]
    cases hx : keepW l n with
    | true =>
      rw [hx] at hk
      obtain ⟨hl, hf⟩ := hk.1 rfl
      refine ⟨insW_sorted _ _ h1 (fun hm => ?_), fun w => ?_⟩
      · obtain ⟨_, k, hk1, hk2⟩ := (h2 _).1 hm
        exact hf k hk1 hk2
      · show w ∈ insW (l.getD n []) (rOf l n) ↔ _
        rw [insW_mem, h2]
        constructor
        · rintro (rfl | ⟨hw, k, hk1, hk2⟩)
          · exact ⟨hl, n, by omega, rfl⟩
          · exact ⟨hw, k, by omega, hk2⟩
        · rintro ⟨hw, k, hk1, hk2⟩
          by_cases e : k = n
          · subst e; exact .inl hk2.symm
          · exact .inr ⟨hw, k, by omega, hk2⟩
    | false =>
      refine ⟨h1, fun w => ?_⟩
      show w ∈ rOf l n ↔ _
      rw [h2]
      constructor
      · rintro ⟨hw, k, hk1, hk2⟩; exact ⟨hw, k, by omega, hk2⟩
      · rintro ⟨hw, k, hk1, hk2⟩
        by_cases e : k = n
        · subst e
          subst hk2
          -- it is least, but not kept: it stands further ahead
          have : ¬ ∀ j, j < k → l.getD j [] ≠ l.getD k [] := fun hf => by
            have := hk.2 ⟨hw, hf⟩
            rw [hx] at this; cases this
          obtain ⟨j, hj⟩ := Classical.not_forall.1 this
          obtain ⟨hj1, hj2⟩ := Classical.not_imp.1 hj
          exact ⟨hw, j, hj1, Classical.not_not.1 hj2⟩
        · exact ⟨hw, k, by omega, hk2⟩
theorem rOf_mask (l : List (List Int)) : IsMask l (rOf l l.length) := by
  obtain ⟨h1, h2⟩ := rOf_in l l.length (Nat.le_refl _)
  refine ⟨h1, fun w => (h2 w).trans ⟨fun h => h.1, fun h => ⟨h, ?_⟩⟩⟩
  obtain ⟨k, hk, e⟩ := List.getElem_of_mem h.1
  exact ⟨k, hk, by rw [List.getD_eq_getElem?_getD, List.getElem?_eq_getElem hk]; exact e⟩
/-- what the program's mask is: the document's -/
theorem sieve_rOf {l s : List (List Int)} (hp : ∀ w, w ∈ s ↔ w ∈ l) (hs : s.Pairwise (fun a b => ltW b a = false)) : sieveW [] s = rOf l l.length :=
  ((sieve_mask hs).perm hp).one (rOf_mask l)
/-- is a way one of ways, or under one? -/
def hasW (l : List (List Int)) (w : List Int) : Bool := l.any fun u => decide (0 < u.length) && beginsW w u
theorem hasW_iff (l : List (List Int)) (w : List Int) : hasW l w = true ↔ ∃ u ∈ l, u ≠ [] ∧ u <+: w := by
  unfold hasW
  simp only [List.any_eq_true, Bool.and_eq_true, decide_eq_true_eq, beginsW_iff]
  constructor
  · rintro ⟨u, h1, h2, h3⟩; exact ⟨u, h1, fun e => by subst e; simp at h2, h3⟩
  · rintro ⟨u, h1, h2, h3⟩; exact ⟨u, h1, List.length_pos_iff.2 h2, h3⟩
/-- each way has a least one that begins it -/
theorem least_of (l : List (List Int)) : ∀ (n : Nat) (u : List Int), u.length ≤ n → u ∈ l → u ≠ [] → ∃ v, Least l v ∧ v <+: u
  | 0, u, h, _, hn => absurd (List.length_eq_zero_iff.1 (by omega)) hn
  | n + 1, u, h, hu, hn => by
    by_cases hx : ∃ v ∈ l, v ≠ [] ∧ v <+: u ∧ v ≠ u
    · obtain ⟨v, hv, hvn, hp, hne⟩ := hx
      have hlt : v.length < u.length := by
        have := hp.length_le
        rcases Nat.lt_or_ge v.length u.length with h | h
        · exact h
        · exact absurd (hp.eq_of_length_le h) hne
      obtain ⟨t, ht, htp⟩ := least_of l n v (by omega) hv hvn
      exact ⟨t, ht, htp.trans hp⟩
    · refine ⟨u, ⟨hu, hn, fun v hv hvn hp => ?_⟩, List.prefix_refl u⟩
      exact Classical.byContradiction fun hne => hx ⟨v, hv, hvn, hp, hne⟩
theorem IsMask.has {l o : List (List Int)} (h : IsMask l o) (w : List Int) : hasW o w = hasW l w := by
  rw [Bool.eq_iff_iff, hasW_iff, hasW_iff]
  constructor
  · rintro ⟨u, hu, hn, hp⟩; exact ⟨u, ((h.2 u).1 hu).1, hn, hp⟩
  · rintro ⟨u, hu, hn, hp⟩
    obtain ⟨v, hv, hvp⟩ := least_of l u.length u (Nat.le_refl _) hu hn
    exact ⟨v, (h.2 v).2 hv, hv.2.1, hvp.trans hp⟩
/-- a mask of a mask is itself -/
theorem IsMask.self {l o : List (List Int)} (h : IsMask l o) : IsMask o o := by
  refine ⟨h.1, fun w => ⟨fun hw => ⟨hw, ((h.2 w).1 hw).2.1, fun u hu hn hp => ((h.2 w).1 hw).2.2 u ((h.2 u).1 hu).1 hn hp⟩, fun hw => hw.1⟩⟩
end Go.Proofs.YtmngpfnjomhhcaaDoor
namespace Go.Proofs.YtmngpfnjomhhcaaDoor
open Go.RowKit
def intV (x : Int) : Value := .int .i64 x
def i64ok (x : Int) : Prop := -9223372036854775808 ≤ x ∧ x ≤ 9223372036854775807
/-- A []int. -/
def IntsAt (w : World) (v : Value) (l : List Int) : Prop := Seg w v 1 l.length (l.map intV) ∧ ∀ x ∈ l, i64ok x
theorem IntsAt.keep {w w' : World} {v : Value} {l : List Int} (h : IntsAt w v l) (hk : ∀ p u, w.cell? p = some u → w'.cell? p = some u) : IntsAt w' v l := ⟨h.1.keep hk, h.2⟩
theorem IntsAt.below {w w' : World} {v : Value} {l : List Int} (h : IntsAt w v l) (hb : Below w.heap.size w w') : IntsAt w' v l := h.keep (below_keeps hb)
theorem IntsAt.open {w : World} {v : Value} {l : List Int} (h : IntsAt w v l) :
    l.length ≤ 140737488355328 ∧ ∃ a cap, v = .slice a l.length cap ∧ (a = none → cap = 0) ∧ ∀ k x, l[k]? = some x → i64ok x ∧ ∃ b o, a = some ⟨b, o, none⟩ ∧ w.cell? ⟨b, o + k, none⟩ = some (.int .i64 x) := by
  obtain ⟨⟨_, h2, a, cap, hv, h3, h4, h5, h6⟩, hl⟩ := h
  refine ⟨h2, a, cap, hv, h5, fun k t hk => ⟨hl _ (List.mem_of_getElem? hk), h6 k _ ?_⟩⟩
  simp [hk, intV]
theorem size_int (w : World) : (sizeOf 3).run Tryd.prog w = .ok 1 w := by kernel_rfl
theorem under_ints : Tryd.prog.underlying 23 = some (.slice 3) := Tryd.underlying23
theorem info_int : (Tryd.prog.info? 3).map (fun i => (i.zero, i.size, i.bytes)) = some (some (.int .i64 0), 1, 8) := by kernel_rfl
/-- A []int of the call's own. -/
def IntsOwn (w : World) (base : Nat) (v : Value) (l : List Int) : Prop := w.ownsRow base 3 1 v l.length (l.map intV)
theorem IntsOwn.ints {w : World} {base : Nat} {v : Value} {l : List Int} (h : IntsOwn w base v l) (hn : l.length ≤ 140737488355328) (hl : ∀ x ∈ l, i64ok x) : IntsAt w v l := ⟨row_seg h hn, hl⟩
theorem IntsOwn.later {w w' : World} {base : Nat} {v : Value} {l : List Int} (h : IntsOwn w base v l) (hb : Below w.heap.size w w') : IntsOwn w' base v l :=
  World.ownsRow.kept (row := none) h (below_grown hb none) (by cases hv : v.ownBlock with | none => exact .inl rfl | some k => exact .inr (by simp))
theorem IntsOwn.form {w : World} {base : Nat} {v : Value} {l : List Int} (h : IntsOwn w base v l) : ∃ a c, v = .slice a l.length c := by
  rcases h.2 with ⟨h1, h2⟩ | ⟨g, cap, cur, hv, -⟩
  · exact ⟨none, 0, by rw [h1, h2]⟩
  · exact ⟨_, _, hv⟩
theorem ints_append {w : World} {base : Nat} {v x : Value} {l m : List Int} (h : IntsOwn w base v l) (hx : IntsAt w x m) (hlen : l.length + m.length ≤ 17592186044416) (hbase : base ≤ w.heap.size) :
    ∃ v' w', (Builtin.append_ #[23, 23] 23 #[v, x]).run Tryd.prog w = .ok v' w' ∧ IntsOwn w' base v' (l ++ m) ∧ w.grownBy w' v.ownBlock ∧ (v'.ownBlock = v.ownBlock ∨ v'.ownBlock = some w.heap.size) := by
  obtain ⟨v', w', hr, hO, hg, hat⟩ := seg_append (P := Tryd.prog) w base 23 23 3 (.int .i64 0) 1 8 under_ints info_int rfl (by decide) v x l.length m.length _ _ h hx.1
    (by intro u hu; obtain ⟨c, -, rfl⟩ := List.mem_map.1 hu; rfl) (by omega) (by omega) hbase
  refine ⟨v', w', hr, ?_, hg, hat⟩
  unfold IntsOwn
  rw [List.length_append, List.map_append]
  exact hO
set_option maxRecDepth 100000 in
set_option maxHeartbeats 4000000 in
theorem clone_ints {w : World} {v : Value} {l : List Int} (h : IntsAt w v l) (hl : l.length ≤ 17592186044416) :
    Calls Tryd.prog 17 #[v] w fun e w' => ∃ v', e = .returned v' ∧ IntsOwn w' w.heap.size v' l ∧ Below w.heap.size w w' := by
  have H := hid h
  obtain ⟨hlen, a, cap, rfl, hnil, -⟩ := h.open
  obtain ⟨n, HN⟩ : ∃ n, Hid (n = l.length) := ⟨_, rfl⟩
  rw [← HN.out] at hlen H hl ⊢
  clear h
  cases a with
  | none =>
    have := hnil rfl
    have HE : Hid (l = []) := List.eq_nil_of_length_eq_zero (by have := HN.out; obtain ⟨-, -, a', c', e, h1, -⟩ := H.out.1; cases e; omega)
    clear hlen hl
    go_enter Tryd.func17, Tryd.ntmps17
    have eqn := fun W a n c n' c' => Lib.run_eql_slice_nil (P := Tryd.prog) W 23 _ a n c n' c' under_ints
    go_wp2
    go_ret
    refine ⟨_, rfl, ?_, Below.refl _ _⟩
    rw [HE.out]
    exact World.ownsRow_nil _ _ _ _
  | some ad =>
    have hO : IntsOwn (w.alloc (.cells #[] 3)) w.heap.size (.slice (some ⟨w.heap.size, 0, none⟩) 0 0) [] := by
      exact World.ownsRow_made (base := w.heap.size) (e := 3) (size := 1) w #[] 0 (Nat.le_refl _) (by unfold maxLen; omega) rfl
    obtain ⟨v', w', hr, hO', hg, -⟩ := ints_append hO (H.out.below ((Below.refl _ _).alloc (Nat.le_refl _) _)) (by rw [← HN.out]; simp; omega) (by simp)
    have hg' : Below w.heap.size w w' := ((Below.refl w.heap.size w).alloc (Nat.le_refl _) (.cells #[] 3)).grown hg (by simp) (by intro q e; simp [Value.ownBlock] at e; omega)
    have HO := hid hO'
    have HG := hid hg'
    clear hO' hg' hg hO
    go_enter Tryd.func17, Tryd.ntmps17
    have eqn := fun W a n c n' c' => Lib.run_eql_slice_nil (P := Tryd.prog) W 23 _ a n c n' c' under_ints
    go_wp2_with (at_builtin; refine wpList_append_eq rfl _ _ _ rfl _ _ rfl rfl hr ?_)
    go_ret
    exact ⟨_, rfl, HO.out, HG.out⟩
/-! Two lists, from a place on -/
theorem drop_at {α : Type} {l : List α} {i : Nat} {x : α} (h : l[i]? = some x) : l.drop i = x :: l.drop (i + 1) := by
  obtain ⟨hl, e⟩ := List.getElem?_eq_some_iff.1 h
  rw [List.drop_eq_getElem_cons hl, e]
theorem int_get {l : List Int} {n i : Nat} (hn : n = l.length) (h : i < n) : ∃ x, l[i]? = some x := ⟨_, List.getElem?_eq_getElem (by omega)⟩
/-- the walk of two slices side by side, while they are the same: Equal, SameInts -/
theorem same_at {l m : List Int} {i : Nat} {x y : Int} (hx : l[i]? = some x) (hy : m[i]? = some y) : (l.drop i = m.drop i) ↔ x = y ∧ l.drop (i + 1) = m.drop (i + 1) := by
  rw [drop_at hx, drop_at hy, List.cons.injEq]
set_option maxRecDepth 100000 in
set_option maxHeartbeats 4000000 in
theorem ref07_SameInts {w : World} {v u : Value} {l m : List Int} (h : IntsAt w v l) (hu : IntsAt w u m) :
    Calls Tryd.prog 12 #[v, u] w fun e w' => e = .returned (.bool (decide (l = m))) ∧ Drew w w' := by
  obtain ⟨hl, a, c, rfl, -, hat⟩ := h.open
  obtain ⟨hm, a2, c2, rfl, -, hbt⟩ := hu.open
  obtain ⟨n, HN⟩ : ∃ n, Hid (n = l.length) := ⟨_, rfl⟩
  obtain ⟨n2, HN2⟩ : ∃ n, Hid (n = m.length) := ⟨_, rfl⟩
  rw [← HN.out] at hl ⊢
  rw [← HN2.out] at hm ⊢
  obtain ⟨z, HZ⟩ : ∃ z, Hid (z = decide (l = m)) := ⟨_, rfl⟩
  rw [← HZ.out]
  have HAT := hid hat
  have HBT := hid hbt
  clear hat hbt h hu
  by_cases hnn : n = n2
  · subst hnn
    go_enter Tryd.func12, Tryd.ntmps12
    go_wp2_with fail
    go_loopw [5] (fun v5 wr => ∃ i : Nat, v5 = .int .i64 i ∧ i ≤ n ∧ Hid (z = decide (l.drop i = m.drop i)) ∧ (∃ k, wr = w.drewN k)) (fun v5 _ => n - (intOf v5).toNat)
    case atStart => exact ⟨0, rfl, by omega, by rw [Hid, HZ.out]; simp, 0, rfl⟩
    case round =>
      obtain ⟨i, rfl, hi, HI, kw, rfl⟩ := hrel
      by_cases h1 : i < n
      · obtain ⟨x, hxi⟩ := int_get HN.out h1
        obtain ⟨y, hyi⟩ := int_get HN2.out h1
        obtain ⟨hx64, b, o, ha, g0⟩ := HAT.out i x hxi
        obtain ⟨hy64, b2, o2, ha2, g2⟩ := HBT.out i y hyi
        have HC := hid (same_at hxi hyi)
        have hix := index_run1 Tryd.underlying23 size_int ha i h1 (cap := c)
        have hix2 := index_run1 Tryd.underlying23 size_int ha2 i h1 (cap := c2)
        clear hxi hyi ha ha2
        by_cases hxy : x = y
        · have HC1 : Hid (z = decide (l.drop (i + 1) = m.drop (i + 1))) := by
            rw [Hid, HI.out, decide_eq_decide, HC.out]; simp [hxy]
          have hb1 : (x != y) = false := by simpa using hxy
          have hb2 : (x == y) = true := by simpa using hxy
          have HXY := hid hxy
          clear hxy
          go_wp2_with fail
          go_quiet (fail)
          go_wp2_with fail
          go_roundw
          case rel => exact ⟨i + 1, by go_num, h1, HC1.out, _, rfl⟩
          case measure => simp [intOf]; omega
        · have HC1 : Hid (z = false) := by
            rw [Hid, HI.out, decide_eq_false_iff_not, HC.out]; simp [hxy]
          have hb1 : (x != y) = true := by simpa using hxy
          have hb2 : (x == y) = false := by simpa using hxy
          have HXY := hid hxy
          clear hxy
          go_wp2_with fail
          go_quiet (fail)
          go_wp2_with fail
          go_ret
          exact ⟨by rw [HC1.out]; first | done | rfl, _, World.drewN_drewN _ _ _⟩
      · obtain rfl : i = n := by omega
        have HC1 : Hid (z = true) := by
          rw [Hid, HI.out, List.drop_eq_nil_of_le (by rw [← HN.out]; omega), List.drop_eq_nil_of_le (by rw [← HN2.out]; omega)]; simp
        go_wp2_with fail
        go_ret
        exact ⟨by rw [HC1.out]; first | done | rfl, _, rfl⟩
  · have HC1 : Hid (z = false) := by
      rw [Hid, HZ.out, decide_eq_false_iff_not]; rintro rfl; exact hnn (by rw [HN.out, HN2.out])
    have e1 : decide ((n : Int) = n2) = false := decide_eq_false (by omega)
    have e2 : ((n : Int) == n2) = false := by simp; omega
    have e3 : (n == n2) = false := by simp; omega
    clear hnn
    go_enter Tryd.func12, Tryd.ntmps12
    go_wp2_with fail
    go_ret
    exact ⟨by rw [HC1.out]; first | done | rfl, 0, rfl⟩
set_option maxRecDepth 100000 in
set_option maxHeartbeats 4000000 in
theorem equal_ints {w : World} {v u : Value} {l m : List Int} (h : IntsAt w v l) (hu : IntsAt w u m) :
    Calls Tryd.prog 26 #[v, u] w fun e w' => e = .returned (.bool (decide (l = m))) ∧ Drew w w' := by
  obtain ⟨hl, a, c, rfl, -, hat⟩ := h.open
  obtain ⟨hm, a2, c2, rfl, -, hbt⟩ := hu.open
  obtain ⟨n, HN⟩ : ∃ n, Hid (n = l.length) := ⟨_, rfl⟩
  obtain ⟨n2, HN2⟩ : ∃ n, Hid (n = m.length) := ⟨_, rfl⟩
  rw [← HN.out] at hl ⊢
  rw [← HN2.out] at hm ⊢
  obtain ⟨z, HZ⟩ : ∃ z, Hid (z = decide (l = m)) := ⟨_, rfl⟩
  rw [← HZ.out]
  have HAT := hid hat
  have HBT := hid hbt
  clear hat hbt h hu
  by_cases hnn : n = n2
  · subst hnn
    go_enter Tryd.func26, Tryd.ntmps26
    go_wp2_with fail
    go_loopw [13] (fun v5 wr => ∃ i : Nat, v5 = .int .i64 i ∧ i ≤ n ∧ Hid (z = decide (l.drop i = m.drop i)) ∧ (∃ k, wr = w.drewN k)) (fun v5 _ => n - (intOf v5).toNat)
    case atStart => exact ⟨0, rfl, by omega, by rw [Hid, HZ.out]; simp, 0, rfl⟩
    case round =>
      obtain ⟨i, rfl, hi, HI, kw, rfl⟩ := hrel
      by_cases h1 : i < n
      · obtain ⟨x, hxi⟩ := int_get HN.out h1
        obtain ⟨y, hyi⟩ := int_get HN2.out h1
        obtain ⟨hx64, b, o, ha, g0⟩ := HAT.out i x hxi
        obtain ⟨hy64, b2, o2, ha2, g2⟩ := HBT.out i y hyi
        have HC := hid (same_at hxi hyi)
        have hix := index_run1 Tryd.underlying23 size_int ha i h1 (cap := c)
        have hix2 := index_run1 Tryd.underlying23 size_int ha2 i h1 (cap := c2)
        clear hxi hyi ha ha2
        by_cases hxy : x = y
        · have HC1 : Hid (z = decide (l.drop (i + 1) = m.drop (i + 1))) := by
            rw [Hid, HI.out, decide_eq_decide, HC.out]; simp [hxy]
          have hb1 : (x != y) = false := by simpa using hxy
          have hb2 : (x == y) = true := by simpa using hxy
          have HXY := hid hxy
          clear hxy
          go_wp2_with fail
          go_quiet (fail)
          go_wp2_with fail
          go_roundw
          case rel => exact ⟨i + 1, by go_num, h1, HC1.out, _, rfl⟩
          case measure => simp [intOf]; omega
        · have HC1 : Hid (z = false) := by
            rw [Hid, HI.out, decide_eq_false_iff_not, HC.out]; simp [hxy]
          have hb1 : (x != y) = true := by simpa using hxy
          have hb2 : (x == y) = false := by simpa using hxy
          have HXY := hid hxy
          clear hxy
          go_wp2_with fail
          go_quiet (fail)
          go_wp2_with fail
          go_ret
          exact ⟨by rw [HC1.out]; first | done | rfl, _, World.drewN_drewN _ _ _⟩
      · obtain rfl : i = n := by omega
        have HC1 : Hid (z = true) := by
          rw [Hid, HI.out, List.drop_eq_nil_of_le (by rw [← HN.out]; omega), List.drop_eq_nil_of_le (by rw [← HN2.out]; omega)]; simp
        go_wp2_with fail
        go_ret
        exact ⟨by rw [HC1.out]; first | done | rfl, _, rfl⟩
  · have HC1 : Hid (z = false) := by
      rw [Hid, HZ.out, decide_eq_false_iff_not]; rintro rfl; exact hnn (by rw [HN.out, HN2.out])
    have e1 : decide ((n : Int) = n2) = false := decide_eq_false (by omega)
    have e2 : ((n : Int) == n2) = false := by simp; omega
    have e3 : (n == n2) = false := by simp; omega
    clear hnn
    go_enter Tryd.func26, Tryd.ntmps26
    go_wp2_with fail
    go_ret
    exact ⟨by rw [HC1.out]; first | done | rfl, 0, rfl⟩
/-! The order of ways -/
def cmpW : List Int → List Int → Int
  | [], [] => 0
  | [], _ :: _ => -1
  | _ :: _, [] => 1
  | x :: a, y :: b => if x < y then -1 else if y < x then 1 else cmpW a b
theorem cmpW_iff : ∀ a b, cmpW a b < 0 ↔ ltW a b = true
  | [], [] => by simp [cmpW, ltW]
  | [], _ :: _ => by simp [cmpW, ltW]
  | _ :: _, [] => by simp [cmpW, ltW]
  | x :: a, y :: b => by
    have ih := cmpW_iff a b
    simp only [cmpW, ltW]
    by_cases h1 : x < y
    · rw [if_pos h1, if_neg (by omega)]; simp [h1]
    · rw [if_neg h1]
      by_cases h2 : y < x
      · rw [if_pos h2, if_neg (by omega)]; simp; omega
      · rw [if_neg h2, if_pos (by omega)]; exact ih
theorem cmpW_lt (a b : List Int) : decide (cmpW a b < 0) = ltW a b := by
  rw [Bool.eq_iff_iff, decide_eq_true_iff]; exact cmpW_iff a b
theorem cmpW_at {l m : List Int} {i : Nat} {x y : Int} (hx : l[i]? = some x) (hy : m[i]? = some y) : cmpW (l.drop i) (m.drop i) = if x < y then -1 else if y < x then 1 else cmpW (l.drop (i + 1)) (m.drop (i + 1)) := by
  rw [drop_at hx, drop_at hy, cmpW]
theorem cmpW_end1 {l m : List Int} {i : Nat} (hx : l.length ≤ i) : cmpW (l.drop i) (m.drop i) = if i < m.length then -1 else 0 := by
  rw [List.drop_eq_nil_of_le hx]
  split
  · rename_i h; rw [List.drop_eq_getElem_cons h]; rfl
  · rw [List.drop_eq_nil_of_le (by omega)]; rfl
theorem cmpW_end2 {l m : List Int} {i : Nat} (hx : i < l.length) (hy : m.length ≤ i) : cmpW (l.drop i) (m.drop i) = 1 := by
  rw [List.drop_eq_nil_of_le hy, List.drop_eq_getElem_cons hx]; rfl
set_option maxRecDepth 100000 in
set_option maxHeartbeats 4000000 in
theorem cmp_Compare_int (x y : Int) (w : World) :
    Calls Tryd.prog 25 #[.int .i64 x, .int .i64 y] w fun e w' => e = .returned (.int .i64 (if x < y then -1 else if y < x then 1 else 0)) ∧ w = w' := by
  by_cases h1 : x < y
  · rw [if_pos h1]
    have e2 : ¬ y < x := by omega
    go_enter Tryd.func25, Tryd.ntmps25
    go_wp2
    go_ret
    exact ⟨rfl, rfl⟩
  · rw [if_neg h1]
    by_cases h2 : y < x
    · rw [if_pos h2]
      go_enter Tryd.func25, Tryd.ntmps25
      go_wp2
      go_ret
      exact ⟨rfl, rfl⟩
    · rw [if_neg h2]
      go_enter Tryd.func25, Tryd.ntmps25
      go_wp2
      go_ret
      exact ⟨rfl, rfl⟩
set_option maxRecDepth 100000 in
set_option maxHeartbeats 4000000 in
theorem compare_ints {w : World} {v u : Value} {l m : List Int} (h : IntsAt w v l) (hu : IntsAt w u m) :
    Calls Tryd.prog 15 #[v, u] w fun e w' => e = .returned (.int .i64 (cmpW l m)) ∧ w' = w := by
  obtain ⟨hl, a, c, rfl, -, hat⟩ := h.open
  obtain ⟨hm, a2, c2, rfl, -, hbt⟩ := hu.open
  obtain ⟨n, HN⟩ : ∃ n, Hid (n = l.length) := ⟨_, rfl⟩
  obtain ⟨n2, HN2⟩ : ∃ n, Hid (n = m.length) := ⟨_, rfl⟩
  rw [← HN.out] at hl ⊢
  rw [← HN2.out] at hm ⊢
  obtain ⟨z, HZ⟩ : ∃ z, Hid (z = cmpW l m) := ⟨_, rfl⟩
  rw [← HZ.out]
  have HAT := hid hat
  have HBT := hid hbt
  clear hat hbt h hu
  go_enter Tryd.func15, Tryd.ntmps15
  go_wp2_with fail
  go_loop [11] (fun v5 => ∃ i : Nat, v5 = .int .i64 i ∧ i ≤ n ∧ i ≤ n2 ∧ Hid (z = cmpW (l.drop i) (m.drop i))) (fun v5 => n - (intOf v5).toNat)
  case atStart => exact ⟨0, rfl, by omega, by omega, by rw [Hid, HZ.out]; simp⟩
  case round =>
    obtain ⟨i, rfl, hi, hi2, HI⟩ := hrel
    by_cases h1 : i < n
    · obtain ⟨x, hxi⟩ := int_get HN.out h1
      obtain ⟨hx64, b, o, ha, g0⟩ := HAT.out i x hxi
      have hix := index_run1 Tryd.underlying23 size_int ha i h1 (cap := c)
      by_cases h2 : i < n2
      · obtain ⟨y, hyi⟩ := int_get HN2.out h2
        obtain ⟨hy64, b2, o2, ha2, g2⟩ := HBT.out i y hyi
        have HC := hid (cmpW_at hxi hyi)
        have hix2 := index_run1 Tryd.underlying23 size_int ha2 i h2 (cap := c2)
        have hge : ¬ (n2 ≤ i) := by omega
        clear hxi hyi ha ha2
        obtain ⟨q, HQ⟩ : ∃ q, Hid (q = (if x < y then -1 else if y < x then 1 else 0 : Int)) := ⟨_, rfl⟩
        by_cases hq : q = 0
        · have HC1 : Hid (z = cmpW (l.drop (i + 1)) (m.drop (i + 1))) := by
            have e1 : ¬ x < y := fun h => by have := HQ.out; rw [if_pos h] at this; omega
            have e2 : ¬ y < x := fun h => by have := HQ.out; rw [if_neg e1, if_pos h] at this; omega
            rw [Hid, HI.out, HC.out, if_neg e1, if_neg e2]
          subst hq
          go_wp2_with (go_at_call 25; refine (cmp_Compare_int x y _).mono ?_; rintro e w' ⟨rfl, rfl⟩; rw [← HQ.out])
          go_round
          case rel => exact ⟨i + 1, by go_num, h1, h2, HC1.out⟩
          case measure => simp [intOf]; omega
        · have HC1 : Hid (z = q) := by
            rw [Hid, HI.out, HC.out, HQ.out]
            by_cases e1 : x < y
            · rw [if_pos e1, if_pos e1]
            · rw [if_neg e1, if_neg e1]
              by_cases e2 : y < x
              · rw [if_pos e2, if_pos e2]
              · exact absurd (by rw [HQ.out, if_neg e1, if_neg e2]) hq
          have hb1 : (q != 0) = true := by simpa using hq
          have hb2 : (q == 0) = false := by simpa using hq
          clear hq
          go_wp2_with (go_at_call 25; refine (cmp_Compare_int x y _).mono ?_; rintro e w' ⟨rfl, rfl⟩; rw [← HQ.out])
          go_ret
          exact ⟨by rw [HC1.out]; first | done | rfl, rfl⟩
      · have HC1 : Hid (z = 1) := by
          rw [Hid, HI.out, cmpW_end2 (by rw [← HN.out]; exact h1) (by rw [← HN2.out]; omega)]
        have hge : n2 ≤ i := by omega
        clear hxi ha
        go_wp2_with fail
        go_ret
        exact ⟨by rw [HC1.out]; first | done | rfl, rfl⟩
    · obtain rfl : i = n := by omega
      by_cases h2 : i < n2
      · have HC1 : Hid (z = -1) := by
          rw [Hid, HI.out, cmpW_end1 (by rw [← HN.out]; omega), if_pos (by rw [← HN2.out]; exact h2)]
        go_wp2_with fail
        go_ret
        exact ⟨by rw [HC1.out]; first | done | rfl, rfl⟩
      · have HC1 : Hid (z = 0) := by
          rw [Hid, HI.out, cmpW_end1 (by rw [← HN.out]; omega), if_neg (by rw [← HN2.out]; exact h2)]
        go_wp2_with fail
        go_ret
        exact ⟨by rw [HC1.out]; first | done | rfl, rfl⟩
/-- the first so many -/
theorem IntsAt.h {w : World} {a : Option Addr} {n cap : Nat} {l : List Int} (h : IntsAt w (.slice a n cap) l) (hn : n = l.length) (j : Nat) (hj : j ≤ n) :
    ∃ a' cap', (∀ W, (Instr.slice 23 (.slice a n cap) none (some (.int .i64 (j : Int))) none).run Tryd.prog W = .ok (.slice a' j cap') W) ∧ IntsAt w (.slice a' j cap') (l.take j) := by
  subst hn
  have hcap : l.length ≤ cap := by obtain ⟨⟨_, _, a', cap', hv, h3, _⟩, -⟩ := h; cases hv; exact h3
  have hr := fun W => slice_h_run (P := Tryd.prog) under_ints size_int a l.length cap j (by omega) W
  have hs := Seg.sub h.1 0 j (by omega) hj
  unfold sliced at hr hs
  refine ⟨_, _, hr, ⟨?_, fun x hx => h.2 x (List.mem_of_mem_take hx)⟩⟩
  rw [List.length_take, Nat.min_eq_left (by omega), List.map_take]
  simpa using hs
/-- what is behind the first so many -/
theorem IntsAt.l {w : World} {a : Option Addr} {n cap : Nat} {l : List Int} (h : IntsAt w (.slice a n cap) l) (hn : n = l.length) (i : Nat) (hi : i ≤ n) :
    ∃ a' cap', (∀ W, (Instr.slice 23 (.slice a n cap) (some (.int .i64 (i : Int))) none none).run Tryd.prog W = .ok (.slice a' (n - i) cap') W) ∧ IntsAt w (.slice a' (n - i) cap') (l.drop i) := by
  subst hn
  have hr := fun W => slice_l_run (P := Tryd.prog) under_ints size_int a l.length cap i (by omega) W
  have hs := Seg.sub h.1 i l.length hi (Nat.le_refl _)
  unfold sliced at hr hs
  refine ⟨_, _, hr, ⟨?_, fun x hx => h.2 x (List.mem_of_mem_drop hx)⟩⟩
  rw [List.length_drop, List.map_drop]
  rw [List.take_of_length_le (by simp)] at hs
  simpa using hs
set_option maxRecDepth 100000 in
set_option maxHeartbeats 4000000 in
theorem mask_begins {w : World} {v u : Value} {l m : List Int} (h : IntsAt w v l) (hu : IntsAt w u m) :
    Calls Tryd.prog 16 #[v, u] w fun e w' => e = .returned (.bool (beginsW l m)) ∧ Drew w w' := by
  have H := hid h
  have HU := hid hu
  obtain ⟨hl, a, c, rfl, -, -⟩ := h.open
  obtain ⟨hm, a2, c2, rfl, -, -⟩ := hu.open
  obtain ⟨n, HN⟩ : ∃ n, Hid (n = l.length) := ⟨_, rfl⟩
  obtain ⟨n2, HN2⟩ : ∃ n, Hid (n = m.length) := ⟨_, rfl⟩
  rw [← HN.out] at hl H ⊢
  rw [← HN2.out] at hm HU ⊢
  obtain ⟨z, HZ⟩ : ∃ z, Hid (z = beginsW l m) := ⟨_, rfl⟩
  rw [← HZ.out]
  clear h hu
  by_cases hn : n2 ≤ n
  · obtain ⟨a', c', hsl, hI⟩ := H.out.h HN.out n2 hn
    have HI := hid hI
    have HZ2 : Hid (decide (l.take n2 = m) = z) := by
      rw [Hid, HZ.out, beginsW, ← HN2.out, ← HN.out, decide_eq_true hn, Bool.true_and]
    clear hI
    go_enter Tryd.func16, Tryd.ntmps16
    go_wp2_with (go_at_call 26; refine (equal_ints HI.out HU.out).mono ?_; rintro e w' ⟨rfl, kw, rfl⟩; rw [HZ2.out])
    go_ret
    exact ⟨rfl, _, rfl⟩
  · have HZ2 : Hid (z = false) := by
      rw [Hid, HZ.out, beginsW, ← HN2.out, ← HN.out, decide_eq_false hn, Bool.false_and]
    have hn2 : ¬ ((n2 : Int) ≤ n) := by omega
    go_enter Tryd.func16, Tryd.ntmps16
    go_wp2_with fail
    go_ret
    exact ⟨by rw [HZ2.out]; first | done | rfl, 0, rfl⟩
/-- append of one number, laid in a block of its own -/
theorem wpList_append_int {w W : World} {ops : Array Oper} {rest : List Oper} {o : Oper} {a : Act} {Q : Exit → Act → World → Prop} (hgd : o.guard = none) (s x : Operand)
    (ho : o.op = .call { callee := .builtin .append, args := #[s, x], argTypes := #[23, 23] }) (hty : o.type = 23) (v : Value) (y : Int) (q : Nat) (hs : a.eval s = v) (hx : a.eval x = .slice (some ⟨q, 0, none⟩) 1 1) (hw : w = W.alloc (.cells #[.int .i64 y] 3)) (hq : q = W.heap.size)
    (base : Nat) (l : List Int) (hown : IntsOwn W base v l) (hy : i64ok y) (hl : l.length ≤ 1099511627776) (hb : base ≤ W.heap.size)
    (h : ∀ a' c' w', IntsOwn w' base (.slice a' (l.length + 1) c') (l ++ [y]) → (∀ w0 : World, Below base w0 W → Below base w0 w') → (∀ b, b < W.heap.size → v.ownBlock ≠ some b → w'.heap[b]? = W.heap[b]?) → wpList Tryd.prog ops Q rest (a.put o.dst (.slice a' (l.length + 1) c')) w') : wpList Tryd.prog ops Q (o :: rest) a w := by
  subst hw
  subst hq
  have hA : Below W.heap.size W (W.alloc (.cells #[.int .i64 y] 3)) := (Below.refl _ _).alloc (Nat.le_refl _) _
  have hI : IntsAt (W.alloc (.cells #[.int .i64 y] 3)) (.slice (some ⟨W.heap.size, 0, none⟩) 1 1) [y] := by
    refine ⟨⟨rfl, by simp, _, _, rfl, Nat.le_refl _, by simp, by simp, fun j u hu => ⟨_, _, rfl, ?_⟩⟩, by simpa using hy⟩
    rw [Nat.zero_add, cell_of_row _ _ _ #[.int .i64 y] _ (0, 0) (heap_alloc_new W _)]
    simpa [intV] using hu
  obtain ⟨v', w', hr, hO, hg, -⟩ := ints_append (hown.later hA) hI (by simp; omega) (by simp; omega)
  obtain ⟨a', c', e⟩ := hO.form
  rw [List.length_append] at e
  have e' : v' = .slice a' (l.length + 1) c' := e
  subst e'
  refine wpList_append_eq hgd s x 23 ho v _ hs hx (by rw [hty]; exact hr) (h a' c' w' hO (fun w0 hb0 => ?_) fun b hb2 hne => (hg.block b (by simp; omega) (fun e => hne e.symm)).trans (Below.heap_alloc W _ b hb2))
  exact (hb0.alloc hb _).grown hg (by have := hb0.size; simp; omega) (fun q e => (World.ownsRow.lt hown q e).1)
end Go.Proofs.YtmngpfnjomhhcaaDoor
namespace Go.Proofs.YtmngpfnjomhhcaaDoor
/-- the mask of ways -/
def mOf (l : List (List Int)) : List (List Int) := rOf l l.length
theorem mOf_mask (l : List (List Int)) : IsMask l (mOf l) := rOf_mask l
theorem insW_len (w : List Int) : ∀ o, (insW w o).length = o.length + 1
  | [] => rfl
  | u :: r => by
    rw [insW]
    split
    · simp [insW_len w r]
    · simp
theorem rOf_len (l : List (List Int)) : ∀ n, (rOf l n).length ≤ n
  | 0 => by simp [rOf]
  | n + 1 => by
    have := rOf_len l n
    rw [rOf]
    split
    · rw [insW_len]; omega
    · omega
theorem mOf_len (l : List (List Int)) : (mOf l).length ≤ l.length := rOf_len l _
theorem hasW_append (a b : List (List Int)) (w : List Int) : hasW (a ++ b) w = (hasW a w || hasW b w) := by
  unfold hasW; rw [List.any_append]
theorem mOf_has (l : List (List Int)) (w : List Int) : hasW (mOf l) w = hasW l w := (mOf_mask l).has w
theorem union_has (a b : List (List Int)) (w : List Int) : hasW (mOf (a ++ b)) w = (hasW a w || hasW b w) := by rw [mOf_has, hasW_append]
/-- what a meet is made of -/
def meetW (x y : List (List Int)) : List (List Int) := x.filter (fun u => hasW y u) ++ y.filter (fun u => hasW x u)
theorem hasW_under {l : List (List Int)} {u w : List Int} (h : hasW l u = true) (hp : u <+: w) : hasW l w = true := by
  obtain ⟨v, h1, h2, h3⟩ := (hasW_iff _ _).1 h
  exact (hasW_iff _ _).2 ⟨v, h1, h2, h3.trans hp⟩
theorem meet_has (x y : List (List Int)) (w : List Int) : hasW (mOf (meetW x y)) w = (hasW x w && hasW y w) := by
  rw [mOf_has, Bool.eq_iff_iff, Bool.and_eq_true]
  constructor
  · intro h
    obtain ⟨u, h1, h2, h3⟩ := (hasW_iff _ _).1 h
    rcases List.mem_append.1 h1 with h1 | h1
    · obtain ⟨h4, h5⟩ := List.mem_filter.1 h1
      exact ⟨(hasW_iff _ _).2 ⟨u, h4, h2, h3⟩, hasW_under h5 h3⟩
    · obtain ⟨h4, h5⟩ := List.mem_filter.1 h1
      exact ⟨hasW_under h5 h3, (hasW_iff _ _).2 ⟨u, h4, h2, h3⟩⟩
  · rintro ⟨hx, hy⟩
    obtain ⟨u, h1, h2, h3⟩ := (hasW_iff _ _).1 hx
    obtain ⟨v, g1, g2, g3⟩ := (hasW_iff _ _).1 hy
    rcases List.prefix_or_prefix_of_prefix h3 g3 with hp | hp
    · exact (hasW_iff _ _).2 ⟨v, List.mem_append.2 (.inr (List.mem_filter.2 ⟨g1, (hasW_iff _ _).2 ⟨u, h1, h2, hp⟩⟩)), g2, g3⟩
    · exact (hasW_iff _ _).2 ⟨u, List.mem_append.2 (.inl (List.mem_filter.2 ⟨h1, (hasW_iff _ _).2 ⟨v, g1, g2, hp⟩⟩)), h2, h3⟩
theorem mOf_same {l l' : List (List Int)} (h : ∀ w, w ∈ l ↔ w ∈ l') : mOf l = mOf l' := ((mOf_mask l).perm h).one (mOf_mask l')
theorem mOf_self (l : List (List Int)) : mOf (mOf l) = mOf l := (mOf_mask _).one (mOf_mask l).self
theorem union_self (l : List (List Int)) : mOf (mOf l ++ mOf l) = mOf l := by
  rw [mOf_same (l' := mOf l) (by simp), mOf_self]
theorem mOf_hasOwn {l : List (List Int)} {u : List Int} (h : u ∈ mOf l) : hasW (mOf l) u = true :=
  (hasW_iff _ _).2 ⟨u, h, (((mOf_mask l).2 u).1 h).2.1, List.prefix_refl u⟩
theorem meet_self (l : List (List Int)) : mOf (meetW (mOf l) (mOf l)) = mOf l := by
  have e : (mOf l).filter (fun u => hasW (mOf l) u) = mOf l := List.filter_eq_self.2 fun u hu => mOf_hasOwn hu
  rw [meetW, e, union_self]
end Go.Proofs.YtmngpfnjomhhcaaDoor
