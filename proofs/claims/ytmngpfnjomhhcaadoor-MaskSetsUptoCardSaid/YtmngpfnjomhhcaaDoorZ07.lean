/- Meanings: values of fields and messages, as data (M d: messages in which others lie at most d deep), and how they lie in memory. No condition. Slices of ways (slices of ints): what they hold; darningref13.Same, Has, Whole, less; mask.Has. No condition. Slices of ways: slices.IndexFunc, ContainsFunc; darningref13.Has, Whole; mask.Has, Mask.Whole's test. No condition. append onto a row of the call's own, whatever is appended (a string's bytes too), as an equation of the run. No condition. Mask.Whole's test, darningref13.Whole; slices.Clone of ways; darninglaw13.Many. No condition. slices.SortFunc of ways by slices.Compare: the ways in their order. The list is not empty. A slice of the call's own whose elements are several cells each, built by appending one element after the other. -/
import Derived.Test.YtmngpfnjomhhcaaDoorShelf
import Derived.Test.YtmngpfnjomhhcaaDoorZ01
import Derived.Test.YtmngpfnjomhhcaaDoorZ05
import Derived.Test.YtmngpfnjomhhcaaDoorZ06
import Derived.Deep.AppendSrc
import Derived.Maps.AppendAt
import Derived.OwnWalk
import Derived.OwnWalkIn
namespace Go.Proofs.YtmngpfnjomhhcaaDoor
open Go.RowKit
structure Val (α : Type) where
  num : Int
  words : List Nat
  texts : List (List UInt8)
  subs : List α
structure Msgd (α : Type) where
  vals : List (Val α)
  unk : List (List UInt8)
def M : Nat → Type
  | 0 => Empty
  | d + 1 => Msgd (M d)
def M.vals {d : Nat} (x : M (d + 1)) : List (Val (M d)) := Msgd.vals x
def M.unk {d : Nat} (x : M (d + 1)) : List (List UInt8) := Msgd.unk x
def Val.zero {α : Type} : Val α := ⟨0, [], [], []⟩
def strV (t : List UInt8) : Value := .string ⟨t.toArray⟩
def wordV (x : Nat) : Value := .int .u64 (x : Int)
/-- A []string, a []uint64. -/
def StrsAt (w : World) (v : Value) (l : List (List UInt8)) : Prop := Seg w v 1 l.length (l.map strV) ∧ ∀ t ∈ l, t.length ≤ 140737488355328
def WordsAt (w : World) (v : Value) (l : List Nat) : Prop := Seg w v 1 l.length (l.map wordV) ∧ ∀ x ∈ l, x < 2 ^ 64
/-- A slice whose elements are k cells each, one element for each of l. -/
def RowsAt {α : Type} (P : World → List Value → α → Prop) (k : Nat) (w : World) (v : Value) (l : List α) : Prop :=
  ∃ rows : List (List Value), rows.length = l.length ∧ (∀ r ∈ rows, r.length = k) ∧ Seg w v k l.length rows.flatten ∧ ∀ (i : Nat) (r : List Value) (x : α), rows[i]? = some r → l[i]? = some x → P w r x
def SubsAt {α : Type} (P : World → Value → α → Prop) (w : World) (v : Value) (l : List α) : Prop := RowsAt (fun w r x => P w (.agg r.toArray) x) 2 w v l
def ValAt {α : Type} (P : World → Value → α → Prop) (w : World) (v : Value) (x : Val α) : Prop :=
  ∃ wv tv sv, v = .agg #[.int .i64 x.num, wv, tv, sv] ∧ (-9223372036854775808 ≤ x.num ∧ x.num ≤ 9223372036854775807) ∧ WordsAt w wv x.words ∧ StrsAt w tv x.texts ∧ SubsAt P w sv x.subs
def ValsAt {α : Type} (P : World → Value → α → Prop) (w : World) (v : Value) (l : List (Val α)) : Prop := RowsAt (fun w r x => ValAt P w (.agg r.toArray) x) 4 w v l
def MsgAt : (d : Nat) → World → Value → M d → Prop
  | 0, _, _, _ => False
  | d + 1, w, v, x => ∃ vv uv, v = .agg #[vv, uv] ∧ ValsAt (MsgAt d) w vv (M.vals x) ∧ StrsAt w uv (M.unk x)
theorem StrsAt.keep {w w' : World} {v : Value} {l : List (List UInt8)} (h : StrsAt w v l) (hk : ∀ p u, w.cell? p = some u → w'.cell? p = some u) : StrsAt w' v l := ⟨h.1.keep hk, h.2⟩
theorem WordsAt.keep {w w' : World} {v : Value} {l : List Nat} (h : WordsAt w v l) (hk : ∀ p u, w.cell? p = some u → w'.cell? p = some u) : WordsAt w' v l := ⟨h.1.keep hk, h.2⟩
theorem RowsAt.keep {α : Type} {P : World → List Value → α → Prop} {k : Nat} {w w' : World} {v : Value} {l : List α} (h : RowsAt P k w v l) (hk : ∀ p u, w.cell? p = some u → w'.cell? p = some u) (hP : ∀ r x, P w r x → P w' r x) : RowsAt P k w' v l :=
  let ⟨rows, h1, h0, h2, h3⟩ := h
  ⟨rows, h1, h0, h2.keep hk, fun i r x hr hx => hP _ _ (h3 i r x hr hx)⟩
theorem SubsAt.keep {α : Type} {P : World → Value → α → Prop} {w w' : World} {v : Value} {l : List α} (h : SubsAt P w v l) (hk : ∀ p u, w.cell? p = some u → w'.cell? p = some u) (hP : ∀ v x, P w v x → P w' v x) : SubsAt P w' v l :=
  RowsAt.keep h hk fun _ _ hx => hP _ _ hx
theorem ValAt.keep {α : Type} {P : World → Value → α → Prop} {w w' : World} {v : Value} {x : Val α} (h : ValAt P w v x) (hk : ∀ p u, w.cell? p = some u → w'.cell? p = some u) (hP : ∀ v x, P w v x → P w' v x) : ValAt P w' v x :=
  let ⟨wv, tv, sv, h1, h2, h3, h4, h5⟩ := h
  ⟨wv, tv, sv, h1, h2, h3.keep hk, h4.keep hk, h5.keep hk hP⟩
theorem ValsAt.keep {α : Type} {P : World → Value → α → Prop} {w w' : World} {v : Value} {l : List (Val α)} (h : ValsAt P w v l) (hk : ∀ p u, w.cell? p = some u → w'.cell? p = some u) (hP : ∀ v x, P w v x → P w' v x) : ValsAt P w' v l :=
  RowsAt.keep h hk fun _ _ hx => hx.keep hk hP
theorem MsgAt.keep : ∀ {d : Nat} {w w' : World} {v : Value} {x : M d}, MsgAt d w v x → (∀ p u, w.cell? p = some u → w'.cell? p = some u) → MsgAt d w' v x
  | 0, _, _, _, _, h, _ => h.elim
  | d + 1, _, _, _, _, h, hk => by
    obtain ⟨vv, uv, h1, h2, h3⟩ := h
    exact ⟨vv, uv, h1, h2.keep hk fun v x hx => MsgAt.keep hx hk, h3.keep hk⟩
theorem MsgAt.below {d : Nat} {w w' : World} {v : Value} {x : M d} (h : MsgAt d w v x) (hb : Below w.heap.size w w') : MsgAt d w' v x := h.keep (below_keeps hb)
theorem VMsg.keep {d : Nat} {w w' : World} {v : Value} {x : Val (M d)} (h : ValAt (MsgAt d) w v x) (hk : ∀ p u, w.cell? p = some u → w'.cell? p = some u) : ValAt (MsgAt d) w' v x := ValAt.keep h hk fun _ _ hx => hx.keep hk
theorem VMsg.below {d : Nat} {w w' : World} {v : Value} {x : Val (M d)} (h : ValAt (MsgAt d) w v x) (hb : Below w.heap.size w w') : ValAt (MsgAt d) w' v x := VMsg.keep h (below_keeps hb)
/-- What a walk wants of a []string. -/
theorem StrsAt.open {w : World} {v : Value} {l : List (List UInt8)} (h : StrsAt w v l) :
    l.length ≤ 140737488355328 ∧ ∃ a cap, v = .slice a l.length cap ∧ (a = none → cap = 0) ∧ ∀ k t, l[k]? = some t → t.length ≤ 140737488355328 ∧ ∃ b o, a = some ⟨b, o, none⟩ ∧ w.cell? ⟨b, o + k, none⟩ = some (strV t) := by
  obtain ⟨⟨_, h2, a, cap, hv, h3, h4, h5, h6⟩, hl⟩ := h
  refine ⟨h2, a, cap, hv, h5, fun k t hk => ⟨hl _ (List.mem_of_getElem? hk), h6 k _ ?_⟩⟩
  simp [hk]
theorem WordsAt.open {w : World} {v : Value} {l : List Nat} (h : WordsAt w v l) :
    l.length ≤ 140737488355328 ∧ ∃ a cap, v = .slice a l.length cap ∧ (a = none → cap = 0) ∧ ∀ k x, l[k]? = some x → x < 2 ^ 64 ∧ ∃ b o, a = some ⟨b, o, none⟩ ∧ w.cell? ⟨b, o + k, none⟩ = some (wordV x) := by
  obtain ⟨⟨_, h2, a, cap, hv, h3, h4, h5, h6⟩, hl⟩ := h
  refine ⟨h2, a, cap, hv, h5, fun k t hk => ⟨hl _ (List.mem_of_getElem? hk), h6 k _ ?_⟩⟩
  simp [hk]
theorem flatten_get {k : Nat} : ∀ (rows : List (List Value)) (i j : Nat) (r : List Value), (∀ r ∈ rows, r.length = k) → rows[i]? = some r → j < k → rows.flatten[i * k + j]? = r[j]?
  | [], _, _, _, _, h, _ => by simp at h
  | y :: l, 0, j, r, hk, h, hj => by
    simp at h
    subst h
    rw [List.flatten_cons, Nat.zero_mul, Nat.zero_add, List.getElem?_append_left (by rw [hk y (by simp)]; exact hj)]
  | y :: l, i + 1, j, r, hk, h, hj => by
    have := flatten_get l i j r (fun r hr => hk r (by simp [hr])) (by simpa using h) hj
    rw [List.flatten_cons, List.getElem?_append_right (by rw [hk y (by simp), Nat.succ_mul]; omega), hk y (by simp)]
    rw [show (i + 1) * k + j - k = i * k + j by rw [Nat.succ_mul]; omega]
    exact this
theorem RowsAt.open {α : Type} {P : World → List Value → α → Prop} {k : Nat} (hk0 : 0 < k) {w : World} {v : Value} {l : List α} (h : RowsAt P k w v l) :
    l.length ≤ 140737488355328 ∧ ∃ a cap, v = .slice a l.length cap ∧ (a = none → cap = 0) ∧ ∀ i x, l[i]? = some x → ∃ b o r, a = some ⟨b, o, none⟩ ∧ r.length = k ∧ (∀ j u, r[j]? = some u → w.cell? ⟨b, o + i * k + j, none⟩ = some u) ∧ P w r x := by
  obtain ⟨rows, hl, hk, ⟨_, h2, a, cap, hv, h3, h4, h5, h6⟩, hP⟩ := h
  refine ⟨h2, a, cap, hv, h5, fun i x hi => ?_⟩
  have hil : i < l.length := (List.getElem?_eq_some_iff.1 hi).1
  have hr : rows[i]? = some (rows[i]'(by omega)) := List.getElem?_eq_getElem (by omega)
  have hrk := hk _ (List.mem_of_getElem? hr)
  generalize rows[i]'(by omega) = r at hr hrk
  have hc := fun j (hj : j < k) => flatten_get rows i j r hk hr hj
  have h0 : r[0]? = some (r[0]'(by omega)) := List.getElem?_eq_getElem (by omega)
  obtain ⟨b, o, ha, g0⟩ := h6 _ _ ((hc 0 hk0).trans h0)
  refine ⟨b, o, r, ha, hrk, fun j u hu => ?_, hP i r x hr hi⟩
  have hj : j < k := by rw [← hrk]; exact (List.getElem?_eq_some_iff.1 hu).1
  obtain ⟨b', o', ha', hcell⟩ := h6 _ u ((hc j hj).trans hu)
  rw [ha] at ha'
  cases ha'
  rw [Nat.add_assoc]; exact hcell
theorem SubsAt.open {α : Type} {P : World → Value → α → Prop} {w : World} {v : Value} {l : List α} (h : SubsAt P w v l) :
    l.length ≤ 140737488355328 ∧ ∃ a cap, v = .slice a l.length cap ∧ (a = none → cap = 0) ∧ ∀ k x, l[k]? = some x → ∃ b o v1 v2, a = some ⟨b, o, none⟩ ∧ w.cell? ⟨b, o + k * 2, none⟩ = some v1 ∧ w.cell? ⟨b, o + k * 2 + 1, none⟩ = some v2 ∧ P w (.agg #[v1, v2]) x := by
  obtain ⟨h1, a, cap, h2, h3, h4⟩ := RowsAt.open (by decide) h
  refine ⟨h1, a, cap, h2, h3, fun k x hx => ?_⟩
  obtain ⟨b, o, r, ha, hr, hc, hP⟩ := h4 k x hx
  match r, hr with
  | [v1, v2], _ => exact ⟨b, o, v1, v2, ha, hc 0 _ rfl, hc 1 _ rfl, hP⟩
theorem ValsAt.open {α : Type} {P : World → Value → α → Prop} {w : World} {v : Value} {l : List (Val α)} (h : ValsAt P w v l) :
    l.length ≤ 140737488355328 ∧ ∃ a cap, v = .slice a l.length cap ∧ (a = none → cap = 0) ∧ ∀ k x, l[k]? = some x → ∃ b o v1 v2 v3, a = some ⟨b, o, none⟩ ∧
      w.cell? ⟨b, o + k * 4, none⟩ = some (.int .i64 x.num) ∧ w.cell? ⟨b, o + k * 4 + 1, none⟩ = some v1 ∧ w.cell? ⟨b, o + k * 4 + 2, none⟩ = some v2 ∧ w.cell? ⟨b, o + k * 4 + 3, none⟩ = some v3 ∧
      ValAt P w (.agg #[.int .i64 x.num, v1, v2, v3]) x := by
  obtain ⟨h1, a, cap, h2, h3, h4⟩ := RowsAt.open (by decide) h
  refine ⟨h1, a, cap, h2, h3, fun k x hx => ?_⟩
  obtain ⟨b, o, r, ha, hr, hc, hP⟩ := h4 k x hx
  match r, hr with
  | [v0, v1, v2, v3], _ =>
    have hP' := hP
    obtain ⟨wv, tv, sv, e, -⟩ := hP'
    cases e
    exact ⟨b, o, v1, v2, v3, ha, hc 0 _ rfl, hc 1 _ rfl, hc 2 _ rfl, hc 3 _ rfl, hP⟩
/-! The weight: how many things and bytes there are. -/
theorem sum_take {α : Type} (f : α → Nat) (l : List α) (k : Nat) (x : α) (h : l[k]? = some x) : ((l.take (k + 1)).map f).sum = ((l.take k).map f).sum + f x := by
  rw [List.take_add_one, h]
  simp
theorem sum_take_le {α : Type} (f : α → Nat) (l : List α) (k : Nat) : ((l.take k).map f).sum ≤ (l.map f).sum := by
  conv => rhs; rw [← List.take_append_drop k l]
  rw [List.map_append, List.sum_append]
  omega
theorem mem_sum_le {α : Type} (f : α → Nat) (l : List α) (x : α) (h : x ∈ l) : f x ≤ (l.map f).sum := by
  obtain ⟨k, hk⟩ := List.mem_iff_getElem?.1 h
  have h1 := sum_take f l k x hk
  have h2 := sum_take_le f l (k + 1)
  omega
end Go.Proofs.YtmngpfnjomhhcaaDoor
namespace Go.Proofs.YtmngpfnjomhhcaaDoor
open Go.RowKit
def WayP (w : World) (r : List Value) (l : List Int) : Prop := ∃ v, r = [v] ∧ IntsAt w v l
/-- A [][]int. -/
def WaysAt (w : World) (v : Value) (ls : List (List Int)) : Prop := RowsAt WayP 1 w v ls
theorem WayP.keep {w w' : World} {r : List Value} {l : List Int} (h : WayP w r l) (hk : ∀ p u, w.cell? p = some u → w'.cell? p = some u) : WayP w' r l := let ⟨v, h1, h2⟩ := h; ⟨v, h1, h2.keep hk⟩
theorem WaysAt.keep {w w' : World} {v : Value} {ls : List (List Int)} (h : WaysAt w v ls) (hk : ∀ p u, w.cell? p = some u → w'.cell? p = some u) : WaysAt w' v ls := RowsAt.keep h hk fun _ _ hx => hx.keep hk
theorem WaysAt.below {w w' : World} {v : Value} {ls : List (List Int)} (h : WaysAt w v ls) (hb : Below w.heap.size w w') : WaysAt w' v ls := h.keep (below_keeps hb)
theorem WaysAt.open {w : World} {v : Value} {ls : List (List Int)} (h : WaysAt w v ls) :
    ls.length ≤ 140737488355328 ∧ ∃ a cap, v = .slice a ls.length cap ∧ (a = none → cap = 0) ∧ ∀ k l, ls[k]? = some l → ∃ b o a2 c2, a = some ⟨b, o, none⟩ ∧ w.cell? ⟨b, o + k, none⟩ = some (.slice a2 l.length c2) ∧ IntsAt w (.slice a2 l.length c2) l := by
  obtain ⟨h1, a, cap, h2, h3, h4⟩ := RowsAt.open (by decide) h
  refine ⟨h1, a, cap, h2, h3, fun k l hl => ?_⟩
  obtain ⟨b, o, r, ha, -, hc, v', rfl, hI⟩ := h4 k l hl
  have hI' := hI
  obtain ⟨-, a2, c2, rfl, -, -⟩ := hI'.open
  have := hc 0 _ rfl
  rw [Nat.mul_one, Nat.add_zero] at this
  exact ⟨b, o, a2, c2, ha, this, hI⟩
theorem size_ints (w : World) : (sizeOf 23).run Tryd.prog w = .ok 1 w := by kernel_rfl
theorem under_ways : Tryd.prog.underlying 22 = some (.slice 23) := Tryd.underlying22
theorem info_ints : (Tryd.prog.info? 23).map (fun i => (i.zero, i.size, i.bytes)) = some (some (.slice none 0 0), 1, 24) := by kernel_rfl
theorem way_get {ls : List (List Int)} {n i : Nat} (hn : n = ls.length) (h : i < n) : ∃ x, ls[i]? = some x := ⟨_, List.getElem?_eq_getElem (by omega)⟩
theorem same_ways_at {l m : List (List Int)} {i : Nat} {x y : List Int} (hx : l[i]? = some x) (hy : m[i]? = some y) : (l.drop i = m.drop i) ↔ x = y ∧ l.drop (i + 1) = m.drop (i + 1) := by
  rw [drop_at hx, drop_at hy, List.cons.injEq]
set_option maxRecDepth 100000 in
set_option maxHeartbeats 4000000 in
theorem ref13_Same {w : World} {v u : Value} {l m : List (List Int)} (h : WaysAt w v l) (hu : WaysAt w u m) :
    Calls Tryd.prog 10 #[v, u] w fun e w' => e = .returned (.bool (decide (l = m))) ∧ Drew w w' := by
  obtain ⟨hl, a, c, rfl, -, hat⟩ := h.open
  obtain ⟨hm, a2, c2, rfl, -, hbt⟩ := hu.open
  obtain ⟨n, HN⟩ : ∃ n, Hid (n = l.length) := ⟨_, rfl⟩
  obtain ⟨n2, HN2⟩ : ∃ n, Hid (n = m.length) := ⟨_, rfl⟩
  rw [← HN.out] at hl ⊢
  rw [← HN2.out] at hm ⊢
  obtain ⟨z, HZ⟩ : ∃ z, Hid (z = decide (l = m)) := ⟨_, rfl⟩
  rw [← HZ.out]
  have HAT := hid hat
  have HBT := hid hbt
  clear hat hbt h hu
  by_cases hnn : n = n2
  · subst hnn
    go_enter Tryd.func10, Tryd.ntmps10
    go_wp2_with fail
    go_loopw [5] (fun v5 wr => ∃ i : Nat, v5 = .int .i64 i ∧ i ≤ n ∧ Hid (z = decide (l.drop i = m.drop i)) ∧ Hid (Drew w wr)) (fun v5 _ => n - (intOf v5).toNat)
    case atStart => exact ⟨0, rfl, by omega, by rw [Hid, HZ.out]; simp, Drew.refl _⟩
    case round =>
      obtain ⟨i, rfl, hi, HI, HB⟩ := hrel
      by_cases h1 : i < n
      · obtain ⟨x, hxi⟩ := way_get HN.out h1
        obtain ⟨y, hyi⟩ := way_get HN2.out h1
        obtain ⟨b, o, xa, xc, ha, g0, hX⟩ := HAT.out i x hxi
        obtain ⟨b2, o2, ya, yc, ha2, g2, hY⟩ := HBT.out i y hyi
        have HC := hid (same_ways_at hxi hyi)
        have hix := index_run1 Tryd.underlying22 size_ints ha i h1 (cap := c)
        have hix2 := index_run1 Tryd.underlying22 size_ints ha2 i h1 (cap := c2)
        have HS := hid fun k => ref07_SameInts (hX.keep (w' := wr.drewN k) (HB.out.step k).keeps) (hY.keep (w' := wr.drewN k) (HB.out.step k).keeps)
        replace g0 := HB.out.keeps _ _ g0
        replace g2 := HB.out.keeps _ _ g2
        obtain ⟨xn, HXN⟩ : ∃ xn, Hid (xn = x.length) := ⟨_, rfl⟩
        obtain ⟨yn, HYN⟩ : ∃ yn, Hid (yn = y.length) := ⟨_, rfl⟩
        rw [← HXN.out] at g0 HS
        rw [← HYN.out] at g2 HS
        clear hxi hyi ha ha2 hX hY
        by_cases hxy : x = y
        · have HC1 : Hid (z = decide (l.drop (i + 1) = m.drop (i + 1))) := by
            rw [Hid, HI.out, decide_eq_decide, HC.out]; simp [hxy]
          rw [show decide (x = y) = true from decide_eq_true hxy] at HS
          have HXY := hid hxy
          clear hxy
          go_wp2_with fail
          go_quiet ((go_at_call 12; exact Drew.quiet (HS.out _)))
          go_wp2_with fail
          go_roundw
          case rel => exact ⟨i + 1, by go_num, h1, HC1.out, HB.out.step _⟩
          case measure => simp [intOf]; omega
        · have HC1 : Hid (z = false) := by
            rw [Hid, HI.out, decide_eq_false_iff_not, HC.out]; simp [hxy]
          rw [show decide (x = y) = false from decide_eq_false hxy] at HS
          have HXY := hid hxy
          clear hxy
          go_wp2_with fail
          go_quiet ((go_at_call 12; exact Drew.quiet (HS.out _)))
          go_wp2_with fail
          go_ret
          exact ⟨by rw [HC1.out]; first | done | rfl, HB.out.step _⟩
      · obtain rfl : i = n := by omega
        have HC1 : Hid (z = true) := by
          rw [Hid, HI.out, List.drop_eq_nil_of_le (by rw [← HN.out]; omega), List.drop_eq_nil_of_le (by rw [← HN2.out]; omega)]; simp
        go_wp2_with fail
        go_ret
        exact ⟨by rw [HC1.out]; first | done | rfl, HB.out⟩
  · have HC1 : Hid (z = false) := by
      rw [Hid, HZ.out, decide_eq_false_iff_not]; rintro rfl; exact hnn (by rw [HN.out, HN2.out])
    have e1 : decide ((n : Int) = n2) = false := decide_eq_false (by omega)
    have e2 : ((n : Int) == n2) = false := by simp; omega
    have e3 : (n == n2) = false := by simp; omega
    clear hnn
    go_enter Tryd.func10, Tryd.ntmps10
    go_wp2_with fail
    go_ret
    exact ⟨by rw [HC1.out]; first | done | rfl, Drew.refl _⟩
end Go.Proofs.YtmngpfnjomhhcaaDoor
namespace Go.Proofs.YtmngpfnjomhhcaaDoor
open Go.RowKit
theorem any_at {α : Type} {p : α → Bool} {l : List α} {i : Nat} {x : α} (h : l[i]? = some x) : (l.drop i).any p = (p x || (l.drop (i + 1)).any p) := by
  rw [drop_at h]; rfl
theorem any_end {α : Type} {p : α → Bool} {l : List α} {i : Nat} (h : l.length ≤ i) : (l.drop i).any p = false := by
  rw [List.drop_eq_nil_of_le h]; rfl
def IndexPost (z : Bool) (w : World) (e : Ending) (w' : World) : Prop := ∃ r : Int, e = .returned (.int .i64 r) ∧ decide (0 ≤ r) = z ∧ Drew w w'
set_option maxRecDepth 100000 in
set_option maxHeartbeats 4000000 in
theorem indexFunc_ways {w : World} {v : Value} {ls : List (List Int)} (h : WaysAt w v ls) (F : Nat) (cap : Array Value) (p : List Int → Bool) (hcf : ∀ (args : Array Value) (w : World), (callFunc F args).run Tryd.prog w = .ok (.enter F args) w)
    (hcl : ∀ (u : Value) (l : List Int) (wr : World), IntsAt wr u l → Drew w wr → Calls Tryd.prog F (#[u] ++ cap) wr fun e w' => e = .returned (.bool (p l)) ∧ Drew wr w') :
    Calls Tryd.prog 27 #[v, .func (.func F) #[] cap] w (IndexPost (ls.any p) w) := by
  obtain ⟨hlen, a, c, rfl, -, hat⟩ := h.open
  obtain ⟨n, HN⟩ : ∃ n, Hid (n = ls.length) := ⟨_, rfl⟩
  rw [← HN.out] at hlen ⊢
  obtain ⟨z, HZ⟩ : ∃ z, Hid (z = ls.any p) := ⟨_, rfl⟩
  rw [← HZ.out]
  have HAT := hid hat
  have HCL := hid hcl
  clear hat hcl
  go_enter Tryd.func27, Tryd.ntmps27
  go_wp2
  go_loopw [8] (fun v8 wr => ∃ k : Nat, k ≤ n ∧ v8 = .int .i64 k ∧ Hid (z = (ls.drop k).any p) ∧ Hid (Drew w wr)) (fun v8 _ => n - (intOf v8).toNat)
  case atStart => exact ⟨0, by omega, rfl, by rw [Hid, HZ.out]; rfl, Drew.refl _⟩
  case round =>
    obtain ⟨k, hk, rfl, HK, HB⟩ := hrel
    by_cases hlt : k < n
    · obtain ⟨x, hxi⟩ := way_get HN.out hlt
      obtain ⟨b, o, xa, xc, ha, g0, hX⟩ := HAT.out k x hxi
      replace g0 := HB.out.keeps _ _ g0
      have HX := hid (hX.keep HB.out.keeps)
      have HA := hid (any_at (p := p) hxi)
      have hix := index_run1 Tryd.underlying22 size_ints ha k hlt (cap := c)
      obtain ⟨xn, HXN⟩ : ∃ xn, Hid (xn = x.length) := ⟨_, rfl⟩
      rw [← HXN.out] at g0 HX
      clear hxi hX ha
      go_wp2_with fail
      have hcl := HCL.out
      refine (hcl _ x _ HX.out HB.out).mono ?_
      rintro e w5 ⟨rfl, hb5⟩
      clear hcl
      have HB5 : Hid (Drew w w5) := HB.out.trans hb5
      clear hb5
      cases hp : p x with
      | true =>
        have HE : Hid (z = true) := by rw [Hid, HK.out, HA.out, hp]; rfl
        clear hp
        go_wp2
        go_ret
        exact ⟨_, rfl, by rw [HE.out]; simp, HB5.out⟩
      | false =>
        have HE : Hid (z = (ls.drop (k + 1)).any p) := by rw [Hid, HK.out, HA.out, hp]; rfl
        clear hp
        go_wp2
        go_roundw
        case rel => exact ⟨k + 1, by omega, by go_num, HE.out, HB5.out⟩
        case measure => simp [intOf]; omega
    · have HE : Hid (z = false) := by rw [Hid, HK.out, any_end (by rw [← HN.out]; omega)]
      go_wp2
      go_ret
      exact ⟨_, rfl, by rw [HE.out]; rfl, HB.out⟩
set_option maxRecDepth 100000 in
set_option maxHeartbeats 4000000 in
theorem containsFunc_ways {w : World} {v : Value} {ls : List (List Int)} (h : WaysAt w v ls) (F : Nat) (cap : Array Value) (p : List Int → Bool) (hcf : ∀ (args : Array Value) (w : World), (callFunc F args).run Tryd.prog w = .ok (.enter F args) w)
    (hcl : ∀ (u : Value) (l : List Int) (wr : World), IntsAt wr u l → Drew w wr → Calls Tryd.prog F (#[u] ++ cap) wr fun e w' => e = .returned (.bool (p l)) ∧ Drew wr w') :
    Calls Tryd.prog 18 #[v, .func (.func F) #[] cap] w fun e w' => e = .returned (.bool (ls.any p)) ∧ Drew w w' := by
  have HI := hid (indexFunc_ways h F cap p hcf hcl)
  obtain ⟨-, a, c, rfl, -, -⟩ := h.open
  obtain ⟨z, HZ⟩ : ∃ z, Hid (z = ls.any p) := ⟨_, rfl⟩
  rw [← HZ.out] at HI ⊢
  clear h hcl
  go_enter Tryd.func18, Tryd.ntmps18
  go_wp2_with fail
  refine HI.out.mono ?_
  rintro e w1 ⟨r, rfl, hr, hb⟩
  have HR := hid hr
  have HB := hid hb
  clear hr hb
  by_cases h0 : 0 ≤ r
  · have HT : Hid (z = true) := by rw [Hid, ← HR.out]; exact decide_eq_true h0
    go_wp2_with fail
    go_ret
    exact ⟨by rw [HT.out]; first | done | rfl, HB.out⟩
  · have HT : Hid (z = false) := by rw [Hid, ← HR.out]; exact decide_eq_false h0
    have e1 : decide (0 ≤ r) = false := decide_eq_false h0
    go_wp2_with fail
    go_ret
    exact ⟨by rw [HT.out]; first | done | rfl, HB.out⟩
set_option maxRecDepth 100000 in
set_option maxHeartbeats 4000000 in
theorem mask_Has_1 {w : World} {q : Nat} {v u : Value} {way l : List Int} (hq : w.cell? ⟨q, 0, none⟩ = some v) (hv : IntsAt w v way) (hu : IntsAt w u l) :
    Calls Tryd.prog 19 #[u, .pointer (some ⟨q, 0, none⟩)] w fun e w' => e = .returned (.bool (decide (0 < l.length) && beginsW way l)) ∧ Drew w w' := by
  have HV := hid hv
  have HU := hid hu
  obtain ⟨-, a, c, rfl, -, -⟩ := hv.open
  obtain ⟨-, a2, c2, rfl, -, -⟩ := hu.open
  obtain ⟨n, HN⟩ : ∃ n, Hid (n = way.length) := ⟨_, rfl⟩
  obtain ⟨n2, HN2⟩ : ∃ n, Hid (n = l.length) := ⟨_, rfl⟩
  rw [← HN.out] at hq HV
  rw [← HN2.out] at HU ⊢
  clear hv hu
  by_cases h0 : 0 < n2
  · rw [decide_eq_true h0, Bool.true_and]
    go_enter Tryd.func19, Tryd.ntmps19
    go_wp2_with (go_at_call 16; refine (mask_begins HV.out HU.out).mono ?_; rintro e w' ⟨rfl, hb⟩; have HB := hid hb; clear hb)
    go_ret
    exact ⟨rfl, HB.out⟩
  · rw [decide_eq_false h0, Bool.false_and]
    obtain rfl : n2 = 0 := by omega
    go_enter Tryd.func19, Tryd.ntmps19
    go_wp2_with fail
    go_ret
    exact ⟨rfl, Drew.refl _⟩
/-- a mask's value -/
def maskV (v : Value) : Value := .agg #[v]
set_option maxRecDepth 100000 in
set_option maxHeartbeats 4000000 in
theorem mask_Has {w : World} {v u : Value} {ls : List (List Int)} {way : List Int} (h : WaysAt w v ls) (hu : IntsAt w u way) :
    Calls Tryd.prog 7 #[maskV v, u] w fun e w' => e = .returned (.bool (hasW ls way)) ∧ Below w.heap.size w w' := by
  unfold maskV
  have HK : Hid (∀ W, Below w.heap.size w W → W.cell? ⟨w.heap.size + 1, 0, none⟩ = some u → Calls Tryd.prog 18 #[v, .func (.func 19) #[] #[.pointer (some ⟨w.heap.size + 1, 0, none⟩)]] W fun e w' => e = .returned (.bool (hasW ls way)) ∧ Drew W w') := by
    intro W hW hc
    refine containsFunc_ways (h.keep (below_keeps hW)) _ _ (fun l => decide (0 < l.length) && beginsW way l) (fun args w => by simp [go_sem]) fun y l wr hy hd => ?_
    exact mask_Has_1 (hd.keeps _ _ hc) ((hu.keep (below_keeps hW)).keep hd.keeps) hy
  obtain ⟨-, a, c, rfl, -, -⟩ := h.open
  obtain ⟨-, a2, c2, rfl, -, -⟩ := hu.open
  obtain ⟨z, HZ⟩ : ∃ z, Hid (z = hasW ls way) := ⟨_, rfl⟩
  rw [← HZ.out] at HK ⊢
  clear h hu
  go_enter Tryd.func7, Tryd.ntmps7
  go_wp2_with fail
  refine (HK.out _ ?_ ?_).mono ?_
  · (repeat (first | with_reducible exact Below.refl _ _ | with_reducible refine Below.setCell ?_ (by first | omega | (simp; omega) | (simp; done)) _ | with_reducible refine Below.alloc ?_ (by first | omega | (simp; omega) | (simp; done)) _ | with_reducible refine below_drewN ?_ _ | with_reducible refine Below.drew ?_))
  · simp [go_sem]
  · rintro e w1 ⟨rfl, hd⟩
    have HB : Hid (Below w.heap.size w w1) := below_step (by (repeat (first | with_reducible exact Below.refl _ _ | with_reducible refine Below.setCell ?_ (by first | omega | (simp; omega) | (simp; done)) _ | with_reducible refine Below.alloc ?_ (by first | omega | (simp; omega) | (simp; done)) _ | with_reducible refine below_drewN ?_ _ | with_reducible refine Below.drew ?_))) hd.below (by simp; omega)
    clear hd
    go_wp2_with fail
    go_ret
    exact ⟨rfl, HB.out⟩
end Go.Proofs.YtmngpfnjomhhcaaDoor
namespace Go.Proofs.YtmngpfnjomhhcaaDoor
open Go.RowKit
/-- the operation, of two types, by its run -/
theorem wp_append2_eq {P : Program} {w : World} {o : Oper} {a : Act} {K : Act → World → Prop} {Q : Exit → Act → World → Prop} (s x : Operand) (t u : TypeId)
    (ho : o.op = .call { callee := .builtin .append, args := #[s, x], argTypes := #[t, u] }) (v xv : Value) (hs : a.eval s = v) (hx : a.eval x = xv) {v' : Value} {w' : World}
    (hr : (Builtin.append_ #[t, u] o.type #[v, xv]).run P w = .ok v' w') (h : K (a.put o.dst v') w') : o.wp P a w K Q := by
  unfold Oper.wp execOp
  simp only [ho, resolve, invoke, builtin, Sem.run_bind, Sem.run_pure, Result.andThen_ok, List.map_toArray, List.map_cons, List.map_nil, hs, hx, hr]
  exact h
theorem wpList_append2_eq {P : Program} {w : World} {ops : Array Oper} {rest : List Oper} {o : Oper} {a : Act} {Q : Exit → Act → World → Prop} (hgd : o.guard = none) (s x : Operand) (t u : TypeId)
    (ho : o.op = .call { callee := .builtin .append, args := #[s, x], argTypes := #[t, u] }) (v xv : Value) (hs : a.eval s = v) (hx : a.eval x = xv) {v' : Value} {w' : World}
    (hr : (Builtin.append_ #[t, u] o.type #[v, xv]).run P w = .ok v' w') (h : wpList P ops Q rest (a.put o.dst v') w') : wpList P ops Q (o :: rest) a w :=
  wpList_plain hgd fun _ hK => wp_append2_eq s x t u ho v xv hs hx hr (hK _ _ h)
theorem wpListIn_append2_eq {F : Fence} {n : Nat} {P : Program} {w : World} {ops : Array Oper} {rest : List Oper} {o : Oper} {a : Act} {Q : Exit → Act → World → Prop} (hgd : o.guard = none) (s x : Operand) (t u : TypeId)
    (ho : o.op = .call { callee := .builtin .append, args := #[s, x], argTypes := #[t, u] }) (v xv : Value) (hs : a.eval s = v) (hx : a.eval x = xv) {v' : Value} {w' : World}
    (hr : (Builtin.append_ #[t, u] o.type #[v, xv]).run P w = .ok v' w') (h : wpListIn F n P ops Q rest (a.put o.dst v') w') : wpListIn F n P ops Q (o :: rest) a w := by
  refine wpListIn_plain hgd fun K hK => ?_
  unfold Oper.wpIn
  refine ⟨?_, ?_⟩
  · simp [Oper.about, ho, resolve, Target.leads, Sem.run_pure]
  · rw [Oper.semAt_plain F _ _ (by rw [ho]; intro c hc'; cases hc')]
    simp [execOp, ho, resolve, invoke, builtin, hs, hx, hr, Result.andThen]
    exact hK _ _ h
end Go.Proofs.YtmngpfnjomhhcaaDoor
namespace Go.Proofs.YtmngpfnjomhhcaaDoor
open Go.RowKit
/-- A [][]int of the call's own: its cells. -/
def WaysRow (w : World) (base : Nat) (v : Value) (vs : List Value) : Prop := w.ownsRow base 23 1 v vs.length vs
set_option maxRecDepth 100000 in
set_option maxHeartbeats 4000000 in
theorem clone_ways {w : World} {v : Value} {vs : List Value} (h : Seg w v 1 vs.length vs) (h1 : ∀ u ∈ vs, u.oneCell' = true) (hl : vs.length ≤ 1099511627776) :
    Calls Tryd.prog 13 #[v] w fun e w' => ∃ v', e = .returned v' ∧ WaysRow w' w.heap.size v' vs ∧ Below w.heap.size w w' := by
  have H := hid h
  obtain ⟨-, -, a, cap, rfl, -, -, hnil, -⟩ := h
  obtain ⟨n, HN⟩ : ∃ n, Hid (n = vs.length) := ⟨_, rfl⟩
  rw [← HN.out] at hl H ⊢
  cases a with
  | none =>
    have := hnil rfl
    have HE : Hid (vs = []) := List.eq_nil_of_length_eq_zero (by have := HN.out; obtain ⟨-, -, a', c', e, h1, -⟩ := H.out; cases e; omega)
    clear hl
    go_enter Tryd.func13, Tryd.ntmps13
    have eqn := fun W a n c n' c' => Lib.run_eql_slice_nil (P := Tryd.prog) W 22 _ a n c n' c' under_ways
    go_wp2
    go_ret
    refine ⟨_, rfl, ?_, Below.refl _ _⟩
    rw [HE.out]
    exact World.ownsRow_nil _ _ _ _
  | some ad =>
    have hO : WaysRow (w.alloc (.cells #[] 23)) w.heap.size (.slice (some ⟨w.heap.size, 0, none⟩) 0 0) [] := by
      exact World.ownsRow_made (base := w.heap.size) (e := 23) (size := 1) w #[] 0 (Nat.le_refl _) (by unfold maxLen; omega) rfl
    obtain ⟨v', w', hr, hO', hg, -⟩ := seg_append (P := Tryd.prog) _ w.heap.size 22 22 23 (.slice none 0 0) 1 24 under_ways info_ints rfl (by decide) _ _ _ n _ _ hO (H.out.below ((Below.refl _ _).alloc (Nat.le_refl _) _))
      h1 (by simp; omega) (by simp; omega) (by simp)
    have hg' : Below w.heap.size w w' := ((Below.refl w.heap.size w).alloc (Nat.le_refl _) (.cells #[] 23)).grown hg (by simp) (by intro q e; simp [Value.ownBlock] at e; omega)
    have HO : Hid (WaysRow w' w.heap.size v' vs) := by
      unfold Hid WaysRow; rw [← HN.out]; simpa using hO'
    have HG := hid hg'
    clear hO' hg' hg hO h1
    go_enter Tryd.func13, Tryd.ntmps13
    have eqn := fun W a n c n' c' => Lib.run_eql_slice_nil (P := Tryd.prog) W 22 _ a n c n' c' under_ways
    go_wp2_with (at_builtin; refine wpList_append_eq rfl _ _ _ rfl _ _ rfl rfl hr ?_)
    go_ret
    exact ⟨_, rfl, HO.out, HG.out⟩
end Go.Proofs.YtmngpfnjomhhcaaDoor
namespace Go.Proofs.YtmngpfnjomhhcaaDoor
open Go.RowKit Go.Sort Go.Shelf
/-- what leaves w's old blocks as they were -/
theorem below_sortWorld {α : Type} [Inhabited α] (enc : α → Value) {H blk off m : Nat} {w0 w : World} (hb : Go.RowKit.Below H w0 w) (hg : H ≤ blk) (hH : H ≤ w.heap.size) (dk : Array α) (os : Array Obj) :
    Go.RowKit.Below H w0 (sortWorld enc w blk off m dk os) := by
  refine ⟨hb.os, hb.tape, hb.output, ?_, fun k hk => ?_⟩
  · refine Nat.le_trans hb.size ?_
    rw [sortWorld, size_grow, size_putRow]
    exact Nat.le_add_right _ _
  · rw [sortWorld, heap_grow_old _ _ (by rw [size_putRow]; exact Nat.lt_of_lt_of_le hk hH)]
    refine Eq.trans ?_ (hb.block k hk)
    rw [putRow, mapBlock]
    show (w.heap.modify blk _)[k]? = _
    rw [Array.getElem?_modify, if_neg (by omega)]
/-- a way's value, and the way -/
def WV (w : World) : Type := { p : Value × List Int // IntsAt w p.1 p.2 }
def WV.val {w : World} (p : WV w) : Value := p.1.1
def WV.way {w : World} (p : WV w) : List Int := p.1.2
def WV.mk {w : World} (v : Value) (x : List Int) (h : IntsAt w v x) : WV w := ⟨(v, x), h⟩
theorem WV.way_mk {w : World} (v : Value) (x : List Int) (h : IntsAt w v x) : (WV.mk v x h).way = x := rfl
theorem WV.val_mk {w : World} (v : Value) (x : List Int) (h : IntsAt w v x) : (WV.mk v x h).val = v := rfl
theorem WV.one {w : World} (p : WV w) : (WV.val p).oneCell' = true := by
  obtain ⟨-, a, c, h, -⟩ := p.2.open
  unfold WV.val
  rw [h]; rfl
theorem ltW_ntrans (a b c : List Int) (h1 : ltW a b = false) (h2 : ltW b c = false) : ltW a c = false := by
  cases h : ltW a c with
  | false => rfl
  | true =>
    cases hba : ltW b a with
    | true => rw [ltW_trans b a c hba h] at h2; cases h2
    | false =>
      have e := ltW_total a b h1 hba
      subst e
      rw [h] at h2; cases h2
def cmpWV {w : World} (x y : WV w) : Int := cmpW x.way y.way
theorem ltOf_cmpWV {w : World} (x y : WV w) : ltOf (cmpWV (w := w)) x y = ltW x.way y.way := cmpW_lt _ _
theorem swo_WV (w : World) : SWO (ltOf (cmpWV (w := w))) where
  irrefl x := by rw [ltOf_cmpWV]; exact ltW_irrefl _
  trans x y z h1 h2 := by rw [ltOf_cmpWV] at *; exact ltW_trans _ _ _ h1 h2
  ntrans x y z h1 h2 := by rw [ltOf_cmpWV] at *; exact ltW_ntrans _ _ _ h1 h2
theorem pairwise_of_get {α : Type} [Inhabited α] {R : α → α → Prop} (l : List α) (h : ∀ i j, i < j → j < l.length → R l.toArray[i]! l.toArray[j]!) : l.Pairwise R := by
  rw [List.pairwise_iff_getElem]
  intro i j hi hj hij
  have := h i j hij hj
  rwa [getElem!_pos l.toArray i (by simpa using hi), getElem!_pos l.toArray j (by simpa using hj)] at this
set_option maxHeartbeats 1000000 in
theorem sort_ways {w0 w : World} {base : Nat} {v : Value} (ps : List (WV w0)) (hne : ps ≠ []) (hO : WaysRow w base v (ps.map WV.val)) (hbase : w0.heap.size ≤ base) (hb : Go.RowKit.Below w0.heap.size w0 w) (hlen : ps.length ≤ 1099511627776) :
    Calls Tryd.prog 14 #[v, .func (.func 15) #[] #[]] w fun e w' => e = .returned (.tuple #[]) ∧
      ∃ ps' : List (WV w0), ps'.Perm ps ∧ (ps'.map WV.way).Pairwise (fun a b => ltW b a = false) ∧ Seg w' v 1 ps'.length (ps'.map WV.val) ∧ Go.RowKit.Below w0.heap.size w0 w' := by
  haveI : Inhabited (WV w0) := ⟨ps.head hne⟩
  have hpos : 0 < ps.length := List.length_pos_iff.2 hne
  obtain ⟨h1, hx⟩ := hO
  rcases hx with ⟨-, h2⟩ | ⟨g, cap, cur, rfl, hg, hc, hnc, hcm, hcs, ht⟩
  · simp at h2; exact absurd h2 hne
  have hcell : ∀ j (x : WV w0), ps[j]? = some x → w.cell? ⟨g, j, none⟩ = some x.val := by
    intro j x hj
    rw [cell_of_row _ _ _ cur _ (0, 0) hc]
    have hjl : j < ps.length := (List.getElem?_eq_some_iff.1 hj).1
    have e : (cur.toList.take ((ps.map WV.val).length * 1))[j]? = (ps.map WV.val)[j]? := by rw [ht]
    rw [List.getElem?_take, if_pos (by simpa using hjl)] at e
    rw [← Array.getElem?_toList, e]
    simp [hj]
  have hget : ∀ j, j < ps.length → ps[j]? = some ps.toArray[j]! := fun j hj => by
    rw [getElem!_pos ps.toArray j (by simpa using hj), List.getElem?_eq_getElem hj]; simp
  have hH : Holds WV.val w g 0 ps.toArray := fun j hj => by
    have hj' : j < ps.length := by simpa using hj
    rw [Nat.zero_add]
    refine ⟨hcell j _ (hget j hj'), ?_⟩
    unfold World.frozen?
    rw [hc]; simp
  have hgl : g < w.heap.size := (Array.getElem?_eq_some_iff.1 hc).1
  have hH0 : w0.heap.size ≤ w.heap.size := hb.size
  have key := Any.slices_SortFunc Tryd.laysSF WV.val WV.one (cmpWV (w := w0)) (swo_WV w0) 15 #[] g 0 cap ps.toArray w (fun args w => by simp [go_sem])
    (fun m os dk _ x y => (compare_ints ((x.2).keep (below_keeps (below_sortWorld WV.val hb (Nat.le_trans hbase hg) hH0 dk os))) ((y.2).keep (below_keeps (below_sortWorld WV.val hb (Nat.le_trans hbase hg) hH0 dk os)))).mono
      fun e w' ⟨he, hw⟩ => ⟨he, 0, #[], by rw [hw, grow_empty]; rfl⟩)
    hH hgl (by simp; omega)
  have key2 : Calls Tryd.prog 14 #[.slice (some ⟨g, 0, none⟩) ps.length cap, .func (.func 15) #[] #[]] w _ := key
  rw [List.length_map]
  refine key2.mono ?_
  rintro e w' ⟨rfl, d', n, os, hp, hs, rfl⟩
  obtain ⟨hp1, -, hp3⟩ := hp
  have hsz : d'.toList.length = ps.length := by simpa using hp1
  have hd : d' = d'.toList.toArray := by simp
  refine ⟨rfl, d'.toList, ?_, ?_, ⟨by simp, by rw [hsz]; omega, some ⟨g, 0, none⟩, cap, by rw [hsz], by rw [hsz]; simpa using hnc, by unfold maxLen at hcm; omega, by simp, fun j u hu => ⟨g, 0, rfl, ?_⟩⟩, below_sortWorld WV.val hb (Nat.le_trans hbase hg) hH0 d' os⟩
  · have e1 : (d'.extract 0 ps.toArray.size).toList = d'.toList := by
      rw [Array.toList_extract]; simp [← hsz]; exact List.take_of_length_le (by simp)
    have e2 : (ps.toArray.extract 0 ps.toArray.size).toList = ps := by simp
    rwa [e1, e2] at hp3
  · rw [List.pairwise_map]
    refine pairwise_of_get _ fun i j hij hj => ?_
    have := hs i j (Nat.zero_le _) hij (by simpa [hsz] using hj)
    rw [ltOf_cmpWV] at this
    simpa using this
  · have hj : j < d'.size := by
      have := (List.getElem?_eq_some_iff.1 hu).1
      simpa using this
    have hh := holds_sortWorld WV.val w g 0 n ps.toArray d' os hgl hH (by simpa using hp1) j hj
    rw [hh.1]
    rw [List.getElem?_map] at hu
    rw [← hu, getElem!_pos d' j hj]
    simp [hj]
set_option maxRecDepth 100000 in
set_option maxHeartbeats 4000000 in
theorem insert_none (a : Option Addr) (c : Nat) (fv : Value) (w : World) :
    Calls Tryd.prog 32 #[.slice a 0 c, .int .i64 0, .int .i64 0, fv] w fun e w' => e = .returned (.tuple #[]) ∧ w = w' := by
  go_enter Tryd.func32, Tryd.ntmps32
  go_wp2
  refine wp_loop_rounds 1 ?_
  rw [rounds_succ]
  go_wp2
  go_end0
  exact ⟨rfl, rfl⟩
set_option maxRecDepth 100000 in
set_option maxHeartbeats 4000000 in
theorem pdq_none (a : Option Addr) (c : Nat) (lim : Int) (fv : Value) (w : World) :
    Calls Tryd.prog 23 #[.slice a 0 c, .int .i64 0, .int .i64 0, .int .i64 lim, fv] w fun e w' => e = .returned (.tuple #[]) ∧ w = w' := by
  go_enter Tryd.func23, Tryd.ntmps23
  go_wp2
  refine wp_loop_rounds 1 ?_
  rw [rounds_succ]
  go_wp2_with (go_at_call 32; refine (insert_none _ _ _ _).mono ?_; rintro e w' ⟨rfl, rfl⟩)
  (try simp only [Exit.inBlock, Exit.then]); refine bodyPost_ret (results_none rfl _ _ _) rfl ?_
  exact ⟨rfl, rfl⟩
set_option maxRecDepth 100000 in
set_option maxHeartbeats 4000000 in
theorem sort_none (a : Option Addr) (c : Nat) (F : Nat) (w : World) :
    Calls Tryd.prog 14 #[.slice a 0 c, .func (.func F) #[] #[]] w fun e w' => e = .returned (.tuple #[]) ∧ w = w' := by
  go_enter Tryd.func14, Tryd.ntmps14
  go_wp2_with (first | (go_at_call 24; refine (Tryd.bits_Len 0 _ (by omega) (by omega)).mono ?_; rintro e w' ⟨rfl, rfl⟩) | (go_at_call 23; refine (pdq_none _ _ _ _ _).mono ?_; rintro e w' ⟨rfl, rfl⟩))
  go_end0
  exact ⟨rfl, rfl⟩
/-- .. whatever the list -/
theorem sort_ways_any {w0 w : World} {base : Nat} {v : Value} (ps : List (WV w0)) (hO : WaysRow w base v (ps.map WV.val)) (hbase : w0.heap.size ≤ base) (hb : Go.RowKit.Below w0.heap.size w0 w) (hlen : ps.length ≤ 1099511627776) :
    Calls Tryd.prog 14 #[v, .func (.func 15) #[] #[]] w fun e w' => e = .returned (.tuple #[]) ∧
      ∃ ps' : List (WV w0), ps'.Perm ps ∧ (ps'.map WV.way).Pairwise (fun a b => ltW b a = false) ∧ Seg w' v 1 ps'.length (ps'.map WV.val) ∧ Go.RowKit.Below w0.heap.size w0 w' := by
  by_cases hne : ps = []
  · subst hne
    have hs := row_seg hO (by simp)
    obtain ⟨-, -, a, c, rfl, -⟩ := hs
    refine (sort_none a c _ w).mono ?_
    rintro e w' ⟨rfl, rfl⟩
    exact ⟨rfl, [], List.Perm.refl _, by simp, row_seg hO (by simp), hb⟩
  · exact sort_ways ps hne hO hbase hb hlen
end Go.Proofs.YtmngpfnjomhhcaaDoor
namespace Go.Proofs.YtmngpfnjomhhcaaDoor
open Go.RowKit
/-- P holds in each world that agrees with w on the blocks below n0 and on those from base on. -/
def Apart (n0 base : Nat) (w : World) (P : World → Prop) : Prop := ∀ w', (∀ b, b < w.heap.size → (b < n0 ∨ base ≤ b) → w'.heap[b]? = w.heap[b]?) → P w'
theorem Apart.here {n0 base : Nat} {w : World} {P : World → Prop} (h : Apart n0 base w P) : P w := h w fun _ _ _ => rfl
theorem Apart.later {n0 base : Nat} {w w2 : World} {P : World → Prop} (h : Apart n0 base w P) (hb : Below w.heap.size w w2) : Apart n0 base w2 P := fun w' hw' => h w' fun b hlt hc => (hw' b (Nat.lt_of_lt_of_le hlt hb.size) hc).trans (hb.block b hlt)
theorem Apart.mono {n0 base base' : Nat} {w : World} {P : World → Prop} (h : Apart n0 base w P) (hb : base' ≤ base) : Apart n0 base' w P := fun w' hw' => h w' fun b hlt hc => hw' b hlt (hc.imp id fun h => Nat.le_trans hb h)
def RowsOwn {α : Type} (P : World → List Value → α → Prop) (T : TypeId) (k n0 base : Nat) (w : World) (v : Value) (l : List α) : Prop :=
  ∃ rows : List (List Value), rows.length = l.length ∧ (∀ r ∈ rows, r.length = k) ∧ w.ownsRow base T k v l.length rows.flatten ∧
    ∀ w', (∀ b, b < w.heap.size → v.ownBlock ≠ some b → (b < n0 ∨ base ≤ b) → w'.heap[b]? = w.heap[b]?) → ∀ (i : Nat) (r : List Value) (x : α), rows[i]? = some r → l[i]? = some x → P w' r x
theorem RowsOwn.nil {α : Type} (P : World → List Value → α → Prop) (T : TypeId) (k n0 base : Nat) (w : World) : RowsOwn P T k n0 base w (.slice none 0 0) [] :=
  ⟨[], rfl, by simp, World.ownsRow_nil _ _ _ _, fun _ _ i r x h => by simp at h⟩
theorem RowsOwn.later {α : Type} {P : World → List Value → α → Prop} {T : TypeId} {k n0 base : Nat} {w w2 : World} {v : Value} {l : List α} (h : RowsOwn P T k n0 base w v l)
    (hw : ∀ b, b < w.heap.size → (b < n0 ∨ base ≤ b) → w2.heap[b]? = w.heap[b]?) (hs : w.heap.size ≤ w2.heap.size) : RowsOwn P T k n0 base w2 v l := by
  obtain ⟨rows, h1, h2, h3, h4⟩ := h
  refine ⟨rows, h1, h2, row_keep h3 fun b cur hb he => hw b (Array.getElem?_eq_some_iff.1 he).1 (.inr hb), fun w' hw' => h4 w' fun b hlt hne hc => (hw' b (by omega) hne hc).trans (hw b hlt hc)⟩
theorem RowsOwn.below {α : Type} {P : World → List Value → α → Prop} {T : TypeId} {k n0 base : Nat} {w w2 : World} {v : Value} {l : List α} (h : RowsOwn P T k n0 base w v l) (hb : Below w.heap.size w w2) : RowsOwn P T k n0 base w2 v l :=
  h.later (fun b hlt _ => hb.block b hlt) hb.size
theorem RowsOwn.form {α : Type} {P : World → List Value → α → Prop} {T : TypeId} {k n0 base : Nat} {w : World} {v : Value} {l : List α} (h : RowsOwn P T k n0 base w v l) : ∃ a c, v = .slice a l.length c := by
  obtain ⟨rows, -, -, h3, -⟩ := h
  rcases h3.2 with ⟨rfl, h0⟩ | ⟨g, cap, cur, rfl, _⟩
  · exact ⟨none, 0, by rw [h0]⟩
  · exact ⟨_, _, rfl⟩
theorem RowsOwn.at {α : Type} {P : World → List Value → α → Prop} {T : TypeId} {k n0 base : Nat} {w : World} {v : Value} {l : List α} (h : RowsOwn P T k n0 base w v l) (hl : l.length ≤ 140737488355328) {w' : World}
    (hw : ∀ b, b < w.heap.size → (b < n0 ∨ base ≤ b) → w'.heap[b]? = w.heap[b]?) : RowsAt P k w' v l := by
  obtain ⟨rows, h1, h2, h3, h4⟩ := h
  exact ⟨rows, h1, h2, row_seg (row_keep h3 fun b cur hb he => hw b (Array.getElem?_eq_some_iff.1 he).1 (.inr hb)) hl, fun i r x hr hx => h4 w' (fun b hlt _ hc => hw b hlt hc) i r x hr hx⟩
/-- one element more, laid in a block of its own (at w.heap.size) -/
theorem RowsOwn.append' {α : Type} {P : World → List Value → α → Prop} {T : TypeId} {k n0 base : Nat} {w : World} {v : Value} {l : List α} (h : RowsOwn P T k n0 base w v l) (hk : 0 < k)
    {G : Program} (t : TypeId) (z : Value) (bytes : Nat) (ht : G.underlying t = some (.slice T)) (hinfo : (G.info? T).map (fun i => (i.zero, i.size, i.bytes)) = some (some z, k, bytes)) (hzs : z.cells.size = k)
    (cells : Array Value) (hr : cells.size = k) (h1 : ∀ u ∈ cells.toList, u.oneCell' = true) (x : α)
    (hP : ∀ w', (∀ b, b < w.heap.size → v.ownBlock ≠ some b → (b < n0 ∨ base ≤ b) → w'.heap[b]? = w.heap[b]?) → P w' cells.toList x) (hlen : l.length ≤ 1099511627776) (hby : bytes ≤ 120) (hbase : base ≤ w.heap.size) :
    ∃ v' w', (Builtin.append_ #[t, t] t #[v, .slice (some ⟨w.heap.size, 0, none⟩) 1 1]).run G (w.alloc (.cells cells T)) = .ok v' w' ∧ RowsOwn P T k n0 base w' v' (l ++ [x]) ∧
      (w.alloc (.cells cells T)).grownBy w' v.ownBlock ∧ (v'.ownBlock = v.ownBlock ∨ v'.ownBlock = some (w.alloc (.cells cells T)).heap.size) := by
  obtain ⟨rows, g1, g2, g3, g4⟩ := h
  have hseg : Seg (w.alloc (.cells cells T)) (.slice (some ⟨w.heap.size, 0, none⟩) 1 1) k 1 cells.toList := by
    refine ⟨by simp [hr], by omega, some ⟨w.heap.size, 0, none⟩, 1, rfl, Nat.le_refl _, by omega, by simp, fun j u hu => ⟨_, _, rfl, ?_⟩⟩
    rw [Nat.zero_add, cell_of_row _ _ _ cells T (0, 0) (heap_alloc_new w _)]
    simpa using hu
  have hb1 : (l.length + 1) * bytes ≤ 140737488355328 := Nat.le_trans (Nat.mul_le_mul_left _ hby) (by omega)
  obtain ⟨v', w', hrun, hO, hg, hat⟩ := seg_append (P := G) (w.alloc (.cells cells T)) base t t T z k bytes ht hinfo hzs hk v _ l.length 1 rows.flatten cells.toList
    (World.ownsRow.alloc g3 _) hseg h1 (by omega) hb1 (by simp; omega)
  refine ⟨v', w', hrun, ⟨rows ++ [cells.toList], by simp [g1], ?_, by simpa using hO, ?_⟩, hg, hat⟩
  · intro r hr'
    rcases List.mem_append.1 hr' with h | h
    · exact g2 r h
    · simp at h; subst h; simpa using hr
  · intro w2 hw2
    have hsz : w.heap.size + 1 ≤ w'.heap.size := by have := hg.size; simpa using this
    have hold : ∀ b, b < w.heap.size → v.ownBlock ≠ some b → (b < n0 ∨ base ≤ b) → w2.heap[b]? = w.heap[b]? := by
      intro b hlt hne hc
      have hne' : v'.ownBlock ≠ some b := by
        rcases hat with e | e
        · rw [e]; exact hne
        · rw [e]; intro e2; simp at e2; omega
      exact ((hw2 b (by omega) hne' hc).trans (hg.block b (by simp; omega) (fun e => hne e.symm))).trans (Below.heap_alloc w _ b hlt)
    intro i r y hri hyi
    by_cases hil : i < l.length
    · rw [List.getElem?_append_left (by omega)] at hri
      rw [List.getElem?_append_left hil] at hyi
      exact g4 w2 hold i r y hri hyi
    · have hi : i = l.length := by
        have := (List.getElem?_eq_some_iff.1 hyi).1
        simp at this; omega
      subst hi
      rw [← g1, List.getElem?_concat_length] at hri
      rw [List.getElem?_concat_length] at hyi
      cases hri
      cases hyi
      exact hP w2 hold
/-- .. whose parts lie apart from the list -/
theorem RowsOwn.append {α : Type} {P : World → List Value → α → Prop} {T : TypeId} {k n0 base : Nat} {w : World} {v : Value} {l : List α} (h : RowsOwn P T k n0 base w v l) (hk : 0 < k) (hn0 : n0 ≤ base)
    {G : Program} (t : TypeId) (z : Value) (bytes : Nat) (ht : G.underlying t = some (.slice T)) (hinfo : (G.info? T).map (fun i => (i.zero, i.size, i.bytes)) = some (some z, k, bytes)) (hzs : z.cells.size = k)
    (cells : Array Value) (hr : cells.size = k) (h1 : ∀ u ∈ cells.toList, u.oneCell' = true) (x : α) (nb : Nat) (hnb : ∀ b, v.ownBlock = some b → b < nb) (hbn : base ≤ nb)
    (hP : Apart n0 nb w fun w' => P w' cells.toList x) (hlen : l.length ≤ 1099511627776) (hby : bytes ≤ 120) (hbase : base ≤ w.heap.size) :
    ∃ v' w', (Builtin.append_ #[t, t] t #[v, .slice (some ⟨w.heap.size, 0, none⟩) 1 1]).run G (w.alloc (.cells cells T)) = .ok v' w' ∧ RowsOwn P T k n0 base w' v' (l ++ [x]) ∧
      (w.alloc (.cells cells T)).grownBy w' v.ownBlock ∧ (v'.ownBlock = v.ownBlock ∨ v'.ownBlock = some (w.alloc (.cells cells T)).heap.size) := by
  have g3 := h
  obtain ⟨rows, -, -, g3, -⟩ := g3
  refine h.append' hk t z bytes ht hinfo hzs cells hr h1 x (fun w2 hold => hP w2 fun b hlt hc => hold b hlt ?_ (hc.imp id fun h => Nat.le_trans hbn h)) hlen hby hbase
  intro e
  have := hnb b e
  rcases hc with hc | hc
  · have hb2 : base ≤ b := by
      rcases g3.2 with ⟨rfl, _⟩ | ⟨g, cap, cur, rfl, hb, _⟩
      · simp [Value.ownBlock] at e
      · simp [Value.ownBlock] at e; omega
    omega
  · omega
theorem RowsOwn.own {α : Type} {P : World → List Value → α → Prop} {T : TypeId} {k n0 base : Nat} {w : World} {v : Value} {l : List α} (h : RowsOwn P T k n0 base w v l) (b : Nat) (e : v.ownBlock = some b) : base ≤ b ∧ b < w.heap.size := by
  obtain ⟨rows, -, -, h3, -⟩ := h
  rcases h3.2 with ⟨rfl, h0⟩ | ⟨g, cap, cur, rfl, hb, hg, _⟩
  · simp [Value.ownBlock] at e
  · simp [Value.ownBlock] at e
    subst e
    exact ⟨hb, (Array.getElem?_eq_some_iff.1 hg).1⟩
/-- a call that lays a new element, the element's block, the append -/
theorem RowsOwn.step {α : Type} {P : World → List Value → α → Prop} {T : TypeId} {k n0 base i : Nat} {wr w1 : World} {oa : Option Addr} {oc : Nat} {l : List α} (h : RowsOwn P T k n0 base wr (.slice oa i oc) l) (hb : Below wr.heap.size wr w1) (hk : 0 < k) (hn0 : n0 ≤ base) (hbs : base ≤ wr.heap.size) (hil : l.length = i)
    {G : Program} (t : TypeId) (z : Value) (bytes : Nat) (ht : G.underlying t = some (.slice T)) (hinfo : (G.info? T).map (fun i => (i.zero, i.size, i.bytes)) = some (some z, k, bytes)) (hzs : z.cells.size = k)
    (cells : Array Value) (hr : cells.size = k) (h1 : ∀ u ∈ cells.toList, u.oneCell' = true) (x : α) (hP : Apart n0 wr.heap.size w1 fun w' => P w' cells.toList x) (hlen : i ≤ 1099511627776) (hby : bytes ≤ 120) :
    ∃ a' c' w5, (Builtin.append_ #[t, t] t #[.slice oa i oc, .slice (some ⟨w1.heap.size, 0, none⟩) 1 1]).run G (w1.alloc (.cells cells T)) = .ok (.slice a' (i + 1) c') w5 ∧ RowsOwn P T k n0 base w5 (.slice a' (i + 1) c') (l ++ [x]) ∧
      Below base wr (w1.alloc (.cells cells T)) ∧ Below base wr w5 := by
  have hs := hb.size
  have hB1 : Below base wr (w1.alloc (.cells cells T)) := (hb.mono hbs).alloc (by omega) _
  obtain ⟨v', w', hrun, hO, hg, -⟩ := (h.below hb).append hk hn0 t z bytes ht hinfo hzs cells hr h1 x wr.heap.size (fun b e => (h.own b e).2) hbs hP (by omega) hby (by omega)
  obtain ⟨a', c', rfl⟩ := hO.form
  rw [List.length_append, List.length_singleton, hil] at *
  exact ⟨a', c', w', hrun, hO, hB1, hB1.grown hg (by have := hB1.size; omega) fun q e => (h.own q e).1⟩
/-- the element's block, the append; its parts lie elsewhere than the list -/
theorem RowsOwn.step' {α : Type} {P : World → List Value → α → Prop} {T : TypeId} {k n0 base i : Nat} {wr : World} {oa : Option Addr} {oc : Nat} {l : List α} (h : RowsOwn P T k n0 base wr (.slice oa i oc) l) (hk : 0 < k) (hbs : base ≤ wr.heap.size) (hil : l.length = i)
    {G : Program} (t : TypeId) (z : Value) (bytes : Nat) (ht : G.underlying t = some (.slice T)) (hinfo : (G.info? T).map (fun i => (i.zero, i.size, i.bytes)) = some (some z, k, bytes)) (hzs : z.cells.size = k)
    (cells : Array Value) (hr : cells.size = k) (h1 : ∀ u ∈ cells.toList, u.oneCell' = true) (x : α)
    (hP : ∀ w', (∀ b, b < wr.heap.size → (Value.slice oa i oc).ownBlock ≠ some b → (b < n0 ∨ base ≤ b) → w'.heap[b]? = wr.heap[b]?) → P w' cells.toList x) (hlen : i ≤ 1099511627776) (hby : bytes ≤ 120) :
    ∃ a' c' w5, (Builtin.append_ #[t, t] t #[.slice oa i oc, .slice (some ⟨wr.heap.size, 0, none⟩) 1 1]).run G (wr.alloc (.cells cells T)) = .ok (.slice a' (i + 1) c') w5 ∧ RowsOwn P T k n0 base w5 (.slice a' (i + 1) c') (l ++ [x]) ∧
      Below base wr w5 ∧ (wr.alloc (.cells cells T)).grownBy w5 (Value.slice oa i oc).ownBlock ∧ ((Value.slice a' (i + 1) c').ownBlock = (Value.slice oa i oc).ownBlock ∨ (Value.slice a' (i + 1) c').ownBlock = some (wr.alloc (.cells cells T)).heap.size) := by
  have hB1 : Below base wr (wr.alloc (.cells cells T)) := (Below.refl _ _).alloc hbs _
  obtain ⟨v', w', hrun, hO, hg, hat⟩ := h.append' hk t z bytes ht hinfo hzs cells hr h1 x hP (by omega) hby (by omega)
  obtain ⟨a', c', rfl⟩ := hO.form
  rw [List.length_append, List.length_singleton, hil] at *
  exact ⟨a', c', w', hrun, hO, hB1.grown hg (by have := hB1.size; omega) fun q e => (h.own q e).1, hg, hat⟩
end Go.Proofs.YtmngpfnjomhhcaaDoor
