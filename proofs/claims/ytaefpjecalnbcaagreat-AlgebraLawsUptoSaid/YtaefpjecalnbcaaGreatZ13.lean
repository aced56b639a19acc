/- Maps of the call's own from ints to values of a meaning: gone through in any order (Rng), and what lies in them (MapV). At most 2^30 entries. Plain: the one message of a field of one message; the root of a right meaning. No condition. append onto a row of the call's own, whatever is appended (a string's bytes too), as an equation of the run. No condition. A []string of the call's own (StrsOwn): one more string appended. At most 2^40 strings. bits.Word, darningref01.Word: the word of at most eight bytes (wordOf). No condition. Canonical words and their bytes: kind.Canon, darningref06.Canon (kcanon), bits.Little, darningref01.Little (little), scalar.Put, darningref08.Put (kput), run.Pack, darningref09.Pack (kpack). The kind is a number's; words are below 2^64; a list's length is at most 2^36. Bytes of canonical words: bits.Little, darningref01.Little (little), scalar.Put, darningref08.Put (kput), run.Pack, darningref09.Pack (kpack). The kind is a number's; words are below 2^64; a list's length is at most 2^36. scalar.Read, darningref08.Read, darningref05.Fits: a number's bytes (kread). The kind is a number's. -/
import Derived.Test.YtaefpjecalnbcaaGreatZ01
import Derived.Test.YtaefpjecalnbcaaGreatZ02
import Derived.Test.YtaefpjecalnbcaaGreatZ07
import Derived.Test.YtaefpjecalnbcaaGreatZ08
import Derived.Test.YtaefpjecalnbcaaGreatZ09
import Derived.Test.YtaefpjecalnbcaaGreatZ10
import Derived.Test.YtaefpjecalnbcaaGreatZ11
import Derived.Test.YtaefpjecalnbcaaGreatZ12
import Derived.Maps.RangeWalk
import Derived.Deep.AppendSrc
import Derived.Maps.AppendAt
import Derived.OwnWalk
import Derived.OwnWalkIn
import Derived.Deep.AppendLies
import Derived.Deep.RegionHeld3
import Derived.Deep.DeepCutAuto
namespace Go.Proofs.YtaefpjecalnbcaaGreat
open Go.RowKit Go.Maps Go.Sort Go.Shelf
/-- a value of a field, as it lies in a map's entry -/
structure VS where
  n : Int
  a1 : Option Addr
  n1 : Nat
  c1 : Nat
  a2 : Option Addr
  n2 : Nat
  c2 : Nat
  a3 : Option Addr
  n3 : Nat
  c3 : Nat
def VS.val (c : VS) : Value := .agg #[.int .i64 c.n, .slice c.a1 c.n1 c.c1, .slice c.a2 c.n2 c.c2, .slice c.a3 c.n3 c.c3]
open Classical in
noncomputable def RV (v : Value) : Option (DataW Value × List MemPlace) := if ∃ c : VS, v = c.val then some (.held v, []) else none
theorem RV_val (c : VS) : RV c.val = some (.held c.val, []) := if_pos ⟨c, rfl⟩
theorem RV_inv {v : Value} {y : DataW Value × List MemPlace} (h : RV v = some y) : (∃ c : VS, v = c.val) ∧ y = (.held v, []) := by
  unfold RV at h
  split at h
  · rename_i hc
    injection h with h
    exact ⟨hc, h.symm⟩
  · cases h
theorem getOf_iff {es : List (Int × Value)} (hd : (es.map Prod.fst).Nodup) {x : Int} {v : Value} : getOf x es = some v ↔ (x, v) ∈ es := by
  induction es with
  | nil => simp [getOf]
  | cons e r ih =>
    obtain ⟨k, u⟩ := e
    rw [List.map_cons, List.nodup_cons] at hd
    rw [getOf, List.mem_cons]
    by_cases h : x = k
    · subst h
      rw [if_pos rfl]
      constructor
      · intro e; injection e with e; exact .inl (by rw [e])
      · rintro (e | e)
        · injection e with _ e; rw [e]
        · exact absurd (List.mem_map.2 ⟨_, e, rfl⟩) hd.1
    · rw [if_neg h, ih hd.2]
      constructor
      · exact .inr
      · rintro (e | e)
        · injection e with e _; exact absurd e h
        · exact e
theorem rd_vs {p : Int} (c : VS) (i : Nat) (hp : i64ok p) : Go.WideElems.rd Tryz.prog 3 RV ⟨intK p, c.val, i⟩ = some (.int .i64 p, .held c.val) :=
  Go.WideElems.rd_mk (keyOf_int_mk Tryz.underlying3 (i64_wf hp)) (RV_val c)
def VOk (es : List (Int × Value)) : Prop := ∀ p ∈ es, i64ok p.1 ∧ ∃ c : VS, p.2 = c.val
theorem rg_vs {es : List (Int × Value)} : ∀ i : Nat, VOk es → (entL intK es i).map (Go.WideElems.rg Tryz.prog 3 RV) = es.map fun p => (Lit.int .i64 p.1, DataW.held p.2) := by
  induction es with
  | nil => intro i _; rfl
  | cons e r ih =>
    obtain ⟨p, v⟩ := e
    intro i h
    obtain ⟨hp, c, hc⟩ := h (p, v) (by simp)
    simp only at hp hc
    subst hc
    rw [entL, List.map_cons, ih (i + 1) fun q hq => h q (by simp [hq]), List.map_cons, Go.WideElems.rg_of (rd_vs c i hp)]
theorem owns_val {w : World} {r : Nat} {es : List (Int × Value)} (h : MapIs w r intK es) (hn : es.length ≤ 1073741824) (hd : (es.map Prod.fst).Nodup) (hv : VOk es) :
    w.ownsMap Tryz.prog 3 RV r es.length (.map ((es.map fun p => (Lit.int .i64 p.1, DataW.held p.2)).foldr DataW.insert [])) := by
  refine ⟨(entL intK es 0).toArray, es.length, h, ⟨by simp [entL_len]; unfold maxLen; omega, ⟨fun x hx => ?_, by simpa using entL_born 0, ?_⟩, fun x hx => ?_⟩, by simp [entL_len], ?_⟩
  · obtain ⟨-, -, -, -, -, h4⟩ := entL_mem (by simpa using hx)
    omega
  · show ((entL intK es 0).toArray.toList.map (·.key)).Nodup
    rw [List.toList_toArray, entL_keys]
    exact List.Pairwise.map _ (fun a b hab e => hab (by unfold intK at e; injection e)) hd
  · have key : ∀ (l : List (Int × Value)) (i : Nat), VOk l → ∀ x ∈ entL intK l i, ∃ y, Go.WideElems.rd Tryz.prog 3 RV x = some y := by
      intro l
      induction l with
      | nil => intro i _ x hx; cases hx
      | cons e r ih =>
        obtain ⟨p, v⟩ := e
        intro i hl x hx
        rw [entL] at hx
        rcases List.mem_cons.1 hx with rfl | hx
        · obtain ⟨hp, c, hc⟩ := hl (p, v) (by simp)
          simp only at hp hc
          subst hc
          exact ⟨_, rd_vs c i hp⟩
        · exact ih (i + 1) (fun q hq => hl q (by simp [hq])) x hx
    exact key es 0 hv x (by simpa using hx)
  · rw [List.toList_toArray, rg_vs 0 hv]
theorem mem_held {es : List (Int × Value)} {kl : Lit} {d : DataW Value} : (kl, d) ∈ (es.map fun p => (Lit.int .i64 p.1, DataW.held p.2)).foldr DataW.insert [] ↔ ∃ x v, (x, v) ∈ es ∧ kl = .int .i64 x ∧ d = .held v := by
  rw [Go.mem_sorted, List.mem_map]
  constructor
  · rintro ⟨⟨x, v⟩, h, e⟩
    injection e with e1 e2
    exact ⟨x, v, h, e1.symm, e2.symm⟩
  · rintro ⟨x, v, h, rfl, rfl⟩
    exact ⟨(x, v), h, rfl⟩
/-- a map gone through: which keys are still to come -/
structure Rng (w : World) (b r : Nat) (es : List (Int × Value)) (todo : Int → Bool) (cnt : Nat) : Prop where
  ran : ∃ (D : DataW Value) (left : Lit → Bool) (n : Nat), w.ranges Tryz.prog 3 RV b r n D left cnt ∧ (∀ x v, D.atKey (.int .i64 x) .nil = .held v → getOf x es = some v) ∧ ∀ x, todo x = left (.int .i64 x)
theorem Rng.kept {w w' : World} {b r : Nat} {es : List (Int × Value)} {todo : Int → Bool} {cnt : Nat} (h : Rng w b r es todo cnt) {c : Nat} (hb : But c w w') (h1 : b ≠ c) (h2 : r ≠ c) : Rng w' b r es todo cnt := by
  obtain ⟨D, left, n, h0, h3, h4⟩ := h.ran
  exact ⟨D, left, n, h0.kept (row := some c) ⟨hb.os, hb.tape, hb.output, hb.size, fun k hk hne => hb.block k hk (fun e => hne (by rw [e]))⟩ (by simpa using h1) (by simpa using h2), h3, h4⟩
theorem Rng.below {w w' : World} {b r : Nat} {es : List (Int × Value)} {todo : Int → Bool} {cnt : Nat} (h : Rng w b r es todo cnt) (hb : Below w.heap.size w w') : Rng w' b r es todo cnt := by
  obtain ⟨D, left, n, h0, h3, h4⟩ := h.ran
  exact ⟨D, left, n, h0.kept (row := none) ⟨hb.os, hb.tape, hb.output, hb.size, fun k hk _ => hb.block k hk⟩ (by simp) (by simp), h3, h4⟩
theorem Rng.left {w : World} {b r : Nat} {es : List (Int × Value)} {todo : Int → Bool} {cnt : Nat} (h : Rng w b r es todo cnt) : w.rangeLeft b r = cnt := by
  obtain ⟨D, left, n, h0, h3, h4⟩ := h.ran
  exact h0.left_eq
theorem Rng.lt {w : World} {b r : Nat} {es : List (Int × Value)} {todo : Int → Bool} {cnt : Nat} (h : Rng w b r es todo cnt) : r < w.heap.size ∧ r ≠ b := by
  obtain ⟨D, left, n, h0, h3, h4⟩ := h.ran
  exact ⟨h0.lt, h0.ne⟩
section
variable (w : World) {ops : Array Oper} {rest : List Oper} {o : Oper} {a : Act} {Q : Exit → Act → World → Prop}
theorem wpList_rng_start (hg : o.guard = none) (m : Operand) (hop : o.op = Op.range 102 m) {b : Nat} {es : List (Int × Value)} (hm : a.eval m = .map (some b)) (h : MapIs w b intK es) (hn : es.length ≤ 1073741824) (hd : (es.map Prod.fst).Nodup) (hv : VOk es)
    (hK : ∀ w', Rng w' b w.heap.size es (fun x => decide (x ∈ es.map Prod.fst)) (w'.rangeLeft b w.heap.size) → Below w.heap.size w w' → w'.heap.size = w.heap.size + 1 → wpList Tryz.prog ops Q rest (a.put o.dst (.pointer (some ⟨w.heap.size, 0, none⟩))) w') :
    wpList Tryz.prog ops Q (o :: rest) a w := by
  refine wpList_range_own w hg m 102 hop 3 67 (int_keyed Tryz.underlying3) Tryz.underlying102 RV b es.length _ hm (owns_val h hn hd hv) fun w' h1 h2 h3 => ?_
  refine hK w' ?_ ⟨h2.os, h2.tape, h2.output, h2.size, fun k hk => h2.block k hk (by simp)⟩ h3
  rw [h1.left_eq]
  refine ⟨_, _, _, h1, fun x v hx => ?_, fun x => ?_⟩
  · rw [getOf_iff hd]
    by_cases hm : ∃ u, (x, u) ∈ es
    · obtain ⟨u, hu⟩ := hm
      obtain ⟨es', e1, e2, e3⟩ := h1.owns.entries (int_keyed Tryz.underlying3)
      injection e1 with e1
      have hmem := mem_held.2 ⟨x, u, hu, rfl, rfl⟩
      rw [e1] at hmem hx
      rw [WideAt.atKey_mem _ (e3 _ hmem) e2 hmem] at hx
      injection hx with hx
      rw [← hx]; exact hu
    · rw [WideAt.atKey_none] at hx
      · cases hx
      · rintro ⟨kl, d⟩ hp e
        obtain ⟨x', v', hm', e1, -⟩ := mem_held.1 hp
        simp only at e
        rw [e] at e1
        injection e1 with _ e1
        exact hm ⟨v', by rw [e1]; exact hm'⟩
  · show _ = List.any _ _
    rw [Bool.eq_iff_iff, decide_eq_true_eq, List.any_eq_true, List.mem_map]
    constructor
    · rintro ⟨⟨x', v⟩, hm', rfl⟩
      exact ⟨_, mem_held.2 ⟨x', v, hm', rfl, rfl⟩, by simp [Lit.sameKey]⟩
    · rintro ⟨⟨kl, d⟩, hp, hs⟩
      obtain ⟨x', v', hm', e1, -⟩ := mem_held.1 hp
      have := WideAt.sameKey_eq hs
      simp only at this
      rw [this] at e1
      injection e1 with _ e1
      exact ⟨(x', v'), hm', e1.symm⟩
set_option maxRecDepth 100000 in
theorem wpList_rng_next (hg : o.guard = none) (it : Operand) (hop : o.op = Op.next it false) {b r : Nat} {es : List (Int × Value)} {todo : Int → Bool} {cnt : Nat} (hit : a.eval it = .pointer (some ⟨r, 0, none⟩)) (h : Rng w b r es todo cnt)
    (hDone : (∀ x, todo x = false) → wpList Tryz.prog ops Q rest (a.put o.dst (.tuple #[.bool false])) w)
    (hMore : ∀ (x : Int) (c : VS) (w' : World) (cnt' : Nat), i64ok x → todo x = true → getOf x es = some c.val → Rng w' b r es (fun z => todo z && decide (z ≠ x)) cnt' → cnt' < cnt → But r w w' → w'.heap.size = w.heap.size →
      (Instr.entry (.pointer (some ⟨r, 0, none⟩))).run Tryz.prog w' = .ok (.tuple #[.int .i64 x, c.val]) w' → wpList Tryz.prog ops Q rest (a.put o.dst (.tuple #[.bool true, .int .i64 x, c.val])) w') :
    wpList Tryz.prog ops Q (o :: rest) a w := by
  obtain ⟨D, left, n, h0, h3, h4⟩ := h.ran
  refine wpList_next_ranges w hg it hop 3 (int_keyed Tryz.underlying3) RV (Value.int .i64) VS.val (fun key kl hk => by obtain ⟨x, rfl, _⟩ := Maps.keyOf_int_inv Tryz.underlying3 hk; exact ⟨x, rfl⟩) (fun v y hy => (RV_inv hy).1) b r n D left cnt hit h0 (fun _ hl => hDone fun x => by rw [h4, hl]) ?_
  intro x c kl y w' cnt' hkey hlk hv hat hrg hlt hgr hsz hen
  obtain ⟨x', ex, rfl, hw⟩ := Maps.keyOf_int_inv Tryz.underlying3 hkey
  injection ex with _ ex
  subst ex
  have hy := (RV_inv hv).2
  have hok : i64ok x := by
    have h1 : (decide (IntKind.i64.min ≤ x) && decide (x ≤ IntKind.i64.max)) = true := hw
    rw [Bool.and_eq_true, decide_eq_true_eq, decide_eq_true_eq, (by decide : IntKind.i64.min = -9223372036854775808), (by decide : IntKind.i64.max = 9223372036854775807)] at h1
    exact h1
  refine hMore x c w' cnt' hok (by rw [h4]; exact hlk) (h3 x _ (by rw [hat .nil, hy])) ⟨D, _, n, hrg, h3, fun z => ?_⟩ hlt ⟨hgr.os, hgr.tape, hgr.output, hgr.size, fun k hk hne => hgr.block k hk (by intro e; injection e with e; exact hne e)⟩ hsz hen
  show (todo z && decide (z ≠ x)) = (left (.int .i64 z) && !(Lit.int .i64 z).sameKey (.int .i64 x))
  rw [h4]
  congr 1
  by_cases e : z = x
  · subst e; simp [Lit.sameKey]
  · simp [Lit.sameKey, e]
end
/-- the values in a map's entries, in the order in which these came -/
structure MapP {d : Nat} (P : Value → Val (M d) → Prop) (es : List (Int × Value)) (gs : List (Val (M d))) : Prop where
  keys : es.map Prod.fst = gs.map (·.num)
  at' : ∀ (i : Nat) (e : Int × Value) (g : Val (M d)), es[i]? = some e → gs[i]? = some g → P e.2 g
/-- values that lie below n0 or from B on -/
abbrev MapA (d n0 B : Nat) (w : World) (es : List (Int × Value)) (gs : List (Val (M d))) : Prop := MapP (fun v g => Apart n0 B w fun W => ValAt (MsgAt d) W v g) es gs
abbrev MapV (d : Nat) (w : World) (es : List (Int × Value)) (gs : List (Val (M d))) : Prop := MapP (fun v g => ValAt (MsgAt d) w v g) es gs
theorem MapP.nil {d : Nat} (P : Value → Val (M d) → Prop) : MapP P [] [] := ⟨rfl, fun i e g h => by simp at h⟩
theorem MapP.imp {d : Nat} {P R : Value → Val (M d) → Prop} {es : List (Int × Value)} {gs : List (Val (M d))} (h : MapP P es gs) (hk : ∀ v g, P v g → R v g) : MapP R es gs :=
  ⟨h.keys, fun i e g h1 h2 => hk _ _ (h.at' i e g h1 h2)⟩
theorem MapP.len {d : Nat} {P : Value → Val (M d) → Prop} {es : List (Int × Value)} {gs : List (Val (M d))} (h : MapP P es gs) : es.length = gs.length := by
  have := congrArg List.length h.keys
  rwa [List.length_map, List.length_map] at this
theorem MapP.get {d : Nat} {P : Value → Val (M d) → Prop} {es : List (Int × Value)} {gs : List (Val (M d))} (h : MapP P es gs) {x : Int} {v : Value} (hx : getOf x es = some v) : ∃ g, getV gs x = some g ∧ g.num = x ∧ P v g := by
  obtain ⟨hk, ha⟩ := h
  induction es generalizing gs with
  | nil => simp [getOf] at hx
  | cons e r ih =>
    cases gs with
    | nil => simp at hk
    | cons g t =>
      obtain ⟨k, u⟩ := e
      rw [List.map_cons, List.map_cons] at hk
      injection hk with hk1 hk2
      simp only at hk1
      rw [getOf] at hx
      rw [getV_cons]
      by_cases e : x = k
      · rw [if_pos e] at hx
        injection hx with hx
        subst hx
        rw [if_pos (by omega)]
        exact ⟨g, rfl, by omega, ha 0 _ _ rfl rfl⟩
      · rw [if_neg e] at hx
        rw [if_neg (by omega)]
        exact ih hx hk2 fun i e g h1 h2 => ha (i + 1) e g h1 h2
theorem MapP.none {d : Nat} {P : Value → Val (M d) → Prop} {es : List (Int × Value)} {gs : List (Val (M d))} (h : MapP P es gs) {x : Int} (hx : getOf x es = none) : getV gs x = none := by
  obtain ⟨hk, ha⟩ := h
  induction es generalizing gs with
  | nil =>
    cases gs with
    | nil => rfl
    | cons g t => simp at hk
  | cons e r ih =>
    cases gs with
    | nil => rfl
    | cons g t =>
      obtain ⟨k, u⟩ := e
      rw [List.map_cons, List.map_cons] at hk
      injection hk with hk1 hk2
      simp only at hk1
      rw [getOf] at hx
      rw [getV_cons]
      by_cases e : x = k
      · rw [if_pos e] at hx; cases hx
      · rw [if_neg e] at hx
        rw [if_neg (by omega)]
        exact ih hx hk2 fun i e g h1 h2 => ha (i + 1) e g h1 h2
theorem val_vs {d : Nat} {w : World} {v : Value} {g : Val (M d)} (h : ValAt (MsgAt d) w v g) : i64ok g.num ∧ ∃ c : VS, v = c.val ∧ c.n = g.num := by
  obtain ⟨wv, tv, sv, rfl, hn, hW, hT, hS⟩ := h
  obtain ⟨-, a1, c1, rfl, -, -⟩ := hW.open
  obtain ⟨-, a2, c2, rfl, -, -⟩ := hT.open
  obtain ⟨-, a3, c3, rfl, -, -⟩ := hS.open
  exact ⟨hn, ⟨⟨g.num, a1, _, c1, a2, _, c2, a3, _, c3⟩, rfl, rfl⟩⟩
theorem MapP.ok {d : Nat} {P : Value → Val (M d) → Prop} {es : List (Int × Value)} {gs : List (Val (M d))} (h : MapP P es gs) (hP : ∀ v g, P v g → i64ok g.num ∧ ∃ c : VS, v = c.val ∧ c.n = g.num) : VOk es := by
  intro p hp
  obtain ⟨i, hi⟩ := List.mem_iff_getElem?.1 hp
  obtain ⟨g, hg⟩ : ∃ g, gs[i]? = some g := ⟨_, List.getElem?_eq_getElem (by rw [← h.len]; exact (List.getElem?_eq_some_iff.1 hi).1)⟩
  obtain ⟨h1, c, h2, -⟩ := hP _ _ (h.at' i p g hi hg)
  refine ⟨?_, c, h2⟩
  have := congrArg (fun l => l[i]?) h.keys
  simp only [List.getElem?_map, hi, hg, Option.map_some] at this
  injection this with this
  rw [this]; exact h1
/-- put in the place of the one of its number, or behind all -/
def putG {α : Type} (v : Val α) (gs : List (Val α)) : List (Val α) := if (getV gs v.num).isSome = true then gs.map (fun g => if g.num = v.num then v else g) else gs ++ [v]
theorem getV_app {α : Type} (a b : List (Val α)) (n : Int) : getV (a ++ b) n = match getV a n with | some v => some v | none => getV b n := by
  induction a with
  | nil => rfl
  | cons x r ih =>
    rw [List.cons_append, getV_cons, getV_cons]
    by_cases h : x.num = n
    · rw [if_pos h, if_pos h]
    · rw [if_neg h, if_neg h]; exact ih
theorem putG_get {α : Type} (v : Val α) (gs : List (Val α)) (n : Int) : getV (putG v gs) n = if v.num = n then some v else getV gs n := by
  unfold putG
  have hm : ∀ l : List (Val α), getV (l.map fun g => if g.num = v.num then v else g) n = if v.num = n then (if (getV l v.num).isSome = true then some v else none) else getV l n := by
    intro l
    induction l with
    | nil => simp [getV_nil]
    | cons x r ih =>
      rw [List.map_cons, getV_cons, ih, getV_cons, getV_cons]
      by_cases h1 : x.num = v.num
      · rw [if_pos h1]
        by_cases h2 : v.num = n
        · rw [if_pos h2, if_pos h2]; simp [h1]
        · rw [if_neg h2, if_neg h2, if_neg h2, if_neg (by omega)]
      · rw [if_neg h1]
        by_cases h2 : v.num = n
        · subst h2
          rw [if_neg h1, if_pos rfl, if_pos rfl]; simp [h1]
        · rw [if_neg h2, if_neg h2]
  split
  · rename_i hs
    rw [hm, if_pos hs]
  · rename_i hs
    rw [getV_app]
    by_cases h2 : v.num = n
    · subst h2
      rw [if_pos rfl]
      cases h3 : getV gs v.num with
      | some u => rw [h3] at hs; exact absurd rfl hs
      | none => simp [getV_cons]
    · rw [if_neg h2]
      cases getV gs n with
      | some u => rfl
      | none => simp [getV_cons, getV_nil, h2]
theorem MapP.put {d : Nat} {P : Value → Val (M d) → Prop} {es : List (Int × Value)} {gs : List (Val (M d))} (h : MapP P es gs) (hd : (es.map Prod.fst).Nodup) {v : Val (M d)} {u : Value} (hv : P u v) : MapP P (putK v.num u es) (putG v gs) := by
  have hsome : (getOf v.num es).isSome = (getV gs v.num).isSome := by
    cases h1 : getOf v.num es with
    | some x => obtain ⟨g, hg, -, -⟩ := h.get h1; rw [hg]; rfl
    | none => rw [h.none h1]; rfl
  unfold putK putG
  rw [hsome]
  split
  · obtain ⟨hk, ha⟩ := h
    clear hsome
    have key : ∀ (es : List (Int × Value)) (gs : List (Val (M d))), es.map Prod.fst = gs.map (·.num) → (es.map Prod.fst).Nodup → (∀ (i : Nat) (e : Int × Value) (g : Val (M d)), es[i]? = some e → gs[i]? = some g → P e.2 g) →
        MapP P (setAt v.num u es) (gs.map fun g => if g.num = v.num then v else g) := by
      intro es
      induction es with
      | nil => intro gs hk _ _; cases gs with
        | nil => exact MapP.nil P
        | cons g t => simp at hk
      | cons e r ih =>
        intro gs hk hd ha
        cases gs with
        | nil => simp at hk
        | cons g t =>
          obtain ⟨k, x⟩ := e
          rw [List.map_cons, List.map_cons] at hk
          rw [List.map_cons, List.nodup_cons] at hd
          injection hk with hk1 hk2
          simp only at hk1
          have h0 := ha 0 (k, x) g rfl rfl
          have hr : ∀ (i : Nat) (e : Int × Value) (g : Val (M d)), r[i]? = some e → t[i]? = some g → P e.2 g := fun i e g h1 h2 => ha (i + 1) e g h1 h2
          rw [setAt, List.map_cons]
          by_cases e : v.num = k
          · rw [if_pos e, if_pos (by omega)]
            have hid' : t.map (fun g => if g.num = v.num then v else g) = t := by
              rw [List.map_congr_left (g := id) (fun g hg => ?_), List.map_id]
              rw [if_neg]
              · rfl
              · intro e2
                have : g.num ∈ r.map Prod.fst := by rw [hk2]; exact List.mem_map.2 ⟨g, hg, rfl⟩
                rw [e2, e] at this
                exact hd.1 this
            rw [hid']
            refine ⟨by rw [List.map_cons, List.map_cons, hk2]; simp [e], fun i e' g' h1 h2 => ?_⟩
            cases i with
            | zero => simp at h1 h2; subst h1 h2; exact hv
            | succ i => exact hr i e' g' (by simpa using h1) (by simpa using h2)
          · rw [if_neg e, if_neg (by omega)]
            have ih' := ih t hk2 hd.2 hr
            refine ⟨by rw [List.map_cons, List.map_cons, ih'.keys]; simp [hk1], fun i e' g' h1 h2 => ?_⟩
            cases i with
            | zero => simp at h1 h2; subst h1 h2; exact h0
            | succ i => exact ih'.at' i e' g' (by simpa using h1) (by simpa using h2)
    exact key es gs hk hd ha
  · refine ⟨by rw [List.map_append, List.map_append, h.keys]; rfl, fun i e g h1 h2 => ?_⟩
    have hl := h.len
    rcases Nat.lt_or_ge i es.length with hlt | hge
    · rw [List.getElem?_append_left hlt] at h1
      rw [List.getElem?_append_left (by omega)] at h2
      exact h.at' i e g h1 h2
    · rw [List.getElem?_append_right hge] at h1
      rw [List.getElem?_append_right (by omega)] at h2
      obtain ⟨hi, e1⟩ := List.getElem?_eq_some_iff.1 h1
      simp at hi
      have hi0 : i - es.length = 0 := by omega
      rw [hi0] at h1
      rw [show i - gs.length = 0 by omega] at h2
      simp at h1 h2
      subst h1 h2
      exact hv
theorem apart_put {n0 B : Nat} {w : World} {P : World → Prop} (h : Apart n0 B w P) {r : Nat} {es' : List (Int × Value)} (h1 : n0 ≤ r) (h2 : r < B) : Apart n0 B (putMap w r intK es') P := fun W hW => h W fun b hlt hc => (hW b (by rw [putMap_size]; exact hlt) hc).trans (putMap_other (by omega))
theorem apart_but {n0 B c : Nat} {w w' : World} {P : World → Prop} (h : Apart n0 B w P) (hb : But c w w') (h1 : n0 ≤ c) (h2 : c < B) : Apart n0 B w' P := fun W hW => h W fun b hlt hc => (hW b (Nat.lt_of_lt_of_le hlt hb.size) hc).trans (hb.block b hlt (by omega))
theorem apart_old {n0 B : Nat} {w0 w : World} {P : World → Prop} (hn : n0 = w0.heap.size) (hb : Below n0 w0 w) (h : ∀ W, (∀ p u, w0.cell? p = some u → W.cell? p = some u) → P W) : Apart n0 B w P := fun _ hW => h _ (keep_apart hn hb hW)
theorem Apart.wider {n n0 B : Nat} {w : World} {P : World → Prop} (h : Apart n B w P) (hn : n ≤ n0) : Apart n0 B w P := fun W hW => h W fun b hb hc => hW b hb (hc.imp (fun h => by omega) id)
theorem apart_vs {d n0 B : Nat} {w : World} {v : Value} {g : Val (M d)} (h : Apart n0 B w fun W => ValAt (MsgAt d) W v g) : i64ok g.num ∧ ∃ c : VS, v = c.val ∧ c.n = g.num := val_vs h.here
theorem zero_tv : ∀ w : World, (zeroValue 67).run Tryz.prog w = .ok (.agg #[.int .i64 0, .slice none 0 0, .slice none 0 0, .slice none 0 0]) w := fun w => by kernel_rfl
theorem tv_lookup {w : World} {r : Nat} {es : List (Int × Value)} (h : MapIs w r intK es) (q : Int) (ok : Bool) : (Instr.lookup 102 (.map (some r)) (.int .i64 q) ok).run Tryz.prog w = .ok (if ok then .tuple #[(getOf q es).getD (.agg #[.int .i64 0, .slice none 0 0, .slice none 0 0, .slice none 0 0]), .bool (getOf q es).isSome] else (getOf q es).getD (.agg #[.int .i64 0, .slice none 0 0, .slice none 0 0, .slice none 0 0])) w :=
  map_lookup (P := Tryz.prog) intK_ok Tryz.underlying102 zero_tv h q ok
theorem tv_put {w : World} {r : Nat} {es : List (Int × Value)} (h : MapIs w r intK es) (n : Int) (v : Value) :
    (Instr.mapUpdate 102 (.map (some r)) (.int .i64 n) v).run Tryz.prog w = .ok () (putMap w r intK (putK n v es)) :=
  map_put (P := Tryz.prog) intK_ok int_sameBits Tryz.underlying102 h n v
theorem mapIs_laterV {w w' : World} {r : Nat} {es : List (Int × Value)} (h : MapIs w r intK es) (hb : Below w.heap.size w w') : MapIs w' r intK es := by
  unfold MapIs at *
  have hr : r < w.heap.size := (Array.getElem?_eq_some_iff.1 h).1
  rw [hb.block r hr]; exact h
theorem but_putMap {w : World} {r : Nat} {es' : List (Int × Value)} : But r w (putMap w r intK es') :=
  ⟨rfl, rfl, rfl, by rw [putMap_size]; exact Nat.le_refl _, fun c _ hne => putMap_other hne⟩
theorem keysV_nodup {k : Int} {v : Value} {es : List (Int × Value)} (h : (es.map Prod.fst).Nodup) : ((putK k v es).map Prod.fst).Nodup := by
  have hset : ∀ es : List (Int × Value), (setAt k v es).map Prod.fst = es.map Prod.fst := by
    intro es
    induction es with
    | nil => rfl
    | cons e r ih =>
      obtain ⟨q, u⟩ := e
      rw [setAt]
      split
      · rfl
      · rw [List.map_cons, List.map_cons, ih]
  unfold putK
  split
  · rw [hset]; exact h
  · rename_i hk
    have hn : k ∉ es.map Prod.fst := by
      intro hm
      obtain ⟨⟨k', u⟩, hu, rfl⟩ := List.mem_map.1 hm
      exact hk (by rw [(getOf_iff h).2 hu]; rfl)
    rw [List.map_append, List.nodup_append]
    refine ⟨h, by simp, fun a ha b hb e => ?_⟩
    simp only [List.map_cons, List.map_nil, List.mem_singleton] at hb
    subst e
    subst hb
    exact hn ha
end Go.Proofs.YtaefpjecalnbcaaGreat
namespace Go.Proofs.YtaefpjecalnbcaaGreat
open Go.RowKit
theorem fits_sub {α : Type} {R : Int → α → Bool} {f : Fld} {v : Val α} (h : fitsB R f v = true) (hk : f.kind = 17) (hr : f.rep = false) : ∃ y, v.subs = [y] ∧ R f.of y = true := by
  unfold fitsB at h
  by_cases h0 : v.words.length + v.texts.length + v.subs.length = 0 ∨ 1 < v.words.length + v.texts.length + v.subs.length ∧ f.rep = false
  · rw [if_pos h0] at h; cases h
  · rw [if_neg h0, if_neg (by rw [hk]; decide), if_pos hk, Bool.and_eq_true] at h
    have h1 : v.words.length = 0 ∧ v.texts.length = 0 := of_decide_eq_true h.1
    have h2 : v.subs.length = 1 := by
      by_cases h3 : 1 < v.words.length + v.texts.length + v.subs.length
      · exact absurd (.inr ⟨h3, hr⟩) h0
      · have : ¬ v.words.length + v.texts.length + v.subs.length = 0 := fun h => h0 (.inl h)
        omega
    match hs : v.subs, h2 with
    | [y], _ =>
      rw [hs] at h
      exact ⟨y, rfl, by simpa using h.2⟩
theorem right_range {s : List Mes} : ∀ {d : Nat} {root : Int} {y : M d}, rightB s d root y = true → ∃ r : Nat, root = r ∧ r < s.length
  | 0, _, _, h => by cases h
  | d + 1, root, y, h => by
    unfold rightB at h
    by_cases h0 : root < 0 ∨ (s.length : Int) ≤ root
    · rw [if_pos h0] at h; cases h
    · exact ⟨root.toNat, by omega, by omega⟩
end Go.Proofs.YtaefpjecalnbcaaGreat
namespace Go.Proofs.YtaefpjecalnbcaaGreat
open Go.RowKit
/-- the operation, of two types, by its run -/
theorem wp_append2_eq {P : Program} {w : World} {o : Oper} {a : Act} {K : Act → World → Prop} {Q : Exit → Act → World → Prop} (s x : Operand) (t u : TypeId)
    (ho : o.op = .call { callee := .builtin .append, args := #[s, x], argTypes := #[t, u] }) (v xv : Value) (hs : a.eval s = v) (hx : a.eval x = xv) {v' : Value} {w' : World}
    (hr : (Builtin.append_ #[t, u] o.type #[v, xv]).run P w = .ok v' w') (h : K (a.put o.dst v') w') : o.wp P a w K Q := by
  unfold Oper.wp execOp
  simp only [ho, resolve, invoke, builtin, Sem.run_bind, Sem.run_pure, Result.andThen_ok, List.map_toArray, List.map_cons, List.map_nil, hs, hx, hr]
  exact h
theorem wpList_append2_eq {P : Program} {w : World} {ops : Array Oper} {rest : List Oper} {o : Oper} {a : Act} {Q : Exit → Act → World → Prop} (hgd : o.guard = none) (s x : Operand) (t u : TypeId)
    (ho : o.op = .call { callee := .builtin .append, args := #[s, x], argTypes := #[t, u] }) (v xv : Value) (hs : a.eval s = v) (hx : a.eval x = xv) {v' : Value} {w' : World}
    (hr : (Builtin.append_ #[t, u] o.type #[v, xv]).run P w = .ok v' w') (h : wpList P ops Q rest (a.put o.dst v') w') : wpList P ops Q (o :: rest) a w :=
  wpList_plain hgd fun _ hK => wp_append2_eq s x t u ho v xv hs hx hr (hK _ _ h)
end Go.Proofs.YtaefpjecalnbcaaGreat
namespace Go.Proofs.YtaefpjecalnbcaaGreat
open Go.RowKit
/-- A []string of the call's own. -/
def StrsOwn (w : World) (base : Nat) (v : Value) (l : List (List UInt8)) : Prop := w.ownsRow base 9 1 v l.length (l.map strV)
theorem info_string : (Tryz.prog.info? 9).map (fun i => (i.zero, i.size, i.bytes)) = some (some (.string ⟨#[]⟩), 1, 16) := by kernel_rfl
theorem under_strl : Tryz.prog.underlying 25 = some (.slice 9) := Tryz.underlying25
theorem StrsOwn.form {w : World} {base : Nat} {v : Value} {l : List (List UInt8)} (h : StrsOwn w base v l) : ∃ a c, v = .slice a l.length c := by
  rcases h.2 with ⟨h1, h2⟩ | ⟨g, cap, cur, hv, -⟩
  · exact ⟨none, 0, by rw [h1, h2]⟩
  · exact ⟨_, _, hv⟩
/-- one more string, laid in a block of its own ahead of the append -/
theorem StrsOwn.one {W : World} {base : Nat} {v : Value} {l : List (List UInt8)} (h : StrsOwn W base v l) (t : List UInt8) (hn : l.length + 1 ≤ 1099511627777) (hB : base ≤ W.heap.size) :
    ∃ v' w', (Builtin.append_ #[25, 25] 25 #[v, .slice (some ⟨W.heap.size, 0, none⟩) 1 1]).run Tryz.prog (W.alloc (.cells #[strV t] 9)) = .ok v' w' ∧ StrsOwn w' base v' (l ++ [t]) ∧ W.grownBy w' v.ownBlock := by
  have hA : Below W.heap.size W (W.alloc (.cells #[strV t] 9)) := (Below.refl _ _).alloc (Nat.le_refl _) _
  have hx : Seg (W.alloc (.cells #[strV t] 9)) (.slice (some ⟨W.heap.size, 0, none⟩) 1 1) 1 1 [strV t] := seg_blk (Blk.new W [strV t] _) 1 1 rfl (by omega)
  have h' : (W.alloc (.cells #[strV t] 9)).ownsRow base 9 1 v l.length (l.map strV) := row_keep h fun b _ _ he => hA.block b (Array.getElem?_eq_some_iff.1 he).1
  obtain ⟨v', w', h1, h2, h3, -⟩ := seg_append (P := Tryz.prog) _ base 25 25 9 (.string ⟨#[]⟩) 1 16 under_strl info_string rfl (by decide) v _ l.length 1 _ _ h' hx (by intro u hu; simp at hu; subst hu; rfl) (by omega) (by omega) (by simp; omega)
  refine ⟨v', w', h1, ?_, ?_⟩
  · unfold StrsOwn
    rw [List.length_append, List.map_append]
    exact h2
  · exact ⟨h3.os, h3.tape, h3.output, Nat.le_trans (by simp) h3.size, fun k hk hr => (h3.block k (by simp; omega) hr).trans (Below.heap_alloc W _ k hk)⟩
end Go.Proofs.YtaefpjecalnbcaaGreat
namespace Go.Proofs.YtaefpjecalnbcaaGreat
open Go.RowKit
end Go.Proofs.YtaefpjecalnbcaaGreat
namespace Go.Proofs.YtaefpjecalnbcaaGreat
open Go.RowKit
theorem knum_cases {k : Int} (h : knumber k = true) : k = 1 ∨ k = 2 ∨ k = 3 ∨ k = 4 ∨ k = 5 ∨ k = 6 ∨ k = 7 ∨ k = 8 ∨ k = 9 ∨ k = 10 ∨ k = 11 ∨ k = 12 ∨ k = 13 ∨ k = 14 := by
  have h' : 1 ≤ k ∧ k ≤ 14 := of_decide_eq_true h
  omega
set_option maxRecDepth 100000 in
set_option maxHeartbeats 4000000 in
theorem kind_Canon_32 (k : Int) (hk : k = 1 ∨ k = 8) (x : Nat) (w : World) :
    Calls Tryz.prog 100 #[.int .i64 k, .int .u64 x] w fun e w' => e = .returned (.tuple #[.int .u64 (kcanon k x), .int .u8 0]) ∧ Below w.heap.size w w' := by
  have HC : Hid (kcanon k x = w32 x) := by rw [Hid, kcanon, if_pos hk]
  have HK : Hid (knumber k = true) := by rcases hk with rfl | rfl <;> rfl
  rcases hk with rfl | rfl
  all_goals
    go_enter Tryz.func100, Tryz.ntmps100
    go_wp2_with (first | (go_at_call 97; refine (kind_Number _ _).mono ?_; rintro e w1 ⟨rfl, hb⟩; rw [HK.out]) | (go_at_call 138; refine (bits_Sign32 x _).mono ?_; rintro e w2 ⟨rfl, rfl⟩) | (go_at_call 137; refine (bits_Wide32 x _).mono ?_; rintro e w3 ⟨rfl, rfl⟩))
    go_ret2
    exact ⟨by rw [HC.out]; rfl, hb⟩
set_option maxRecDepth 100000 in
set_option maxHeartbeats 4000000 in
theorem kind_Canon_7 (x : Nat) (w : World) :
    Calls Tryz.prog 100 #[.int .i64 7, .int .u64 x] w fun e w' => e = .returned (.tuple #[.int .u64 (kcanon 7 x), .int .u8 0]) ∧ Below w.heap.size w w' := by
  have HK : Hid (knumber 7 = true) := rfl
  by_cases h : 0 < x
  · have HC : Hid (kcanon 7 x = 1) := by simp [Hid, kcanon, h]
    go_enter Tryz.func100, Tryz.ntmps100
    go_wp2_with (go_at_call 97; refine (kind_Number _ _).mono ?_; rintro e w1 ⟨rfl, hb⟩; rw [HK.out])
    go_ret2
    exact ⟨by rw [HC.out]; rfl, hb⟩
  · have HC : Hid (kcanon 7 x = 0) := by simp [Hid, kcanon, h]
    obtain rfl : x = 0 := by omega
    go_enter Tryz.func100, Tryz.ntmps100
    go_wp2_with (go_at_call 97; refine (kind_Number _ _).mono ?_; rintro e w1 ⟨rfl, hb⟩; rw [HK.out])
    go_ret2
    exact ⟨by rw [HC.out]; rfl, hb⟩
theorem field_form (s : ByteArray) (a b : Int) (w : World) : (Instr.field 194 (.agg #[.string s, .int .i64 a, .int .i64 b]) 2).run Tryz.prog w = .ok (.int .i64 b) w := by kernel_rfl
theorem forms_at {k : Int} {n : Nat} (h : kright k = true) (hn : kbits k = n) : ∀ (W : World) (r : Nat), MapIs W r intK formsL →
    (Instr.lookup 195 (.map (some r)) (.int .i64 k) false).run Tryz.prog W = .ok (.agg #[.string (kname k), .int .i64 (kwire k), .int .i64 n]) W := by
  intro W r hm
  have hl := map_lookup (P := Tryz.prog) intK_ok Tryz.underlying195 form_zero hm k false
  rw [getOf_forms, if_pos h, hn] at hl
  exact hl
set_option maxRecDepth 100000 in
set_option maxHeartbeats 4000000 in
theorem kind_Canon_low (k : Int) (hk : k = 3 ∨ k = 5 ∨ k = 9 ∨ k = 10 ∨ k = 11) (x : Nat) (w : World) :
    Calls Tryz.prog 100 #[.int .i64 k, .int .u64 x] w fun e w' => e = .returned (.tuple #[.int .u64 (kcanon k x), .int .u8 0]) ∧ Below w.heap.size w w' := by
  have HC : Hid (kcanon k x = x % 4294967296) := by rw [Hid, kcanon, if_neg (by omega), if_neg (by omega), if_pos hk]
  have HK : Hid (knumber k = true) := by rcases hk with rfl | rfl | rfl | rfl | rfl <;> rfl
  have HL := hid (forms_at (k := k) (n := 32) (by rcases hk with rfl | rfl | rfl | rfl | rfl <;> rfl) (by rcases hk with rfl | rfl | rfl | rfl | rfl <;> rfl))
  rcases hk with rfl | rfl | rfl | rfl | rfl
  all_goals
    go_enter Tryz.func100, Tryz.ntmps100
    go_wp2_with (go_at_call 97; refine (kind_Number _ _).mono ?_; rintro e w1 ⟨rfl, hb⟩; rw [HK.out])
    refine (kind_forms _).mono ?_
    rintro e w2 ⟨r, hm, hr, hb2, rfl⟩
    have hl := HL.out w2 r hm
    have hfd := field_form
    have HB : Hid (Below w.heap.size w w2) := hb.trans (hb2.mono hb.size)
    clear hb hb2
    go_wp2_with (go_at_call 140; refine (bits_Low32 x _).mono ?_; rintro e w3 ⟨rfl, rfl⟩)
    go_ret2
    exact ⟨by rw [HC.out]; first | rfl | go_num | (simp [go_sem]; omega), HB.out⟩
set_option maxRecDepth 100000 in
set_option maxHeartbeats 4000000 in
theorem kind_Canon_whole (k : Int) (hk : k = 2 ∨ k = 4 ∨ k = 6 ∨ k = 12 ∨ k = 13 ∨ k = 14) (x : Nat) (w : World) :
    Calls Tryz.prog 100 #[.int .i64 k, .int .u64 x] w fun e w' => e = .returned (.tuple #[.int .u64 (kcanon k x), .int .u8 0]) ∧ Below w.heap.size w w' := by
  have HC : Hid (kcanon k x = x) := by rw [Hid, kcanon, if_neg (by omega), if_neg (by omega), if_neg (by omega)]
  have HK : Hid (knumber k = true) := by rcases hk with rfl | rfl | rfl | rfl | rfl | rfl <;> rfl
  have HL := hid (forms_at (k := k) (n := 64) (by rcases hk with rfl | rfl | rfl | rfl | rfl | rfl <;> rfl) (by rcases hk with rfl | rfl | rfl | rfl | rfl | rfl <;> rfl))
  rcases hk with rfl | rfl | rfl | rfl | rfl | rfl
  all_goals
    go_enter Tryz.func100, Tryz.ntmps100
    go_wp2_with (go_at_call 97; refine (kind_Number _ _).mono ?_; rintro e w1 ⟨rfl, hb⟩; rw [HK.out])
    refine (kind_forms _).mono ?_
    rintro e w2 ⟨r, hm, hr, hb2, rfl⟩
    have hl := HL.out w2 r hm
    have hfd := field_form
    have HB : Hid (Below w.heap.size w w2) := hb.trans (hb2.mono hb.size)
    clear hb hb2
    go_wp2_with fail
    go_ret2
    exact ⟨by rw [HC.out]; rfl, HB.out⟩
theorem kind_Canon {k : Int} (hk : knumber k = true) (x : Nat) (w : World) :
    Calls Tryz.prog 100 #[.int .i64 k, .int .u64 x] w fun e w' => e = .returned (.tuple #[.int .u64 (kcanon k x), .int .u8 0]) ∧ Below w.heap.size w w' := by
  rcases knum_cases hk with h | h | h | h | h | h | h | h | h | h | h | h | h | h
  case inr.inr.inr.inr.inr.inr.inl => subst h; exact kind_Canon_7 x w
  all_goals first
    | exact kind_Canon_32 k (by omega) x w
    | exact kind_Canon_low k (by omega) x w
    | exact kind_Canon_whole k (by omega) x w
end Go.Proofs.YtaefpjecalnbcaaGreat
namespace Go.Proofs.YtaefpjecalnbcaaGreat
open Go.RowKit
end Go.Proofs.YtaefpjecalnbcaaGreat
namespace Go.Proofs.YtaefpjecalnbcaaGreat
open Go.RowKit
theorem kright_num {k : Int} (h : knumber k = true) : kright k = true := by unfold knumber at h; unfold kright; simp at h ⊢; omega
end Go.Proofs.YtaefpjecalnbcaaGreat
