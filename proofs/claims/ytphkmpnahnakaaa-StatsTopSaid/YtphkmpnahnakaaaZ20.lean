/- A book of rows under way (BookI): a block, a map of the call's own, a block for each path, a list of depths. No condition but lengths. stats.under; (*stats.book).row: a path's row, that there is from then on. No condition. -/
import Derived.Test.YtphkmpnahnakaaaZ03
import Derived.Test.YtphkmpnahnakaaaZ07
import Derived.Test.YtphkmpnahnakaaaZ18
import Derived.Test.YtphkmpnahnakaaaZ19
namespace Go.Proofs.Ytphkmpnahnakaaa
open Go.RowKit
theorem int_push {W : World} {base : Nat} {v : Value} {l : List Int} (h : IntsOwn W base v l) (y : Int) (hn : l.length ≤ 1099511627776) (hB : base ≤ W.heap.size) :
    ∃ a c w', (Builtin.append_ #[35, 35] 35 #[v, .slice (some ⟨W.heap.size, 0, none⟩) 1 1]).run Try.prog (W.alloc (.cells #[.int .i64 y] 3)) = .ok (.slice a (l.length + 1) c) w' ∧ IntsOwn w' base (.slice a (l.length + 1) c) (l ++ [y]) ∧ W.grownBy w' v.ownBlock ∧ ((Value.slice a (l.length + 1) c).ownBlock = v.ownBlock ∨ ∃ b, (Value.slice a (l.length + 1) c).ownBlock = some b ∧ W.heap.size ≤ b) := by
  have hA : Below W.heap.size W (W.alloc (.cells #[.int .i64 y] 3)) := (Below.refl _ _).alloc (Nat.le_refl _) _
  have hx : Seg (W.alloc (.cells #[.int .i64 y] 3)) (.slice (some ⟨W.heap.size, 0, none⟩) 1 1) 1 1 [.int .i64 y] := seg_blk (Blk.new W [.int .i64 y] _) 1 1 rfl (by omega)
  obtain ⟨v', w', h1, h2, h3, h4⟩ := seg_append (P := Try.prog) _ base 35 35 3 (.int .i64 0) 1 8 under_ints info_int rfl (by decide) v _ l.length 1 _ _ (h.later hA) hx (by intro u hu; simp at hu; subst hu; rfl) (by omega) (by omega) (by simp; omega)
  have hI : IntsOwn w' base v' (l ++ [y]) := by
    unfold IntsOwn
    rw [List.length_append, List.map_append]
    exact h2
  obtain ⟨a, c, rfl⟩ := hI.form
  rw [List.length_append, List.length_singleton] at hI h1 h4
  exact ⟨a, c, w', h1, hI, ⟨h3.os, h3.tape, h3.output, Nat.le_trans (by simp) h3.size, fun k hk hr => (h3.block k (by simp; omega) hr).trans (Below.heap_alloc W _ k hk)⟩, h4.imp id fun e => ⟨_, e, by simp⟩⟩
theorem IntsOwn.keepS {w w' : World} {base : Nat} {v : Value} {l : List Int} (h : IntsOwn w base v l) (hk : ∀ b, v.ownBlock = some b → w'.heap[b]? = w.heap[b]?) : IntsOwn w' base v l := by
  unfold IntsOwn at h ⊢
  exact owned_keep h hk
theorem IntsOwn.ownS {w : World} {base : Nat} {v : Value} {l : List Int} (h : IntsOwn w base v l) (b : Nat) (e : v.ownBlock = some b) : base ≤ b ∧ b < w.heap.size := World.ownsRow.lt h b e
/-- a number of a list of the call's own, written anew -/
theorem ints_set {w : World} {base : Nat} {v : Value} {l : List Int} (h : IntsOwn w base v l) {i : Nat} {z : Int} (hi : l[i]? = some z) (y : Int) : ∃ g c, v = .slice (some ⟨g, 0, none⟩) l.length c ∧ w.cell? ⟨g, i, none⟩ = some (.int .i64 z) ∧ w.frozen? ⟨g, i, none⟩ = false ∧ g < w.heap.size ∧
    IntsOwn (w.setCell ⟨g, i, none⟩ (.int .i64 y)) base v (l.set i y) := by
  have hil := (List.getElem?_eq_some_iff.1 hi).1
  obtain ⟨h1, h2 | ⟨g, cap, cur, rfl, hg, hh, hc, hm, hs, ht⟩⟩ := h
  · omega
  have hB : Blk w g cur.toList 3 := by unfold Blk; rw [hh]
  have hcur : cur.toList[i]? = some (.int .i64 z) := by
    have : (cur.toList.take (l.length * 1))[i]? = some (.int .i64 z) := by rw [ht, List.getElem?_map, hi]; rfl
    rw [List.getElem?_take] at this
    split at this
    · exact this
    · cases this
  refine ⟨g, cap, rfl, hB.cell i _ hcur, hB.free i, hB.lt, ?_⟩
  have hB2 := hB.set i (.int .i64 y)
  refine ⟨by rw [List.length_map, List.length_set, Nat.mul_one], .inr ⟨g, cap, (cur.toList.set i (.int .i64 y)).toArray, by rw [List.length_set], hg, hB2, by rw [List.length_set]; exact hc, hm, by simpa using hs, ?_⟩⟩
  rw [List.toList_toArray, List.length_set, List.take_set, ht, List.map_set]
  rfl
def rowC (t : List SE) (p : ByteArray) : List Value := [.string p, .int .i64 (cntE t p : Int), .int .i64 (bytE t p : Int), .int .i64 (valE t p : Int)]
structure BookI (B0 B1 K r : Nat) (sv : Value) (G : Nat → Prop) (Wg W5 : World) (t : List SE) (n : Int) (x : Option ByteArray) (es : List (ByteArray × Value)) (dv : Value) (ds : List Int) (w : World) : Prop where
  below : Below B0 W5 w
  b1 : B1 ≤ w.heap.size
  kb : B0 ≤ K ∧ K < B1
  rb : B0 ≤ r ∧ r < B1 ∧ r ≠ K
  blk : Blk w K [sv, .map (some r), dv, .int .i64 n] 53
  map : MapIs w r strK es
  rows : ∀ p v, getOf p es = some v → ∃ b, v = .pointer (some ⟨b, 0, none⟩) ∧ B1 ≤ b ∧ ¬ G b ∧ dv.ownBlock ≠ some b ∧ Blk w b (rowC t p) 32
  inj : ∀ p q v, getOf p es = some v → getOf q es = some v → p = q
  keys : ∀ p, (getOf p es).isSome = true ↔ (∃ e ∈ t, e.path = p) ∨ x = some p
  nd : (es.map Prod.fst).Nodup
  di : IntsOwn w B1 dv ds
  dg : ∀ b, dv.ownBlock = some b → ¬ G b
  gk : ¬ G K ∧ ¬ G r
  keep : ∀ b, G b → b < w.heap.size ∧ w.heap[b]? = Wg.heap[b]?
theorem MapIs.ltS {w : World} {r : Nat} {es : List (ByteArray × Value)} (h : MapIs w r strK es) : r < w.heap.size := (Array.getElem?_eq_some_iff.1 h).1
theorem getOf_mem {es : List (ByteArray × Value)} {p : ByteArray} : ∀ {v : Value}, getOf p es = some v → (p, v) ∈ es := by
  induction es with
  | nil => intro v h; cases h
  | cons e r ih =>
    obtain ⟨k, u⟩ := e
    intro v h
    rw [getOf] at h
    by_cases hk : p = k
    · rw [if_pos hk] at h; cases h; subst hk; simp
    · rw [if_neg hk] at h; exact List.mem_cons_of_mem _ (ih h)
theorem mem_getOf {es : List (ByteArray × Value)} {p : ByteArray} (h : p ∈ es.map Prod.fst) : (getOf p es).isSome = true := by
  induction es with
  | nil => cases h
  | cons e r ih =>
    obtain ⟨k, u⟩ := e
    rw [getOf]
    by_cases hk : p = k
    · rw [if_pos hk]; rfl
    · rw [if_neg hk]
      rw [List.map_cons] at h
      rcases List.mem_cons.1 h with h | h
      · exact absurd h hk
      · exact ih h
variable {B0 B1 K r : Nat} {sv : Value} {G : Nat → Prop} {Wg W5 : World} {t : List SE} {n : Int} {x : Option ByteArray} {es : List (ByteArray × Value)} {dv : Value} {ds : List Int} {w : World}
theorem BookI.start (hb : Below B0 W5 w) (h1 : B1 ≤ w.heap.size) (hk : B0 ≤ K ∧ K < B1) (hr : B0 ≤ r ∧ r < B1 ∧ r ≠ K) (hB : Blk w K [sv, .map (some r), .slice none 0 0, .int .i64 0] 53) (hm : MapIs w r strK []) :
    BookI B0 B1 K r sv (fun b => b < B0) w W5 [] 0 none [] (.slice none 0 0) [] w :=
  ⟨hb, h1, hk, hr, hB, hm, fun _ _ h => (by cases h), fun _ _ _ h => (by cases h), fun p => (by simp [getOf]), (by simp), World.ownsRow_nil _ _ _ _, fun b e => (by simp [Value.ownBlock] at e), ⟨(by omega), (by omega)⟩, fun b hb => ⟨(by omega), rfl⟩⟩
/-- a later world: all that the book is made of is as it was -/
theorem BookI.turn (h : BookI B0 B1 K r sv G Wg W5 t n x es dv ds w) {w1 : World} (hb : Below B0 W5 w1) (hs : w.heap.size ≤ w1.heap.size)
    (hk : ∀ b, b < w.heap.size → w1.heap[b]? = w.heap[b]?) : BookI B0 B1 K r sv G Wg W5 t n x es dv ds w1 :=
  ⟨hb, Nat.le_trans h.b1 hs, h.kb, h.rb, (hk K h.blk.lt).trans h.blk, (hk r h.map.ltS).trans h.map, fun p v hp => by
    obtain ⟨b, e, g1, g2, g3, g4⟩ := h.rows p v hp
    exact ⟨b, e, g1, g2, g3, (hk b g4.lt).trans g4⟩, h.inj, h.keys, h.nd, h.di.keepS fun b e => hk b (h.di.ownS b e).2, h.dg, h.gk, fun b hg => ⟨Nat.lt_of_lt_of_le (h.keep b hg).1 hs, (hk b (h.keep b hg).1).trans (h.keep b hg).2⟩⟩
theorem BookI.le (h : BookI B0 B1 K r sv G Wg W5 t n x es dv ds w) : B0 ≤ w.heap.size := by have := h.kb; have := h.b1; omega
theorem BookI.later (h : BookI B0 B1 K r sv G Wg W5 t n x es dv ds w) {w1 : World} (hb : Below w.heap.size w w1) : BookI B0 B1 K r sv G Wg W5 t n x es dv ds w1 :=
  h.turn (h.below.trans (hb.mono h.le)) hb.size fun b hlt => hb.block b hlt
/-- more that is kept -/
theorem BookI.widen (h : BookI B0 B1 K r sv G Wg W5 t n x es dv ds w) {w1 : World} (hb : Below w.heap.size w w1) (A : Nat → Prop) (hA : ∀ b, A b → w.heap.size ≤ b ∧ b < w1.heap.size) : BookI B0 B1 K r sv (fun b => G b ∨ A b) w1 W5 t n x es dv ds w1 := by
  have h1 := h.later hb
  refine { h1 with rows := ?_, dg := ?_, gk := ?_, keep := ?_ }
  · intro p v hp
    obtain ⟨b, e, g1, g2, g3, g4⟩ := h.rows p v hp
    refine ⟨b, e, g1, fun hg => hg.elim g2 fun ha => ?_, g3, (hb.block b g4.lt).trans g4⟩
    have := (hA b ha).1
    have := g4.lt
    omega
  · intro b e hg
    rcases hg with hg | hg
    · exact h.dg b e hg
    · have := (hA b hg).1
      have := (h.di.ownS b e).2
      omega
  · refine ⟨fun hg => hg.elim h.gk.1 fun ha => ?_, fun hg => hg.elim h.gk.2 fun ha => ?_⟩
    · have := (hA K ha).1; have := h.blk.lt; omega
    · have := (hA r ha).1; have := h.map.ltS; omega
  · intro b hg
    rcases hg with hg | hg
    · exact ⟨(h1.keep b hg).1, rfl⟩
    · exact ⟨(hA b hg).2, rfl⟩
theorem BookI.narrow {G' : Nat → Prop} {Wg' : World} (h : BookI B0 B1 K r sv G' Wg' W5 t n x es dv ds w) (hG : ∀ b, G b → G' b ∧ Wg'.heap[b]? = Wg.heap[b]?) : BookI B0 B1 K r sv G Wg W5 t n x es dv ds w :=
  { h with
    rows := fun p v hp => by
      obtain ⟨b, e, g1, g2, g3, g4⟩ := h.rows p v hp
      exact ⟨b, e, g1, fun hg => g2 (hG b hg).1, g3, g4⟩
    dg := fun b e hg => h.dg b e (hG b hg).1
    gk := ⟨fun hg => h.gk.1 (hG K hg).1, fun hg => h.gk.2 (hG r hg).1⟩
    keep := fun b hg => ⟨(h.keep b (hG b hg).1).1, (h.keep b (hG b hg).1).2.trans (hG b hg).2⟩ }
/-- a depth more -/
theorem BookI.dpush (h : BookI B0 B1 K r sv G Wg W5 t n x es dv ds w) (y : Int) (hl : ds.length ≤ 1099511627776) :
    ∃ a c w7, (Builtin.append_ #[35, 35] 35 #[dv, .slice (some ⟨w.heap.size, 0, none⟩) 1 1]).run Try.prog (w.alloc (.cells #[.int .i64 y] 3)) = .ok (.slice a (ds.length + 1) c) w7 ∧ (w7.cell? ⟨K, 2, none⟩ = some dv ∧ w7.frozen? ⟨K, 2, none⟩ = false ∧ K < w7.heap.size) ∧
      BookI B0 B1 K r sv G Wg W5 t n x es (.slice a (ds.length + 1) c) (ds ++ [y]) (w7.setCell ⟨K, 2, none⟩ (.slice a (ds.length + 1) c)) := by
  obtain ⟨a, c, w7, hr, hI, hg, hat⟩ := int_push h.di y hl h.b1
  have hown : ∀ b, dv.ownBlock = some b → B1 ≤ b ∧ b < w.heap.size := fun b e => h.di.ownS b e
  have hk0 : ∀ b, b < w.heap.size → dv.ownBlock ≠ some b → w7.heap[b]? = w.heap[b]? := fun b hlt h2 => hg.block b hlt fun e => h2 e.symm
  have hk : ∀ b, b < w.heap.size → b ≠ K → dv.ownBlock ≠ some b → (w7.setCell ⟨K, 2, none⟩ (.slice a (ds.length + 1) c)).heap[b]? = w.heap[b]? := fun b hlt h1 h2 => by
    rw [Below.heap_setCell _ _ _ b (by show b ≠ K; exact h1)]
    exact hk0 b hlt h2
  have hb7 : Blk w7 K [sv, .map (some r), dv, .int .i64 n] 53 := (hk0 K h.blk.lt fun e => by have := hown K e; have := h.kb; omega).trans h.blk
  have hnew : ∀ b, (Value.slice a (ds.length + 1) c).ownBlock = some b → dv.ownBlock = some b ∨ w.heap.size ≤ b := fun b e => by
    rcases hat with e2 | ⟨b', e2, hb'⟩
    · rw [e2] at e; exact .inl e
    · rw [e2] at e; injection e with e; exact .inr (by omega)
  refine ⟨a, c, w7, hr, ⟨hb7.cell 2 _ rfl, hb7.free 2, hb7.lt⟩, ⟨(h.below.trans ?_).setCell h.kb.1 _, by have := h.b1; have := hg.size; simp; omega, h.kb, h.rb, by simpa using hb7.set 2 (.slice a (ds.length + 1) c), ?_, ?_, h.inj, h.keys, h.nd, ?_, ?_, h.gk, ?_⟩⟩
  · exact ⟨hg.os, hg.tape, hg.output, hg.size, fun b hb => hk0 b (by have := h.le; omega) fun e => by have := hown b e; have := h.kb; omega⟩
  · exact (hk r h.map.ltS h.rb.2.2 fun e => by have := hown r e; have := h.rb; omega).trans h.map
  · intro p v hp
    obtain ⟨b, e, g1, g2, g3, g4⟩ := h.rows p v hp
    refine ⟨b, e, g1, g2, fun e2 => ?_, (hk b g4.lt (by have := h.kb; omega) g3).trans g4⟩
    rcases hnew b e2 with e3 | e3
    · exact g3 e3
    · have := g4.lt; omega
  · exact hI.keepS fun b e => Below.heap_setCell _ _ _ b (by show b ≠ K; have := (hI.ownS b e).1; have := h.kb; omega)
  · intro b e hG
    rcases hnew b e with e3 | e3
    · exact h.dg b e3 hG
    · have := (h.keep b hG).1; omega
  · intro b hG
    have h1 := h.keep b hG
    refine ⟨by have := hg.size; simp; omega, (hk b h1.1 (fun e => h.gk.1 (e ▸ hG)) fun e => h.dg b e hG).trans h1.2⟩
/-- one of the depths, written anew -/
theorem BookI.dset (h : BookI B0 B1 K r sv G Wg W5 t n x es dv ds w) {i : Nat} {z : Int} (hi : ds[i]? = some z) (y : Int) : ∃ g c, dv = .slice (some ⟨g, 0, none⟩) ds.length c ∧ w.cell? ⟨g, i, none⟩ = some (.int .i64 z) ∧ w.frozen? ⟨g, i, none⟩ = false ∧ g < w.heap.size ∧
    BookI B0 B1 K r sv G Wg W5 t n x es dv (ds.set i y) (w.setCell ⟨g, i, none⟩ (.int .i64 y)) := by
  obtain ⟨g, c, e, h1, h2, h3, h4⟩ := ints_set h.di hi y
  have hg := (h.di.ownS g (by rw [e]; rfl)).1
  have hk : ∀ b, b ≠ g → (w.setCell ⟨g, i, none⟩ (.int .i64 y)).heap[b]? = w.heap[b]? := fun b hb => Below.heap_setCell _ _ _ b (by show b ≠ g; exact hb)
  have hkb := h.kb
  have hrb := h.rb
  refine ⟨g, c, e, h1, h2, h3, ⟨h.below.setCell (by show B0 ≤ g; omega) _, by simpa using h.b1, h.kb, h.rb, (hk K (by omega)).trans h.blk, (hk r (by omega)).trans h.map, ?_, h.inj, h.keys, h.nd, h4, h.dg, h.gk, ?_⟩⟩
  · intro p v hp
    obtain ⟨b, e', g1, g2, g3, g4⟩ := h.rows p v hp
    refine ⟨b, e', g1, g2, g3, (hk b fun hb => g3 (by rw [hb, e]; rfl)).trans g4⟩
  · intro b hG
    refine ⟨by simpa using (h.keep b hG).1, (hk b fun hb => h.dg b (by rw [hb, e]; rfl) hG).trans (h.keep b hG).2⟩
/-- the number of all -/
theorem BookI.count (h : BookI B0 B1 K r sv G Wg W5 t n x es dv ds w) (n' : Int) : BookI B0 B1 K r sv G Wg W5 t n' x es dv ds (w.setCell ⟨K, 3, none⟩ (.int .i64 n')) := by
  have hk : ∀ b, b ≠ K → (w.setCell ⟨K, 3, none⟩ (.int .i64 n')).heap[b]? = w.heap[b]? := fun b hb => Below.heap_setCell _ _ _ b (by show b ≠ K; exact hb)
  have hkb := h.kb
  refine ⟨h.below.setCell h.kb.1 _, by simpa using h.b1, h.kb, h.rb, by simpa using h.blk.set 3 (.int .i64 n'), (hk r h.rb.2.2).trans h.map, ?_, h.inj, h.keys, h.nd, h.di.keepS fun b e => hk b (by have := (h.di.ownS b e).1; omega), h.dg, h.gk, fun b hG => ⟨by simpa using (h.keep b hG).1, (hk b fun e => h.gk.1 (e ▸ hG)).trans (h.keep b hG).2⟩⟩
  intro p v hp
  obtain ⟨b, e', g1, g2, g3, g4⟩ := h.rows p v hp
  exact ⟨b, e', g1, g2, g3, (hk b (by omega)).trans g4⟩
/-- a row that is there -/
theorem BookI.mark (h : BookI B0 B1 K r sv G Wg W5 t n none es dv ds w) {p : ByteArray} (hp : (getOf p es).isSome = true) : BookI B0 B1 K r sv G Wg W5 t n (some p) es dv ds w := by
  refine { h with keys := fun q => ?_ }
  rw [h.keys q]
  constructor
  · rintro (h1 | h1)
    · exact .inl h1
    · cases h1
  · rintro (h1 | h1)
    · exact .inl h1
    · cases h1
      rcases (h.keys p).1 hp with h2 | h2
      · exact .inl h2
      · cases h2
/-- a row more -/
theorem BookI.fresh (h : BookI B0 B1 K r sv G Wg W5 t n none es dv ds w) {p : ByteArray} (hp : getOf p es = none) {w1 : World} (hb : Below w.heap.size w w1) {b : Nat} (hlb : w.heap.size ≤ b) (hB : Blk w1 b [.string p, .int .i64 0, .int .i64 0, .int .i64 0] 32) :
    BookI B0 B1 K r sv G Wg W5 t n (some p) (es ++ [(p, .pointer (some ⟨b, 0, none⟩))]) dv ds (putMap w1 r strK (es ++ [(p, .pointer (some ⟨b, 0, none⟩))])) := by
  have h1 := h.later hb
  have hz : ¬ ∃ e ∈ t, e.path = p := fun he => by
    have := (h.keys p).2 (.inl he)
    rw [hp] at this
    cases this
  have hk : ∀ c, c ≠ r → (putMap w1 r strK (es ++ [(p, .pointer (some ⟨b, 0, none⟩))])).heap[c]? = w1.heap[c]? := fun c hc => putMap_other hc
  have hrb := h.rb
  have hkb := h.kb
  have hget : ∀ q, getOf q (es ++ [(p, .pointer (some ⟨b, 0, none⟩))]) = if q = p then some (.pointer (some ⟨b, 0, none⟩)) else getOf q es := fun q => by
    have := putK_get p (.pointer (some ⟨b, 0, none⟩)) es q
    unfold putK at this
    rw [hp, if_neg (by simp)] at this
    exact this
  refine ⟨⟨h1.below.os, h1.below.tape, h1.below.output, by rw [putMap_size]; exact h1.below.size, fun c hc => (hk c (by omega)).trans (h1.below.block c hc)⟩, by rw [putMap_size]; exact h1.b1, h.kb, h.rb, (hk K (by omega)).trans h1.blk, putMap_is h1.map.ltS, ?_, ?_, ?_, ?_, h1.di.keepS fun c e => hk c (by have := (h1.di.ownS c e).1; omega), h.dg, h.gk, fun c hG => ⟨by rw [putMap_size]; exact (h1.keep c hG).1, (hk c fun e => h.gk.2 (e ▸ hG)).trans (h1.keep c hG).2⟩⟩
  · intro q v hq
    rw [hget] at hq
    by_cases e : q = p
    · rw [if_pos e] at hq
      cases hq
      subst e
      have hb1 : B1 ≤ b := Nat.le_trans h.b1 hlb
      refine ⟨b, rfl, hb1, fun hG => ?_, fun e => ?_, (hk b (by omega)).trans ?_⟩
      · have := (h.keep b hG).1; omega
      · have := (h.di.ownS b e).2; omega
      · unfold rowC
        rw [(none_E hz).1, (none_E hz).2.1, (none_E hz).2.2]
        exact hB
    · rw [if_neg e] at hq
      obtain ⟨c, e', g1, g2, g3, g4⟩ := h1.rows q v hq
      exact ⟨c, e', g1, g2, g3, (hk c (by omega)).trans g4⟩
  · intro q q' v h2 h3
    rw [hget] at h2 h3
    have hne : ∀ u, getOf u es = some v → v ≠ .pointer (some ⟨b, 0, none⟩) := fun u hu e => by
      obtain ⟨c, e', -, -, -, g4⟩ := h.rows u v hu
      rw [e'] at e
      injection e with e
      injection e with e
      injection e with e
      have := g4.lt
      omega
    by_cases e : q = p
    · by_cases e' : q' = p
      · rw [e, e']
      · rw [if_pos e] at h2
        rw [if_neg e'] at h3
        exact absurd (Option.some.inj h2).symm (hne q' h3)
    · by_cases e' : q' = p
      · rw [if_neg e] at h2
        rw [if_pos e'] at h3
        exact absurd (Option.some.inj h3).symm (hne q h2)
      · rw [if_neg e] at h2
        rw [if_neg e'] at h3
        exact h.inj q q' v h2 h3
  · intro q
    rw [hget]
    by_cases e : q = p
    · rw [if_pos e]
      exact ⟨fun _ => .inr (by rw [e]), fun _ => rfl⟩
    · rw [if_neg e, h.keys q]
      constructor
      · rintro (h2 | h2)
        · exact .inl h2
        · cases h2
      · rintro (h2 | h2)
        · exact .inl h2
        · injection h2 with h2; exact absurd h2.symm e
  · rw [List.map_append, List.nodup_append]
    refine ⟨h.nd, by simp, fun q hq q' hq' e => ?_⟩
    simp at hq'
    subst hq'
    subst e
    have := mem_getOf hq
    rw [hp] at this
    cases this
/-- what a record adds to its path's row -/
theorem BookI.add {p : ByteArray} (h : BookI B0 B1 K r sv G Wg W5 t n (some p) es dv ds w) {e : SE} (he : e.path = p) {b : Nat} (hp : getOf p es = some (.pointer (some ⟨b, 0, none⟩))) :
    BookI B0 B1 K r sv G Wg W5 (t ++ [e]) n none es dv ds (((w.setCell ⟨b, 1, none⟩ (.int .i64 ((cntE t p : Int) + 1))).setCell ⟨b, 2, none⟩ (.int .i64 ((bytE t p : Int) + e.bytes))).setCell ⟨b, 3, none⟩ (.int .i64 ((valE t p : Int) + e.vals))) := by
  subst he
  obtain ⟨b', eb, g1, g2, g3, g4⟩ := h.rows e.path _ hp
  obtain rfl : b = b' := by injection eb with eb; injection eb with eb; injection eb
  have hk : ∀ c, c ≠ b → (((w.setCell ⟨b, 1, none⟩ (.int .i64 ((cntE t e.path : Int) + 1))).setCell ⟨b, 2, none⟩ (.int .i64 ((bytE t e.path : Int) + e.bytes))).setCell ⟨b, 3, none⟩ (.int .i64 ((valE t e.path : Int) + e.vals))).heap[c]? = w.heap[c]? := fun c hc => by
    rw [Below.heap_setCell _ _ _ c (by show c ≠ b; exact hc), Below.heap_setCell _ _ _ c (by show c ≠ b; exact hc), Below.heap_setCell _ _ _ c (by show c ≠ b; exact hc)]
  have hkb := h.kb
  have hrb := h.rb
  refine ⟨((h.below.setCell (by show B0 ≤ b; omega) _).setCell (by show B0 ≤ b; omega) _).setCell (by show B0 ≤ b; omega) _, by simpa using h.b1, h.kb, h.rb, (hk K (by omega)).trans h.blk, (hk r (by omega)).trans h.map, ?_, h.inj, ?_, h.nd, h.di.keepS fun c ec => hk c fun hc => g3 (by rw [← hc]; exact ec), h.dg, h.gk, fun c hG => ⟨by simpa using (h.keep c hG).1, (hk c fun ec => g2 (ec ▸ hG)).trans (h.keep c hG).2⟩⟩
  · intro q v hq
    by_cases hqe : q = e.path
    · subst hqe
      rw [hp] at hq
      cases hq
      refine ⟨b, rfl, g1, g2, g3, ?_⟩
      have h3 := ((g4.set 1 (.int .i64 ((cntE t e.path : Int) + 1))).set 2 (.int .i64 ((bytE t e.path : Int) + e.bytes))).set 3 (.int .i64 ((valE t e.path : Int) + e.vals))
      obtain ⟨o1, o2, o3⟩ := one_E e e.path
      rw [if_pos rfl] at o1 o2 o3
      have e1 : rowC (t ++ [e]) e.path = [.string e.path, .int .i64 ((cntE t e.path : Int) + 1), .int .i64 ((bytE t e.path : Int) + e.bytes), .int .i64 ((valE t e.path : Int) + e.vals)] := by
        unfold rowC
        rw [cntE_app, bytE_app, valE_app, o1, o2, o3]
        simp
      rw [e1]
      simpa [rowC] using h3
    · obtain ⟨c, ec, f1, f2, f3, f4⟩ := h.rows q v hq
      have hcb : c ≠ b := fun hc => hqe (h.inj q e.path v hq (by rw [hp, ec, hc]))
      refine ⟨c, ec, f1, f2, f3, (hk c hcb).trans ?_⟩
      obtain ⟨o1, o2, o3⟩ := one_E e q
      rw [if_neg (fun h => hqe h.symm)] at o1 o2 o3
      have e1 : rowC (t ++ [e]) q = rowC t q := by
        unfold rowC
        rw [cntE_app, bytE_app, valE_app, o1, o2, o3]
        simp
      rw [e1]
      exact f4
  · intro q
    rw [h.keys q]
    constructor
    · rintro (⟨e', h1, h2⟩ | h1)
      · exact .inl ⟨e', by simp [h1], h2⟩
      · injection h1 with h1; exact .inl ⟨e, by simp, h1⟩
    · rintro (⟨e', h1, h2⟩ | h1)
      · rcases List.mem_append.1 h1 with h1 | h1
        · exact .inl ⟨e', h1, h2⟩
        · simp at h1; subst h1; exact .inr (by rw [h2])
      · cases h1
end Go.Proofs.Ytphkmpnahnakaaa
namespace Go.Proofs.Ytphkmpnahnakaaa
open Go.RowKit
theorem toList_ne {p : ByteArray} (h : ¬ p.size = 0) : p.toList.isEmpty = false := by
  cases hb : p.toList.isEmpty with
  | false => rfl
  | true =>
    rw [List.isEmpty_iff] at hb
    rw [ByteArray.toList_eq] at hb
    refine absurd ?_ h
    show p.data.size = 0
    rw [← Array.length_toList, hb]
    rfl
set_option maxRecDepth 100000 in
set_option maxHeartbeats 4000000 in
theorem stats_under (p n : ByteArray) (w : World) (hl : p.size + n.size ≤ 9223372036854775806) : Calls Try.prog 31 #[.string p, .string n] w fun e w' => e = .returned (.string (underS p n)) ∧ w = w' := by
  by_cases h : p.size = 0
  · have hp : p = ⟨#[]⟩ := by cases p; simp [ByteArray.size] at h; rw [h]
    have hr : underS p n = n := by unfold underS; rw [if_pos h]
    rw [hr]
    have e1 : p.toList.isEmpty = true := by rw [hp, ByteArray.toList_eq]; rfl
    go_enter Try.func31, Try.ntmps31
    go_wp2_with fail
    go_ret
    exact ⟨rfl, rfl⟩
  · have hr : underS p n = p ++ ⟨#[46]⟩ ++ n := by unfold underS; rw [if_neg h]
    have e1 : p.toList.isEmpty = false := toList_ne h
    have e2 : ¬ 9223372036854775807 < p.size + 1 := by omega
    have e3 : ¬ 9223372036854775807 < p.size + 1 + n.size := by omega
    obtain ⟨R, HR⟩ : ∃ R, Hid (R = underS p n) := ⟨_, rfl⟩
    rw [← HR.out]
    go_enter Try.func31, Try.ntmps31
    go_wp2_with fail
    go_ret
    exact ⟨by rw [HR.out, hr]; rfl, rfl⟩
theorem zero_rowp : ∀ w : World, (zeroValue 59).run Try.prog w = .ok (.pointer none) w := fun w => by kernel_rfl
theorem row_lookup {w : World} {r : Nat} {es : List (ByteArray × Value)} (h : MapIs w r strK es) (p : ByteArray) : (Instr.lookup 51 (.map (some r)) (.string p) false).run Try.prog w = .ok ((getOf p es).getD (.pointer none)) w := by
  have := map_lookup (P := Try.prog) str_ok Try.underlying51 zero_rowp h p false
  simpa [strK] using this
variable {B0 B1 K r : Nat} {sv : Value} {G : Nat → Prop} {Wg W5 : World} {t : List SE} {n : Int} {es : List (ByteArray × Value)} {dv : Value} {ds : List Int} {w : World}
set_option maxRecDepth 100000 in
set_option maxHeartbeats 4000000 in
theorem book_row (h : BookI B0 B1 K r sv G Wg W5 t n none es dv ds w) (p : ByteArray) :
    Calls Try.prog 32 #[.pointer (some ⟨K, 0, none⟩), .string p] w fun e w' => ∃ b es', e = .returned (.pointer (some ⟨b, 0, none⟩)) ∧ getOf p es' = some (.pointer (some ⟨b, 0, none⟩)) ∧ BookI B0 B1 K r sv G Wg W5 t n (some p) es' dv ds w' := by
  obtain ⟨Q, HQ⟩ : ∃ Q : Ending → World → Prop, Hid (Q = fun e w' => ∃ b es', e = .returned (.pointer (some ⟨b, 0, none⟩)) ∧ getOf p es' = some (.pointer (some ⟨b, 0, none⟩)) ∧ BookI B0 B1 K r sv G Wg W5 t n (some p) es' dv ds w') := ⟨_, rfl⟩
  rw [← HQ.out]
  have HI := hid h
  have k1 := h.blk.cell 1 _ rfl
  have kl := h.blk.lt
  have hlk := row_lookup h.map p
  cases hg : getOf p es with
  | some v =>
    obtain ⟨b, rfl, -⟩ := h.rows p v hg
    rw [hg, Option.getD_some] at hlk
    have e1 : ∀ W : World, (binOp .eql 59 (.pointer (some ⟨b, 0, none⟩)) (.pointer none)).run Try.prog W = .ok (.bool false) W := fun W => by first | rfl | kernel_rfl | (simp [Sem.run, binOp, go_sem]; done)
    have HE : Hid (Q (.returned (.pointer (some ⟨b, 0, none⟩))) w) := by rw [HQ.out]; exact ⟨b, es, rfl, hg, h.mark (by rw [hg]; rfl)⟩
    clear h hg
    go_enter Try.func32, Try.ntmps32
    go_wp2_with fail
    exact HE.out
  | none =>
    rw [hg, Option.getD_none] at hlk
    obtain ⟨b, HB⟩ : ∃ b, Hid (b = w.heap.size) := ⟨_, rfl⟩
    obtain ⟨W1, HW1⟩ : ∃ W1, Hid (W1 = w.alloc (.cells #[.string p, .int .i64 0, .int .i64 0, .int .i64 0] 32)) := ⟨_, rfl⟩
    have hb1 : Below w.heap.size w W1 := by rw [HW1.out]; exact (Below.refl _ _).alloc (Nat.le_refl _) _
    have hk1 : Blk W1 b [.string p, .int .i64 0, .int .i64 0, .int .i64 0] 32 := by rw [HW1.out, HB.out]; exact Blk.new w [.string p, .int .i64 0, .int .i64 0, .int .i64 0] _
    have hI2 := h.fresh hg hb1 (by rw [HB.out]; exact Nat.le_refl _) hk1
    obtain ⟨W2, HW2⟩ : ∃ W2, Hid (W2 = putMap W1 r strK (es ++ [(p, Value.pointer (some ⟨b, 0, none⟩))])) := ⟨_, rfl⟩
    rw [← HW2.out] at hI2
    have hins : (Instr.mapUpdate 51 (.map (some r)) (.string p) (.pointer (some ⟨b, 0, none⟩))).run Try.prog W1 = .ok () W2 := by
      rw [HW2.out]
      exact map_insert (P := Try.prog) str_ok Try.underlying51 (h.later hb1).map p (.pointer (some ⟨b, 0, none⟩)) hg
    have hget : getOf p (es ++ [(p, .pointer (some ⟨b, 0, none⟩))]) = some (.pointer (some ⟨b, 0, none⟩)) := by
      have := putK_get p (.pointer (some ⟨b, 0, none⟩)) es p
      unfold putK at this
      rw [hg, if_neg (by simp), if_pos rfl] at this
      exact this
    have hlk2 := row_lookup hI2.map p
    rw [hget, Option.getD_some] at hlk2
    have j1 := hI2.blk.cell 1 _ rfl
    have jl := hI2.blk.lt
    have HE : Hid (Q (.returned (.pointer (some ⟨b, 0, none⟩))) W2) := by rw [HQ.out]; exact ⟨b, _, rfl, hget, hI2⟩
    have m1 := (h.later hb1).blk.cell 1 _ rfl
    have ml := (h.later hb1).blk.lt
    have e1 : ∀ W : World, (binOp .eql 59 (.pointer none) (.pointer none)).run Try.prog W = .ok (.bool true) W := fun W => by first | rfl | kernel_rfl | (simp [Sem.run, binOp, go_sem]; done)
    rw [HW1.out, HB.out] at hins
    rw [HW1.out] at m1 ml
    clear h hg hb1 hk1 hI2 hget
    go_enter Try.func32, Try.ntmps32
    go_upto_region 2 with fail
    go_wp2_with fail
    exact HE.out
end Go.Proofs.Ytphkmpnahnakaaa
