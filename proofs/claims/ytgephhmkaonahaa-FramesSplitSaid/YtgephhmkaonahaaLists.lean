/- Slices of slices of bytes: read (BytesL), and of the call's own (Rows). -/
import Derived.Test.YtgephhmkaonahaaFrames
import Derived.Test.YtgephhmkaonahaaFew
namespace Go.Proofs.Ytgephhmkaonahaa
open Go.RowKit Go.Shelf

/-- A [][]byte reads as ls. -/
def BytesL (w : World) (v : Value) (ls : List (List UInt8)) : Prop :=
  ∃ vs : List Value, vs.length = ls.length ∧ Seg w v 1 ls.length vs ∧ ∀ j, j < ls.length → Bytes w (vs.getD j undef) (ls.getD j [])

theorem BytesL.keep {w w' : World} {v : Value} {ls : List (List UInt8)} (h : BytesL w v ls) (hk : ∀ p u, w.cell? p = some u → w'.cell? p = some u) : BytesL w' v ls :=
  let ⟨vs, h1, h2, h3⟩ := h
  ⟨vs, h1, h2.keep hk, fun j hj => (h3 j hj).keep hk⟩

/-- What a walk wants. -/
theorem BytesL.open {w : World} {v : Value} {ls : List (List UInt8)} (h : BytesL w v ls) :
    ls.length ≤ 140737488355328 ∧ ∃ a cap, v = .slice a ls.length cap ∧ (a = none → cap = 0) ∧
      ∀ k, k < ls.length → ∃ b o x, a = some ⟨b, o, none⟩ ∧ w.cell? ⟨b, o + k, none⟩ = some x ∧ Bytes w x (ls.getD k []) := by
  obtain ⟨vs, h1, ⟨_, h2, a, cap, hv, h3, h4, h5, h6⟩, hb⟩ := h
  refine ⟨h2, a, cap, hv, h5, fun k hk => ?_⟩
  have hx : vs[k]? = some (vs.getD k undef) := by simp [List.getD, h1, hk]
  obtain ⟨b, o, ha, hc⟩ := h6 k _ hx
  exact ⟨b, o, _, ha, hc, hb k hk⟩

theorem row_keep {w w' : World} {base size n : Nat} {e : TypeId} {v : Value} {xs : List Value} (h : w.ownsRow base e size v n xs)
    (hk : ∀ b cur, base ≤ b → w.heap[b]? = some (.cells cur e (0, 0)) → w'.heap[b]? = w.heap[b]?) : w'.ownsRow base e size v n xs := by
  refine ⟨h.1, ?_⟩
  rcases h.2 with h2 | ⟨g, cap, cur, hv, hb, hg, hnc, hcm, hcs, ht⟩
  · exact .inl h2
  · exact .inr ⟨g, cap, cur, hv, hb, (hk g cur hb hg).trans hg, hnc, hcm, hcs, ht⟩

/-- A [][]byte of the call's own, whose elements are the call's own. -/
def Rows (W : World) (base : Nat) (lv : Value) (ls : List (List UInt8)) : Prop :=
  ∃ vs : List Value, W.ownsRow base 22 1 lv ls.length vs ∧ vs.length = ls.length ∧ ∀ j, j < ls.length → Own W base (vs.getD j undef) (ls.getD j [])

theorem rows_nil (W : World) (base : Nat) : Rows W base (.slice none 0 0) [] := ⟨[], World.ownsRow_nil _ _ _ _, rfl, fun j hj => by simp at hj⟩

theorem Rows.keep {W W' : World} {base : Nat} {lv : Value} {ls : List (List UInt8)} (h : Rows W base lv ls)
    (hk : ∀ b cur e, base ≤ b → W.heap[b]? = some (.cells cur e (0, 0)) → e = 22 ∨ e = 5 → W'.heap[b]? = W.heap[b]?) : Rows W' base lv ls :=
  let ⟨vs, h1, h2, h3⟩ := h
  ⟨vs, row_keep h1 (fun b cur hb he => hk b cur _ hb he (.inl rfl)), h2, fun j hj => row_keep (h3 j hj) (fun b cur hb he => hk b cur _ hb he (.inr rfl))⟩

theorem Rows.later {W W' : World} {base : Nat} {lv : Value} {ls : List (List UInt8)} (h : Rows W base lv ls) (hb : Below W.heap.size W W') : Rows W' base lv ls :=
  h.keep fun b _cur _e _ he _ => hb.block b (Array.getElem?_eq_some_iff.1 he).1

theorem blk_ne {W : World} {b b' : Nat} {cs : List Value} {T T' : TypeId} {cur : Array Value} (h : Blk W b cs T) (h' : W.heap[b']? = some (.cells cur T' (0, 0))) (hne : T ≠ T') : b' ≠ b := by
  rintro rfl
  unfold Blk at h
  rw [h] at h'
  injection h' with h'
  injection h' with _ ht
  exact hne ht

/-- A store into a box of another type. -/
theorem Rows.set {W : World} {base B : Nat} {lv x : Value} {ls : List (List UInt8)} {cs : List Value} {T : TypeId} (h : Rows W base lv ls) (hB : Blk W B cs T) (h1 : T ≠ 22) (h2 : T ≠ 5) (j : Nat) :
    Rows (W.setCell ⟨B, j, none⟩ x) base lv ls :=
  h.keep fun b cur e _ he hee => Below.heap_setCell W _ _ b (by
    show b ≠ B
    rcases hee with rfl | rfl
    · exact blk_ne hB he h1
    · exact blk_ne hB he h2)

theorem info_sl : (Try.prog.info? 22).map (fun i => (i.zero, i.size, i.bytes)) = some (some (.slice none 0 0), 1, 24) := by kernel_rfl
theorem under_rows : Try.prog.underlying 23 = some (.slice 22) := Try.underlying23

/-- append of one slice of bytes, laid in a block of its own (at W.heap.size) -/
theorem rows_append {W : World} {base : Nat} {lv x : Value} {ls : List (List UInt8)} {m : List UInt8} (h : Rows W base lv ls) (hx : Own W base x m) (hx1 : x.oneCell' = true) (hlen : ls.length + 1 ≤ 5497558138880) (hbase : base ≤ W.heap.size) :
    ∃ v' w', (Builtin.append_ #[23, 23] 23 #[lv, .slice (some ⟨W.heap.size, 0, none⟩) 1 1]).run Try.prog (W.alloc (.cells #[x] 22)) = .ok v' w' ∧ Rows w' base v' (ls ++ [m]) ∧
      (W.alloc (.cells #[x] 22)).grownBy w' lv.ownBlock ∧ (∀ k, lv.ownBlock = some k → base ≤ k ∧ ∃ cur, W.heap[k]? = some (.cells cur 22 (0, 0))) := by
  obtain ⟨vs, h1, h2, h3⟩ := h
  have hseg : Seg (W.alloc (.cells #[x] 22)) (.slice (some ⟨W.heap.size, 0, none⟩) 1 1) 1 1 [x] := by
    refine ⟨rfl, by omega, some ⟨W.heap.size, 0, none⟩, 1, rfl, Nat.le_refl _, by omega, by simp, fun j u hu => ⟨_, _, rfl, ?_⟩⟩
    have := cell_one_new W x 22 j u hu
    rwa [addr_add] at this
  have hob : ∀ k, lv.ownBlock = some k → base ≤ k ∧ ∃ cur, W.heap[k]? = some (.cells cur 22 (0, 0)) := by
    intro k hk
    rcases h1.2 with ⟨rfl, _⟩ | ⟨g, cap, cur, rfl, hb, hg, _⟩
    · simp [Value.ownBlock] at hk
    · simp [Value.ownBlock] at hk; subst hk; exact ⟨hb, cur, hg⟩
  obtain ⟨v', w', hr, hO, hg, hat⟩ := seg_append (P := Try.prog) (W.alloc (.cells #[x] 22)) base 23 23 22 (.slice none 0 0) 1 24 under_rows info_sl rfl (by decide) lv _ ls.length 1 vs [x]
    (World.ownsRow.alloc h1 _) hseg (by intro u hu; simp at hu; subst hu; exact hx1) (by omega) (by omega) (by simp; omega)
  refine ⟨v', w', hr, ⟨vs ++ [x], by simpa using hO, by simp [h2], fun j hj => ?_⟩, hg, hob⟩
  have keep : ∀ {y : Value} {k : List UInt8}, Own W base y k → Own w' base y k := fun {y k} hy =>
    row_keep hy fun b cur hb he => (hg.block b (by have := (Array.getElem?_eq_some_iff.1 he).1; simp; omega) (fun hh => by
      obtain ⟨_, cur', hc⟩ := hob b hh.symm
      rw [he] at hc
      injection hc with hc
      injection hc with _ ht
      exact absurd ht (by decide))).trans (Below.heap_alloc W _ b (Array.getElem?_eq_some_iff.1 he).1)
  simp at hj
  by_cases hjl : j < ls.length
  · have := keep (h3 j hjl)
    simpa [List.getD, List.getElem?_append_left, hjl, h2] using this
  · have : j = ls.length := by omega
    subst this
    have := keep hx
    simpa [List.getD, h2] using this

theorem Rows.bytesL {W : World} {base : Nat} {lv : Value} {ls : List (List UInt8)} (h : Rows W base lv ls) (hn : ls.length ≤ 140737488355328) (hm : ∀ l ∈ ls, l.length ≤ 140737488355328) : BytesL W lv ls :=
  let ⟨vs, h1, h2, h3⟩ := h
  ⟨vs, h2, row_seg h1 hn, fun j hj => (h3 j hj).bytes (hm _ (getD_mem _ _ hj))⟩

theorem Own.mono {W : World} {b b' : Nat} {v : Value} {l : List UInt8} (h : Own W b v l) (hb : b' ≤ b) : Own W b' v l :=
  ⟨h.1, h.2.imp id (fun ⟨g, cap, cur, hv, hg, r⟩ => ⟨g, cap, cur, hv, Nat.le_trans hb hg, r⟩)⟩
theorem Rows.mono {W : World} {b b' : Nat} {v : Value} {ls : List (List UInt8)} (h : Rows W b v ls) (hb : b' ≤ b) : Rows W b' v ls :=
  let ⟨vs, h1, h2, h3⟩ := h
  ⟨vs, ⟨h1.1, h1.2.imp id (fun ⟨g, cap, cur, hv, hg, r⟩ => ⟨g, cap, cur, hv, Nat.le_trans hb hg, r⟩)⟩, h2, fun j hj => (h3 j hj).mono hb⟩
theorem Own.form {w : World} {base : Nat} {v : Value} {l : List UInt8} (h : Own w base v l) : ∃ a c, v = .slice a l.length c := by
  rcases h.2 with ⟨rfl, h0⟩ | ⟨g, cap, cur, rfl, _⟩
  · exact ⟨none, 0, by rw [h0]⟩
  · exact ⟨_, _, rfl⟩
theorem Rows.form {w : World} {base : Nat} {v : Value} {ls : List (List UInt8)} (h : Rows w base v ls) : ∃ a c, v = .slice a ls.length c := by
  obtain ⟨vs, h1, -, -⟩ := h
  rcases h1.2 with ⟨rfl, h0⟩ | ⟨g, cap, cur, rfl, _⟩
  · exact ⟨none, 0, by rw [h0]⟩
  · exact ⟨_, _, rfl⟩

theorem own_one {w : World} {base : Nat} {v : Value} {l : List UInt8} (h : Own w base v l) : v.oneCell' = true := by
  rcases h.2 with ⟨rfl, _⟩ | ⟨g, cap, cur, rfl, _⟩ <;> rfl

end Go.Proofs.Ytgephhmkaonahaa
