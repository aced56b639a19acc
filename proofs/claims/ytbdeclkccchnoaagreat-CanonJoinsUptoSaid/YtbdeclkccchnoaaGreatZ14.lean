/- Parts of a proof: texts of the author, merged. No condition of their own. -/
import Derived.Test.YtbdeclkccchnoaaGreatZ10
import Derived.Test.YtbdeclkccchnoaaGreatZ12
import Derived.Test.YtbdeclkccchnoaaGreatZ13
namespace Go.Proofs.YtbdeclkccchnoaaGreat
open Go.RowKit Go.Shelf
def PcsOwn (n0 : Nat) (w : World) (base : Nat) (v : Value) (bs : List (List UInt8)) : Prop :=
  ∃ vs : List Value, vs.length = bs.length ∧ w.ownsRow base 32 1 v bs.length vs ∧ ∀ w', (∀ b, b < n0 → w'.heap[b]? = w.heap[b]?) → ∀ (i : Nat) (u : Value) (t : List UInt8), vs[i]? = some u → bs[i]? = some t → Bytes w' u t
theorem PcsOwn.nil (n0 : Nat) (w : World) (base : Nat) : PcsOwn n0 w base noneS [] := ⟨[], rfl, World.ownsRow_nil _ _ _ _, fun _ _ i u t h => by simp at h⟩
theorem PcsOwn.form {n0 : Nat} {w : World} {base : Nat} {v : Value} {bs : List (List UInt8)} (h : PcsOwn n0 w base v bs) : ∃ a c, v = .slice a bs.length c := by
  obtain ⟨vs, -, h2, -⟩ := h
  rcases h2.2 with ⟨h1, h0⟩ | ⟨g, cap, cur, hv, -⟩
  · exact ⟨none, 0, by rw [h1, h0]⟩
  · exact ⟨_, _, hv⟩
theorem PcsOwn.own {n0 : Nat} {w : World} {base : Nat} {v : Value} {bs : List (List UInt8)} (h : PcsOwn n0 w base v bs) (b : Nat) (e : v.ownBlock = some b) : base ≤ b ∧ b < w.heap.size := by
  obtain ⟨vs, -, h2, -⟩ := h
  exact World.ownsRow.lt h2 b e
theorem PcsOwn.keep {n0 : Nat} {w w' : World} {base : Nat} {v : Value} {bs : List (List UInt8)} (h : PcsOwn n0 w base v bs) (hk : ∀ b, v.ownBlock = some b → w'.heap[b]? = w.heap[b]?) (h0 : ∀ b, b < n0 → w'.heap[b]? = w.heap[b]?) : PcsOwn n0 w' base v bs := by
  obtain ⟨vs, h1, h2, h3⟩ := h
  refine ⟨vs, h1, ?_, fun w2 hw2 => h3 w2 fun b hb => (hw2 b hb).trans (h0 b hb)⟩
  refine ⟨h2.1, ?_⟩
  rcases h2.2 with h | ⟨g, cap, cur, hv, hb, hg, hr⟩
  · exact .inl h
  · exact .inr ⟨g, cap, cur, hv, hb, (hk g (by rw [hv]; rfl)).trans hg, hr⟩
theorem WordsOwn.keep {w w' : World} {base : Nat} {v : Value} {l : List Nat} (h : WordsOwn w base v l) (hk : ∀ b, v.ownBlock = some b → w'.heap[b]? = w.heap[b]?) : WordsOwn w' base v l := by
  refine ⟨h.1, ?_⟩
  rcases h.2 with h | ⟨g, cap, cur, hv, hb, hg, hr⟩
  · exact .inl h
  · exact .inr ⟨g, cap, cur, hv, hb, (hk g (by rw [hv]; rfl)).trans hg, hr⟩
theorem WordsOwn.own {w : World} {base : Nat} {v : Value} {l : List Nat} (h : WordsOwn w base v l) (b : Nat) (e : v.ownBlock = some b) : base ≤ b ∧ b < w.heap.size := World.ownsRow.lt h b e
theorem PcsOwn.at {n0 : Nat} {w : World} {base : Nat} {v : Value} {bs : List (List UInt8)} (h : PcsOwn n0 w base v bs) (hn : bs.length ≤ 140737488355328) : PcsAt w v bs := by
  obtain ⟨vs, h1, h2, h3⟩ := h
  exact ⟨vs, h1, row_seg h2 hn, h3 w fun _ _ => rfl⟩
theorem info_bytes : (Tryz.prog.info? 32).map (fun i => (i.zero, i.size, i.bytes)) = some (some (.slice none 0 0), 1, 24) := by kernel_rfl
theorem PcsOwn.one {n0 : Nat} {W : World} {base : Nat} {v u : Value} {bs : List (List UInt8)} (h : PcsOwn n0 W base v bs) (t : List UInt8) (hu1 : u.oneCell' = true) (hu : ∀ w', (∀ b, b < n0 → w'.heap[b]? = W.heap[b]?) → Bytes w' u t) (hn : bs.length ≤ 1099511627776) (hB : base ≤ W.heap.size) (hn0 : n0 ≤ base) :
    ∃ v' w', (Builtin.append_ #[96, 96] 96 #[v, .slice (some ⟨W.heap.size, 0, none⟩) 1 1]).run Tryz.prog (W.alloc (.cells #[u] 32)) = .ok v' w' ∧ PcsOwn n0 w' base v' (bs ++ [t]) ∧ W.grownBy w' v.ownBlock ∧ (v'.ownBlock = v.ownBlock ∨ ∃ b, v'.ownBlock = some b ∧ W.heap.size ≤ b) := by
  obtain ⟨vs, g1, g2, g3⟩ := h
  have hA : Below W.heap.size W (W.alloc (.cells #[u] 32)) := (Below.refl _ _).alloc (Nat.le_refl _) _
  have hx : Seg (W.alloc (.cells #[u] 32)) (.slice (some ⟨W.heap.size, 0, none⟩) 1 1) 1 1 [u] := seg_blk (Blk.new W [u] _) 1 1 rfl (by omega)
  have h' : (W.alloc (.cells #[u] 32)).ownsRow base 32 1 v bs.length vs := row_keep g2 fun b _ _ he => hA.block b (Array.getElem?_eq_some_iff.1 he).1
  obtain ⟨v', w', h1, h2, h3, h4⟩ := seg_append (P := Tryz.prog) _ base 96 96 32 (.slice none 0 0) 1 24 under_bytesl info_bytes rfl (by decide) v _ bs.length 1 _ _ h' hx (by intro y hy; simp at hy; subst hy; exact hu1) (by omega) (by omega) (by simp; omega)
  have hG : W.grownBy w' v.ownBlock := ⟨h3.os, h3.tape, h3.output, Nat.le_trans (by simp) h3.size, fun k hk hr => (h3.block k (by simp; omega) hr).trans (Below.heap_alloc W _ k hk)⟩
  have h0 : ∀ b, b < n0 → w'.heap[b]? = W.heap[b]? := fun b hb => hG.block b (by omega) fun e => by have := (World.ownsRow.lt g2 b e.symm).1; omega
  refine ⟨v', w', h1, ⟨vs ++ [u], by simp [g1], by rw [List.length_append]; exact h2, fun w2 hw2 i y s hy hs => ?_⟩, hG, ?_⟩
  · have hw : ∀ b, b < n0 → w2.heap[b]? = W.heap[b]? := fun b hb => (hw2 b hb).trans (h0 b hb)
    by_cases hi : i < vs.length
    · rw [List.getElem?_append_left hi] at hy
      rw [List.getElem?_append_left (by omega)] at hs
      exact g3 w2 hw i y s hy hs
    · have hi2 : i = vs.length := by
        have := (List.getElem?_eq_some_iff.1 hy).1
        simp at this; omega
      subst hi2
      rw [List.getElem?_concat_length] at hy
      rw [g1, List.getElem?_concat_length] at hs
      cases hy; cases hs
      exact hu w2 hw
  · rcases h4 with h4 | h4
    · exact .inl h4
    · exact .inr ⟨_, h4, by simp⟩
structure Pcs (n0 B : Nat) (f : Fld) (g : Nat) (wv vv : Value) (ws : List Nat) (bs : List (List UInt8)) (w : World) : Prop where
  box : Blk w g (f.cells ++ [wv, vv]) 98
  words : WordsOwn w B wv ws
  vals : PcsOwn n0 w B vv bs
  wg : wv.ownBlock ≠ some g
  vg : vv.ownBlock ≠ some g
  wv : ∀ b, wv.ownBlock = some b → vv.ownBlock ≠ some b
  bg : B ≤ g
def PcsStep (g : Nat) (wv vv : Value) (w : World) (wv' vv' : Value) (w' : World) : Prop :=
  w'.os = w.os ∧ w'.tape = w.tape ∧ w'.output = w.output ∧ w.heap.size ≤ w'.heap.size ∧ (∀ b, b < w.heap.size → b ≠ g → wv.ownBlock ≠ some b → vv.ownBlock ≠ some b → w'.heap[b]? = w.heap[b]?) ∧
  (wv'.ownBlock = wv.ownBlock ∨ ∃ b, wv'.ownBlock = some b ∧ w.heap.size ≤ b) ∧ (vv'.ownBlock = vv.ownBlock ∨ ∃ b, vv'.ownBlock = some b ∧ w.heap.size ≤ b)
theorem Pcs.below {n0 B : Nat} {f : Fld} {g : Nat} {wv vv : Value} {ws : List Nat} {bs : List (List UInt8)} {w w' : World} (h : Pcs n0 B f g wv vv ws bs w) (hb : Below w.heap.size w w') (hn : n0 ≤ B) : Pcs n0 B f g wv vv ws bs w' :=
  ⟨h.box.below hb, h.words.later hb, h.vals.keep (fun b e => hb.block b (h.vals.own b e).2) (fun b hlt => hb.block b (by have := h.box.lt; have := h.bg; omega)), h.wg, h.vg, h.wv, h.bg⟩
theorem words_app {w : World} {base : Nat} {v x : Value} {l m : List Nat} (h : WordsOwn w base v l) (hx : WordsAt w x m) (hlen : l.length + m.length ≤ 17592186044416) (hbase : base ≤ w.heap.size) :
    ∃ v' w', (Builtin.append_ #[49, 49] 49 #[v, x]).run Tryz.prog w = .ok v' w' ∧ WordsOwn w' base v' (l ++ m) ∧ w.grownBy w' v.ownBlock ∧ (v'.ownBlock = v.ownBlock ∨ ∃ b, v'.ownBlock = some b ∧ w.heap.size ≤ b) := by
  obtain ⟨v', w', hr, hO, hg, hat⟩ := seg_append (P := Tryz.prog) w base 49 49 48 (.int .u64 0) 1 8 under_words info_u64 rfl (by decide) v x l.length m.length _ _ h hx.1
    (by intro u hu; obtain ⟨c, -, rfl⟩ := List.mem_map.1 hu; rfl) (by omega) (by omega) hbase
  refine ⟨v', w', hr, ?_, hg, hat.imp id fun e => ⟨_, e, Nat.le_refl _⟩⟩
  unfold WordsOwn
  rw [List.length_append, List.map_append]
  exact hO
theorem word_app1 {W : World} {base : Nat} {v : Value} {l : List Nat} (h : WordsOwn W base v l) (y : Nat) (hn : l.length ≤ 1099511627776) (hB : base ≤ W.heap.size) :
    ∃ v' w', (Builtin.append_ #[49, 49] 49 #[v, .slice (some ⟨W.heap.size, 0, none⟩) 1 1]).run Tryz.prog (W.alloc (.cells #[.int .u64 (y : Int)] 48)) = .ok v' w' ∧ WordsOwn w' base v' (l ++ [y]) ∧ W.grownBy w' v.ownBlock ∧ (v'.ownBlock = v.ownBlock ∨ ∃ b, v'.ownBlock = some b ∧ W.heap.size ≤ b) := by
  have hA : Below W.heap.size W (W.alloc (.cells #[.int .u64 (y : Int)] 48)) := (Below.refl _ _).alloc (Nat.le_refl _) _
  have hx : Seg (W.alloc (.cells #[.int .u64 (y : Int)] 48)) (.slice (some ⟨W.heap.size, 0, none⟩) 1 1) 1 1 [.int .u64 (y : Int)] := seg_blk (Blk.new W [.int .u64 (y : Int)] _) 1 1 rfl (by omega)
  obtain ⟨v', w', h1, h2, h3, h4⟩ := seg_append (P := Tryz.prog) _ base 49 49 48 (.int .u64 0) 1 8 under_words info_u64 rfl (by decide) v _ l.length 1 _ _ (h.later hA) hx (by intro u hu; simp at hu; subst hu; rfl) (by omega) (by omega) (by simp; omega)
  refine ⟨v', w', h1, ?_, ⟨h3.os, h3.tape, h3.output, Nat.le_trans (by simp) h3.size, fun k hk hr => (h3.block k (by simp; omega) hr).trans (Below.heap_alloc W _ k hk)⟩, h4.imp id fun e => ⟨_, e, by simp⟩⟩
  unfold WordsOwn
  rw [List.length_append, List.map_append]
  exact h2
theorem Pcs.pushW {n0 B : Nat} {f : Fld} {g : Nat} {wv vv wv' : Value} {ws ws' : List Nat} {bs : List (List UInt8)} {w w7 : World} (h : Pcs n0 B f g wv vv ws bs w) (hg : w.grownBy w7 wv.ownBlock) (hO : WordsOwn w7 B wv' ws')
    (hat : wv'.ownBlock = wv.ownBlock ∨ ∃ b, wv'.ownBlock = some b ∧ w.heap.size ≤ b) (hn0 : n0 ≤ B) :
    Blk w7 g (f.cells ++ [wv, vv]) 98 ∧ Pcs n0 B f g wv' vv ws' bs (w7.setCell ⟨g, 6, none⟩ wv') ∧ PcsStep g wv vv w wv' vv (w7.setCell ⟨g, 6, none⟩ wv') := by
  have hgl := h.box.lt
  have hbg := h.bg
  have b7 : Blk w7 g (f.cells ++ [wv, vv]) 98 := (hg.block g hgl (fun e => h.wg e.symm)).trans h.box
  have hwg : wv'.ownBlock ≠ some g := by
    rcases hat with e | ⟨b, e, hb⟩
    · rw [e]; exact h.wg
    · rw [e]; intro e2; injection e2 with e2; omega
  refine ⟨b7, ⟨by simpa [Fld.cells] using b7.set 6 wv', hO.keep fun b e => Below.heap_setCell _ _ _ b (by show b ≠ g; rintro rfl; exact hwg e), ?_, hwg, h.vg, ?_, hbg⟩, hg.os, hg.tape, hg.output, by simpa using hg.size, ?_, hat, .inl rfl⟩
  · refine h.vals.keep (fun b e => ?_) fun b hb => ?_
    · rw [Below.heap_setCell _ _ _ b (by show b ≠ g; rintro rfl; exact h.vg e)]
      exact hg.block b (h.vals.own b e).2 fun e2 => h.wv b e2.symm e
    · rw [Below.heap_setCell _ _ _ b (by show b ≠ g; omega)]
      exact hg.block b (by omega) fun e => by have := (h.words.own b e.symm).1; omega
  · intro b e e2
    rcases hat with e3 | ⟨b', e3, hb⟩
    · exact h.wv b (by rw [← e3]; exact e) e2
    · rw [e3] at e
      injection e with e
      have := (h.vals.own b e2).2
      omega
  · intro b hlt h1 h2 h3
    rw [Below.heap_setCell _ _ _ b (by show b ≠ g; exact h1)]
    exact hg.block b hlt fun e => h2 e.symm
theorem Pcs.pushV {n0 B : Nat} {f : Fld} {g : Nat} {wv vv vv' : Value} {ws : List Nat} {bs bs' : List (List UInt8)} {w w7 : World} (h : Pcs n0 B f g wv vv ws bs w) (hg : w.grownBy w7 vv.ownBlock) (hO : PcsOwn n0 w7 B vv' bs')
    (hat : vv'.ownBlock = vv.ownBlock ∨ ∃ b, vv'.ownBlock = some b ∧ w.heap.size ≤ b) (hn0 : n0 ≤ B) :
    Blk w7 g (f.cells ++ [wv, vv]) 98 ∧ Pcs n0 B f g wv vv' ws bs' (w7.setCell ⟨g, 7, none⟩ vv') ∧ PcsStep g wv vv w wv vv' (w7.setCell ⟨g, 7, none⟩ vv') := by
  have hgl := h.box.lt
  have hbg := h.bg
  have b7 : Blk w7 g (f.cells ++ [wv, vv]) 98 := (hg.block g hgl (fun e => h.vg e.symm)).trans h.box
  have hvg : vv'.ownBlock ≠ some g := by
    rcases hat with e | ⟨b, e, hb⟩
    · rw [e]; exact h.vg
    · rw [e]; intro e2; injection e2 with e2; omega
  refine ⟨b7, ⟨by simpa [Fld.cells] using b7.set 7 vv', ?_, ?_, h.wg, hvg, ?_, hbg⟩, hg.os, hg.tape, hg.output, by simpa using hg.size, ?_, .inl rfl, hat⟩
  · refine h.words.keep fun b e => ?_
    rw [Below.heap_setCell _ _ _ b (by show b ≠ g; rintro rfl; exact h.wg e)]
    exact hg.block b (h.words.own b e).2 fun e2 => h.wv b e e2.symm
  · refine hO.keep (fun b e => Below.heap_setCell _ _ _ b (by show b ≠ g; rintro rfl; exact hvg e)) fun b hb => Below.heap_setCell _ _ _ b (by show b ≠ g; omega)
  · intro b e e2
    rcases hat with e3 | ⟨b', e3, hb⟩
    · exact h.wv b e (by rw [← e3]; exact e2)
    · rw [e3] at e2
      injection e2 with e2
      have := (h.words.own b e).2
      omega
  · intro b hlt h1 h2 h3
    rw [Below.heap_setCell _ _ _ b (by show b ≠ g; exact h1)]
    exact hg.block b hlt fun e => h3 e.symm
theorem PcsStep.ahead {g : Nat} {wv vv wv' vv' : Value} {w W1 w' : World} (hb1 : Below w.heap.size w W1) (h : PcsStep g wv vv W1 wv' vv' w') : PcsStep g wv vv w wv' vv' w' := by
  obtain ⟨s1, s2, s3, s4, s5, s6, s7⟩ := h
  exact ⟨s1.trans hb1.os, s2.trans hb1.tape, s3.trans hb1.output, Nat.le_trans hb1.size s4, fun b hlt g1 g2 g3 => (s5 b (Nat.lt_of_lt_of_le hlt hb1.size) g1 g2 g3).trans (hb1.block b hlt), s6.imp id fun ⟨b, e, hb⟩ => ⟨b, e, Nat.le_trans hb1.size hb⟩, s7.imp id fun ⟨b, e, hb⟩ => ⟨b, e, Nat.le_trans hb1.size hb⟩⟩
theorem WordsOwn.form' {w : World} {base : Nat} {v : Value} {l : List Nat} (h : WordsOwn w base v l) : ∃ a n c, v = .slice a n c := by
  obtain ⟨a, c, e⟩ := h.form; exact ⟨a, _, c, e⟩
theorem PcsOwn.form' {n0 : Nat} {w : World} {base : Nat} {v : Value} {l : List (List UInt8)} (h : PcsOwn n0 w base v l) : ∃ a n c, v = .slice a n c := by
  obtain ⟨a, c, e⟩ := h.form; exact ⟨a, _, c, e⟩
set_option maxRecDepth 100000 in
set_option maxHeartbeats 4000000 in
theorem pieces_add {n0 B : Nat} {f : Fld} {g : Nat} {wv vv : Value} {ws : List Nat} {bs : List (List UInt8)} {w : World} (h : Pcs n0 B f g wv vv ws bs w) (hn0 : n0 ≤ B) (hws : ws.length ≤ 1099511627776) (hbs : bs.length ≤ 1099511627776)
    {l : List UInt8} {x : VW} {bv : Value} (hbv : ∀ w', (∀ b, b < n0 → w'.heap[b]? = w.heap[b]?) → Bytes w' bv (vbytes l x)) (hlen : (vbytes l x).length ≤ 1099511627776) (hpl : (pieceW f l x).length ≤ 1099511627776) (hrun : x.run = true → knumber f.kind = true) :
    Calls Tryz.prog 40 #[.pointer (some ⟨g, 0, none⟩), viewV x.r x.k x.run, bv] w fun e w' => e = .returned (.tuple #[]) ∧ ∃ wv' vv', Pcs n0 B f g wv' vv' (ws ++ pieceW f l x) (bs ++ pieceB f l x) w' ∧ PcsStep g wv vv w wv' vv' w' := by
  obtain ⟨⟨x1, x2, x3, x4, x5⟩, xk, xrun⟩ := x
  obtain ⟨wa, wc, rfl⟩ := h.words.form
  obtain ⟨va, vc, rfl⟩ := h.vals.form
  obtain ⟨W1, HW1⟩ : ∃ W1, Hid (W1 = w.alloc (.cells #[.int .i64 x1, .int .i64 x2, .int .i64 x3, .int .i64 x4, .int .i64 x5, .int .i64 xk, .bool xrun] 93)) := ⟨_, rfl⟩
  have hb1 : Below w.heap.size w W1 := by rw [HW1.out]; exact (Below.refl _ _).alloc (Nat.le_refl _) _
  have hx1 : Blk W1 w.heap.size [.int .i64 x1, .int .i64 x2, .int .i64 x3, .int .i64 x4, .int .i64 x5, .int .i64 xk, .bool xrun] 93 := by rw [HW1.out]; exact Blk.new w [.int .i64 x1, .int .i64 x2, .int .i64 x3, .int .i64 x4, .int .i64 x5, .int .i64 xk, .bool xrun] _
  have h1 := h.below hb1 hn0
  have hgw : B ≤ W1.heap.size := by have := h1.box.lt; have := h1.bg; omega
  have hv1 : ∀ w', (∀ b, b < n0 → w'.heap[b]? = W1.heap[b]?) → Bytes w' bv (vbytes l ⟨⟨x1, x2, x3, x4, x5⟩, xk, xrun⟩) := fun w' hw' => hbv w' fun b hb => (hw' b hb).trans (hb1.block b (by have := h.box.lt; have := h.bg; omega))
  have hby := hv1 W1 fun _ _ => rfl
  obtain ⟨hbl, ba, bc, rfl, -⟩ := hby.open
  obtain ⟨y, HY⟩ : ∃ y, Hid (y = vbytes l ⟨⟨x1, x2, x3, x4, x5⟩, xk, xrun⟩) := ⟨_, rfl⟩
  rw [← HY.out] at hv1 hby hbl hlen
  obtain ⟨bn, HBN⟩ : ∃ n, Hid (n = y.length) := ⟨_, rfl⟩
  have HST : Hid (∀ wv' vv' w', PcsStep g (.slice wa ws.length wc) (.slice va bs.length vc) W1 wv' vv' w' → PcsStep g (.slice wa ws.length wc) (.slice va bs.length vc) w wv' vv' w') := fun _ _ _ h => h.ahead hb1
  have f2 := h1.box.cell 2 (.int .i64 f.kind) rfl
  have f6 := h1.box.cell 6 _ rfl
  have f7 := h1.box.cell 7 _ rfl
  have fz6 := h1.box.free 6
  have fz7 := h1.box.free 7
  have fl := h1.box.lt
  have c6 := hx1.cell 6 _ rfl
  have H1 := hid h1
  have HV1 := hid hv1
  have HBY := hid hby
  have HGW := hid hgw
  have HLN := hid hlen
  obtain ⟨wl, HWL⟩ : ∃ n, Hid (n = ws.length) := ⟨_, rfl⟩
  obtain ⟨vl, HVL⟩ : ∃ n, Hid (n = bs.length) := ⟨_, rfl⟩
  obtain ⟨pw, HPW⟩ : ∃ pw, Hid (pw = pieceW f l ⟨⟨x1, x2, x3, x4, x5⟩, xk, xrun⟩) := ⟨_, rfl⟩
  obtain ⟨pb, HPB⟩ : ∃ pb, Hid (pb = pieceB f l ⟨⟨x1, x2, x3, x4, x5⟩, xk, xrun⟩) := ⟨_, rfl⟩
  rw [← HWL.out, ← HVL.out] at H1 HST
  rw [← HWL.out] at f6 hws
  rw [← HVL.out] at f7 hbs
  rw [← HBN.out] at hbl hlen HV1 HBY
  rw [← HPW.out] at hpl ⊢
  rw [← HPB.out, ← HY.out, ← HBN.out]
  unfold viewV
  simp only at hrun ⊢
  have HPL := hid hpl
  have HWS := hid hws
  have HBS := hid hbs
  clear h hb1 hx1 h1 hgw hbv hv1 hby hpl
  go_enter Tryz.func40, Tryz.ntmps40
  go_upto_region 2 with fail
  rw [← HW1.out]
  cases xrun with
  | true =>
    have hk := hrun rfl
    have HK := hid hk
    have HPE : Hid (pw = (runWords f.kind y).1) := by
      rw [HPW.out, HY.out]; unfold pieceW; rw [if_pos rfl]; exact Eq.refl _
    have HPB0 : Hid (pb = []) := by
      rw [HPB.out]; unfold pieceB; rw [if_pos (.inl rfl)]; exact Eq.refl _
    have HRW := hid (run_Words HBY.out HLN.out f.kind hk)
    have HPT : Hid (∀ u ∈ pw, u < 2 ^ 64) := by rw [HPW.out]; exact fun u hu => pieceW_lt hu
    clear hk hrun
    go_wp2_with (first | (go_at_call 67; refine HRW.out.mono ?_; rintro e w6 ⟨v6, rfl, hO6, hb6⟩; rw [← HPE.out] at hO6; obtain ⟨a6, c6', rfl⟩ := hO6.form; have H6 := H1.out.below hb6 hn0; obtain ⟨v7, w7, hr, hO7, hg7, hat7⟩ := words_app H6.words (hO6.words (by have := HPL.out; omega) HPT.out) (by have := HPL.out; have := HWS.out; have := HWL.out; omega) (by have := hb6.size; have := HGW.out; omega); obtain ⟨a7, n7, c7, rfl⟩ := hO7.form'; obtain ⟨g1, g2, g3⟩ := H6.pushW hg7 hO7 hat7 hn0; have q0 := H6.box.cell 6 _ rfl; have q1 := g1.cell 6 _ rfl; have q2 := g1.free 6; have q3 := g1.lt; have HR := hid hr; have G2 := hid g2; have G3 := hid g3; have HB6 := hid hb6; clear hr g1 g2 g3 hO7 hg7 hat7 H6 hO6 hb6) | (at_builtin; refine wpList_append_eq rfl _ _ _ rfl _ _ rfl rfl HR.out ?_))
    go_end0
    refine ⟨rfl, .slice a7 n7 c7, .slice va vl vc, ?_, ?_⟩
    · rw [HPB0.out, List.append_nil]; exact G2.out
    · rw [← HWL.out, ← HVL.out]; exact HST.out _ _ _ (G3.out.ahead HB6.out)
  | false =>
    cases hnum : knumber f.kind with
    | true =>
      have HK := hid hnum
      obtain ⟨zw, HZW⟩ : ∃ zw, Hid (zw = kread f.kind y) := ⟨_, rfl⟩
      obtain ⟨z1, z2⟩ := zw
      have HPE : Hid (pw = [z1]) := by
        rw [HPW.out]; unfold pieceW; rw [if_neg (show ¬ false = true by decide), if_pos HK.out, ← HY.out, ← HZW.out]; exact Eq.refl _
      have HPB0 : Hid (pb = []) := by
        rw [HPB.out]; unfold pieceB; rw [if_pos (.inr HK.out)]; exact Eq.refl _
      have HRD := hid (scalar_Read HK.out HBY.out)
      rw [← HZW.out] at HRD
      clear hnum hrun
      go_wp2_with (first | (go_at_call 54; refine (kind_Number f.kind _).mono ?_; rintro e w5 ⟨rfl, hb5⟩; rw [HK.out]; have k2 := below_keeps hb5 _ _ f2; have HB5 := hid hb5; have HBY5 := hid (HV1.out w5 fun b hb => hb5.block b (by have := H1.out.box.lt; have := H1.out.bg; omega)); clear hb5) | (go_at_call 68; refine (scalar_Read HK.out HBY5.out).mono ?_; rintro e w6 ⟨rfl, hb6⟩; rw [← HZW.out]; have hb16 := HB5.out.trans (hb6.mono HB5.out.size); have H6 := H1.out.below hb16 hn0; obtain ⟨v7, w7, hr, hO7, hg7, hat7⟩ := word_app1 H6.words z1 (by have := HWS.out; have := HWL.out; omega) (by have := hb16.size; have := HGW.out; omega); obtain ⟨a7, n7, c7, rfl⟩ := hO7.form'; obtain ⟨g1, g2, g3⟩ := H6.pushW hg7 hO7 hat7 hn0; have q0 := H6.box.cell 6 _ rfl; have q1 := g1.cell 6 _ rfl; have q2 := g1.free 6; have q3 := g1.lt; have HR := hid hr; have G2 := hid g2; have G3 := hid g3; have HB6 := hid hb16; clear hr g1 g2 g3 hO7 hg7 hat7 H6 hb6 hb16) | (at_builtin; refine wpList_append_eq rfl _ _ _ rfl _ _ rfl rfl HR.out ?_))
      go_end0
      refine ⟨rfl, .slice a7 n7 c7, .slice va vl vc, ?_, ?_⟩
      · rw [HPB0.out, List.append_nil, HPE.out]; exact G2.out
      · rw [← HWL.out, ← HVL.out]; exact HST.out _ _ _ (G3.out.ahead HB6.out)
    | false =>
      have HK := hid hnum
      have HPE : Hid (pw = []) := by
        rw [HPW.out]; unfold pieceW; rw [if_neg (show ¬ false = true by decide), if_neg (by rw [HK.out]; decide)]; exact Eq.refl _
      have HPB0 : Hid (pb = [y]) := by
        rw [HPB.out]; unfold pieceB; rw [if_neg (by rw [HK.out]; simp), ← HY.out]; exact Eq.refl _
      clear hnum hrun
      go_wp2_with (first | (go_at_call 54; refine (kind_Number f.kind _).mono ?_; rintro e w6 ⟨rfl, hb6⟩; rw [HK.out]; have H6 := H1.out.below hb6 hn0; obtain ⟨v7, w7, hr, hO7, hg7, hat7⟩ := H6.vals.one y (u := .slice ba bn bc) rfl (fun w' hw' => HV1.out w' fun b hb => (hw' b hb).trans (hb6.block b (by have := H1.out.box.lt; have := H1.out.bg; omega))) (by have := HBS.out; have := HVL.out; omega) (by have := hb6.size; have := HGW.out; omega) hn0; obtain ⟨a7, n7, c7, rfl⟩ := hO7.form'; obtain ⟨g1, g2, g3⟩ := H6.pushV hg7 hO7 hat7 hn0; have q0 := H6.box.cell 7 _ rfl; have q1 := g1.cell 7 _ rfl; have q2 := g1.free 7; have q3 := g1.lt; have HR := hid hr; have G2 := hid g2; have G3 := hid g3; have HB6 := hid hb6; clear hr g1 g2 g3 hO7 hg7 hat7 H6 hb6) | (at_builtin; refine wpList_append_eq rfl _ _ _ rfl _ _ rfl rfl HR.out ?_))
      go_end0
      refine ⟨rfl, .slice wa wl wc, .slice a7 n7 c7, ?_, ?_⟩
      · rw [HPB0.out, HPE.out, List.append_nil]; exact G2.out
      · rw [← HWL.out, ← HVL.out]; exact HST.out _ _ _ (G3.out.ahead HB6.out)
end Go.Proofs.YtbdeclkccchnoaaGreat
namespace Go.Proofs.YtbdeclkccchnoaaGreat
open Go.RowKit
def pcsB (f : Fld) (bs : List (List UInt8)) : List (List UInt8) := if f.rep = true then bs else if f.kind = 17 then [bs.flatten] else lastOf bs
theorem pcs_words {f : Fld} {l : List UInt8} {xs : List VW} (hrun : f.rep = false → ∀ x ∈ xs, x.run = false) : (if f.rep = true then xs.flatMap (pieceW f l) else lastOf (xs.flatMap (pieceW f l))) = (counts f xs).flatMap (pieceW f l) := by
  unfold counts
  by_cases h : f.rep = true
  · rw [if_pos h, if_pos h]
  · rw [if_neg h, if_neg h]
    have hr := hrun (by simpa using h)
    refine lastOf_flat _ _ ?_
    by_cases hk : knumber f.kind = true
    · refine .inl fun x hx => ?_
      unfold pieceW
      rw [if_neg (by rw [hr x hx]; decide), if_pos hk]; rfl
    · refine .inr fun x hx => ?_
      unfold pieceW
      rw [if_neg (by rw [hr x hx]; decide), if_neg hk]
theorem pcs_texts {f : Fld} {l : List UInt8} {xs : List VW} (hrun : ∀ x ∈ xs, x.run = true → knumber f.kind = true) (h17 : f.kind ≠ 17) : pcsB f (xs.flatMap (pieceB f l)) = (counts f xs).flatMap (pieceB f l) := by
  unfold pcsB counts
  by_cases h : f.rep = true
  · rw [if_pos h, if_pos h]
  · rw [if_neg h, if_neg h, if_neg h17]
    refine lastOf_flat _ _ ?_
    by_cases hk : knumber f.kind = true
    · refine .inr fun x hx => ?_
      unfold pieceB
      rw [if_pos (.inr hk)]
    · refine .inl fun x hx => ?_
      unfold pieceB
      rw [if_neg (by rintro (h1 | h1); exact hk (hrun x hx h1); exact hk h1)]; rfl
theorem pcs_17 {f : Fld} {l : List UInt8} {xs : List VW} (hrun : ∀ x ∈ xs, x.run = true → knumber f.kind = true) (h17 : f.kind = 17) : xs.flatMap (pieceB f l) = xs.map (vbytes l) := by
  have hk : ¬ knumber f.kind = true := by rw [h17]; decide
  induction xs with
  | nil => rfl
  | cons x r ih =>
    rw [List.flatMap_cons, List.map_cons, ih fun y hy => hrun y (by simp [hy])]
    unfold pieceB
    rw [if_neg (by rintro (h1 | h1); exact hk (hrun x (by simp) h1); exact hk h1)]
    rfl
theorem pcs_subs {s : List Mes} {d : Nat} {f : Fld} {l : List UInt8} {xs : List VW} (hrun : ∀ x ∈ xs, x.run = true → knumber f.kind = true) (h17 : f.kind = 17) (hne : xs ≠ []) :
    (pcsB f (xs.flatMap (pieceB f l))).flatMap (tsub s d f.of) = (fieldV (tsub s d) f l xs).subs := by
  rw [pcs_17 hrun h17]
  unfold fieldV pcsB
  simp only
  rw [if_pos h17]
  by_cases h : f.rep = true
  · rw [if_pos h, if_pos h, List.flatMap_map, if_pos h17]
  · rw [if_neg h, if_neg h, if_pos h17, if_neg hne]
    simp [List.flatMap_def]
theorem pcs_ok {R : Int → List UInt8 → Prop} {f : Fld} {l : List UInt8} {xs : List VW} (h : FieldRecs R f l xs) (h17 : f.kind = 17) (hne : xs ≠ []) : ∀ b ∈ pcsB f (xs.flatMap (pieceB f l)), R f.of b := by
  have hrun : ∀ x ∈ xs, x.run = true → knumber f.kind = true := fun x hx hr => (h.run x hx hr).2
  rw [pcs_17 hrun h17]
  unfold pcsB
  intro b hb
  by_cases hr : f.rep = true
  · rw [if_pos hr] at hb
    obtain ⟨x, hx, rfl⟩ := List.mem_map.1 hb
    exact (h.sub h17).1 x hx
  · rw [if_neg hr, if_pos h17] at hb
    simp at hb
    subst hb
    have := (h.sub h17).2 (by simpa using hr) hne
    rwa [List.flatMap_def] at this
theorem pcsB_len {f : Fld} {l : List UInt8} {xs : List VW} (ht : ∀ x ∈ xs, Thin x) (hv : vsum xs ≤ 1099511627776) : (pcsB f (xs.flatMap (pieceB f l))).length ≤ 1099511627776 ∧ (∀ b ∈ pcsB f (xs.flatMap (pieceB f l)), b.length ≤ 1099511627776) ∧ (xs.flatMap (pieceB f l)).flatten.length ≤ 1099511627776 ∧ (xs.flatMap (pieceB f l)).length ≤ 1099511627776 := by
  have h1 : ∀ ys : List VW, (∀ x ∈ ys, Thin x) → (ys.flatMap (pieceB f l)).flatten.length + (ys.flatMap (pieceB f l)).length ≤ vsum ys := by
    intro ys
    induction ys with
    | nil => simp
    | cons x r ih =>
      intro hy
      have g1 := hy x (by simp)
      have g2 := ih fun y h => hy y (by simp [h])
      have g3 := vbytes_len l x
      have g4 : (pieceB f l x).flatten.length + (pieceB f l x).length ≤ vsize x := by
        unfold Thin at g1
        unfold pieceB
        split
        · simp
        · simp; omega
      rw [List.flatMap_cons, List.flatten_append, List.length_append, List.length_append]
      have : vsum (x :: r) = vsize x + vsum r := by unfold vsum; rw [List.map_cons, List.sum_cons]
      omega
  have h2 := h1 xs ht
  have h3 : ∀ b ∈ xs.flatMap (pieceB f l), b.length ≤ (xs.flatMap (pieceB f l)).flatten.length := by
    intro b hb
    have : ∀ bs : List (List UInt8), b ∈ bs → b.length ≤ bs.flatten.length := by
      intro bs
      induction bs with
      | nil => simp
      | cons c r ih =>
        intro h
        rcases List.mem_cons.1 h with rfl | h
        · simp
        · have := ih h
          rw [List.flatten_cons, List.length_append]; omega
    exact this _ hb
  refine ⟨?_, ?_, by omega, by omega⟩
  · unfold pcsB
    split
    · omega
    · split
      · simp
      · unfold lastOf; rw [List.length_drop]; omega
  · unfold pcsB
    intro b hb
    split at hb
    · have := h3 b hb; omega
    · split at hb
      · simp at hb; subst hb; simp at h2 ⊢; omega
      · have := h3 b (lastOf_sub _ hb); omega
end Go.Proofs.YtbdeclkccchnoaaGreat
namespace Go.Proofs.YtbdeclkccchnoaaGreat
open Go.RowKit
def TOfOk (w0 : World) (sv : Value) (s : List Mes) (d : Nat) : Prop := ∀ (m : Nat) (w : World) (v : Value) (l : List UInt8), m < s.length → Below w0.heap.size w0 w → Bytes w v l → l.length ≤ 1099511627776 → (vmsg s d m l).2 = 0 →
  Calls Tryz.prog 22 #[sv, .int .i64 (m : Int), v] w fun e w' => ∃ v', e = .returned v' ∧ Below w.heap.size w w' ∧ Apart 0 w.heap.size w' fun w2 => MsgAt (d + 1) w2 v' (tof s d m l)
end Go.Proofs.YtbdeclkccchnoaaGreat
namespace Go.Proofs.YtbdeclkccchnoaaGreat
open Go.RowKit Go.Shelf
theorem field_recs' {s : List Mes} (hs : sright s = true) {d m : Nat} {l : List UInt8} (hm : m < s.length) (h : (vmsg s d m l).2 = 0) {fs : List Fld} (hfs : fs = (s.getD m .zero).fields) {q : Nat} (hq : q < fs.length) {f : Fld} (hf : f = fs.getD q .zero) {all : List VW} (ha : all = (vall fs l).1) :
    Hid (FieldRecs (SubOk s d) f l (viewsOf all (q : Int))) := by
  subst ha; subst hf; subst hfs; exact field_recs hs hm h hq
theorem val_many {d : Nat} {w : World} {num : Int} {a1 a2 a3 : Option Addr} {n1 n2 n3 c1 c2 c3 : Nat} {x : Val (M d)} (h : ValP' d w [.int .i64 num, .slice a1 n1 c1, .slice a2 n2 c2, .slice a3 n3 c3] x) : n1 + n2 + n3 = many x ∧ n1 ≤ 140737488355328 ∧ n2 ≤ 140737488355328 ∧ n3 ≤ 140737488355328 := by
  obtain ⟨wv, tv, sv, he, -, hW, hT, hS⟩ := h
  obtain ⟨h1, _, _, e1, -⟩ := hW.open
  obtain ⟨h2, _, _, e2, -⟩ := hT.open
  obtain ⟨h3, _, _, e3, -⟩ := hS.open
  subst e1; subst e2; subst e3
  simp at he
  obtain ⟨-, ⟨-, e1, -⟩, ⟨-, e2, -⟩, -, e3, -⟩ := he
  unfold many
  omega
end Go.Proofs.YtbdeclkccchnoaaGreat
namespace Go.Proofs.YtbdeclkccchnoaaGreat
end Go.Proofs.YtbdeclkccchnoaaGreat
