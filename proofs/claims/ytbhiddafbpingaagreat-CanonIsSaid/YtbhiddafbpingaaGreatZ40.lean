/- What (*tree.pieces).value has in memory while it runs (ValSt, ValL). No condition. tree.of: the pieces of all fields, in a map, while the records are gone through (TSt). No condition. A slice of the call's own whose elements hold wherever the blocks of a set S are as they were (RowsOnS). -/
import Derived.Test.YtbhiddafbpingaaGreatZ04
import Derived.Test.YtbhiddafbpingaaGreatZ22
import Derived.Test.YtbhiddafbpingaaGreatZ35
import Derived.Test.YtbhiddafbpingaaGreatZ37
import Derived.Test.YtbhiddafbpingaaGreatZ39
import Derived.StillTailTactics
import Derived.BigRegion
import Derived.Deep.CutBlock
import Derived.Deep.CutRange
import Derived.Deep.RegionLaw
namespace Go.Proofs.YtbhiddafbpingaaGreat
open Go.RowKit Go.Shelf

theorem WordsOwn.tail {w : World} {base : Nat} {a : Option Addr} {n c : Nat} {ws : List Nat} (h : WordsOwn w base (.slice a n c) ws) (hn : ws.length ≤ 1099511627776) (i : Nat) (hi : i ≤ n) :
    ∃ a' c', (∀ W, (Instr.slice 46 (.slice a n c) (some (.int .i64 (i : Int))) none none).run Tryz.prog W = .ok (.slice a' (n - i) c') W) ∧ n = ws.length ∧
      ∀ w2, (∀ b, (Value.slice a n c).ownBlock = some b → w2.heap[b]? = w.heap[b]?) → Seg w2 (.slice a' (n - i) c') 1 (n - i) ((ws.map wordV).drop i) := by
  obtain ⟨_, _, e⟩ := h.form
  have hnl : n = ws.length := by cases e; rfl
  have hr := fun W => slice_l_run (P := Tryz.prog) under_words (fun w => (by kernel_rfl : (sizeOf 27).run Tryz.prog w = .ok 1 w)) a n c i hi W
  have hs : ∀ w2, (∀ b, (Value.slice a n c).ownBlock = some b → w2.heap[b]? = w.heap[b]?) → Seg w2 (sliced a i n c 1) 1 (n - i) ((ws.map wordV).drop i) := by
    intro w2 hw2
    have h2 : Seg w2 (.slice a n c) 1 n (ws.map wordV) := by
      have := row_seg (WordsOwn.keep h hw2) (by omega)
      rwa [← hnl] at this
    have hsb := Seg.sub h2 i n hi (Nat.le_refl _)
    rw [List.take_of_length_le (by simp [hnl])] at hsb
    simpa using hsb
  unfold sliced at hr hs
  exact ⟨_, _, hr, hnl, hs⟩
theorem PcsOwn.tail {n0 : Nat} {w : World} {base : Nat} {a : Option Addr} {n c : Nat} {bs : List (List UInt8)} (h : PcsOwn n0 w base (.slice a n c) bs) (hn : bs.length ≤ 1099511627776) (i : Nat) (hi : i ≤ n) :
    ∃ a' c', (∀ W, (Instr.slice 161 (.slice a n c) (some (.int .i64 (i : Int))) none none).run Tryz.prog W = .ok (.slice a' (n - i) c') W) ∧ n = bs.length ∧
      ∀ w2, (∀ b, (Value.slice a n c).ownBlock = some b → w2.heap[b]? = w.heap[b]?) → (∀ b, b < n0 → w2.heap[b]? = w.heap[b]?) → PcsAt w2 (.slice a' (n - i) c') (bs.drop i) := by
  obtain ⟨_, _, e⟩ := h.form
  have hnl : n = bs.length := by cases e; rfl
  have hr := fun W => slice_l_run (P := Tryz.prog) under_bytesl (fun w => (by kernel_rfl : (sizeOf 24).run Tryz.prog w = .ok 1 w)) a n c i hi W
  have hs : ∀ w2, (∀ b, (Value.slice a n c).ownBlock = some b → w2.heap[b]? = w.heap[b]?) → (∀ b, b < n0 → w2.heap[b]? = w.heap[b]?) → PcsAt w2 (sliced a i n c 1) (bs.drop i) := by
    intro w2 hw2 h0
    obtain ⟨vs, g1, g2, g3⟩ := (h.keep hw2 h0).at (by omega)
    rw [← hnl] at g2
    have hsb := Seg.sub g2 i n hi (Nat.le_refl _)
    rw [List.take_of_length_le (by simp; omega)] at hsb
    refine ⟨vs.drop i, by rw [List.length_drop, List.length_drop, g1], ?_, fun j u t hu ht => ?_⟩
    · rw [List.length_drop, ← hnl]; simpa using hsb
    · rw [List.getElem?_drop] at hu ht
      exact g3 _ u t hu ht
  unfold sliced at hr hs
  exact ⟨_, _, hr, hnl, hs⟩

/-- a message's call in tree.of -/
def SubCallT (w0 : World) (sv : Value) (s : List Mes) (d : Nat) (f : Fld) : Prop := ∀ (W : World) (v : Value) (b : List UInt8), Below w0.heap.size w0 W → Bytes W v b → b.length ≤ 1099511627776 → SubOk s d f.of b →
    Calls Tryz.prog 53 #[sv, .int .i64 f.of, v] W fun e w' => ∃ u1 u2 y, (u1.oneCell' = true ∧ u2.oneCell' = true) ∧ tsub s d f.of b = [y] ∧ e = .returned (.agg #[u1, u2]) ∧ Below W.heap.size W w' ∧ Apart 0 W.heap.size w' fun w2 => MsgAt d w2 (.agg #[u1, u2]) y
theorem sub_callT {w0 : World} {sv : Value} {s : List Mes} (hs : sright s = true) {d : Nat} (hrec : ∀ d', d = d' + 1 → TOfOk w0 sv s d') {m q : Nat} (hm : m < s.length) (hq : q < (s.getD m .zero).fields.length) : SubCallT w0 sv s d ((s.getD m .zero).fields.getD q .zero) := by
  rintro W v b hB hb hl ⟨d', rfl, hv⟩
  have hr := of_range hs hm hq
  obtain ⟨f, hf⟩ : ∃ f, f = (s.getD m .zero).fields.getD q .zero := ⟨_, rfl⟩
  rw [← hf] at hr hv ⊢
  obtain ⟨o, ho⟩ : ∃ o : Nat, f.of = o := ⟨f.of.toNat, by omega⟩
  rw [ho, Int.toNat_natCast] at hv
  rw [ho]
  refine (hrec d' rfl o W v b (by omega) hB hb hl hv).mono ?_
  rintro e w' ⟨v', rfl, h2, h3⟩
  obtain ⟨a1, n1, c1, a2, n2, c2, rfl⟩ := h3.here.form
  exact ⟨_, _, _, ⟨rfl, rfl⟩, rfl, rfl, h2, h3⟩

theorem PcsAt.tail {w : World} {a : Option Addr} {n c : Nat} {bs : List (List UInt8)} (h : PcsAt w (.slice a n c) bs) (i : Nat) (hi : i ≤ n) : PcsAt w (sliced a i n c 1) (bs.drop i) := by
  obtain ⟨vs, g1, g2, g3⟩ := h
  have hn : n = bs.length := by obtain ⟨-, -, a', c', e, -⟩ := g2; cases e; rfl
  rw [← hn] at g2
  have hsb := Seg.sub g2 i n hi (Nat.le_refl _)
  rw [List.take_of_length_le (by simp; omega)] at hsb
  refine ⟨vs.drop i, by rw [List.length_drop, List.length_drop, g1], ?_, fun j u t hu ht => ?_⟩
  · rw [List.length_drop, ← hn]; simpa using hsb
  · rw [List.getElem?_drop] at hu ht
    exact g3 _ u t hu ht

/-- the pieces' box while the value is made: the words s1 lie in the words' own block, the values s2 may be read while V changes -/
def ValSt (w : World) (g V : Nat) (f : Fld) (wv : Value) (ws : List Nat) (bs : List (List UInt8)) (wx : World) (s1 s2 : Value) : Prop :=
  w.grownBy wx (some g) ∧ Blk wx g (f.cells ++ [s1, s2]) 163 ∧ Blk wx V [.int .i64 f.number, noneS, noneS, noneS] 109 ∧
  (∀ w2, (∀ b, wv.ownBlock = some b → w2.heap[b]? = w.heap[b]?) → Seg w2 s1 1 ws.length (ws.map wordV)) ∧
  (∀ w2, (∀ b, b < wx.heap.size → b ≠ V → b ≠ g → w2.heap[b]? = wx.heap[b]?) → PcsAt w2 s2 bs) ∧ V < wx.heap.size ∧ g < V ∧ w.heap.size < V

/-- the words' and the values' last ones, stored -/
theorem ValSt.last {w : World} {g V : Nat} {f : Fld} {wv : Value} {ws : List Nat} {bs : List (List UInt8)} {wx : World} {a1 a2 : Option Addr} {n1 c1 n2 c2 : Nat} (h : ValSt w g V f wv ws bs wx (.slice a1 n1 c1) (.slice a2 n2 c2)) :
    ValSt w g V f wv (lastOf ws) (lastOf bs) ((wx.setCell ⟨g, 6, none⟩ (sliced a1 (n1 - 1) n1 c1 1)).setCell ⟨g, 7, none⟩ (sliced a2 (n2 - 1) n2 c2 1)) (sliced a1 (n1 - 1) n1 c1 1) (sliced a2 (n2 - 1) n2 c2 1) := by
  obtain ⟨h1, h2, h3, h4, h5, h6, h7, h8⟩ := h
  have hn1 : n1 = ws.length := by obtain ⟨-, -, a', c', e, -⟩ := h4 w (fun _ _ => rfl); cases e; rfl
  have hn2 : n2 = bs.length := by obtain ⟨vs, -, ⟨-, -, a', c', e, -⟩, -⟩ := h5 wx (fun _ _ _ _ => rfl); cases e; rfl
  have hk : ∀ b, b ≠ g → ((wx.setCell ⟨g, 6, none⟩ (sliced a1 (n1 - 1) n1 c1 1)).setCell ⟨g, 7, none⟩ (sliced a2 (n2 - 1) n2 c2 1)).heap[b]? = wx.heap[b]? := fun b hb => by
    rw [Below.heap_setCell _ _ _ b (by show b ≠ g; exact hb), Below.heap_setCell _ _ _ b (by show b ≠ g; exact hb)]
  refine ⟨grown_grown (grown_grown h1 (cell_grown _ _ _)) (cell_grown _ _ _), by simpa [Fld.cells] using (h2.set 6 (sliced a1 (n1 - 1) n1 c1 1)).set 7 (sliced a2 (n2 - 1) n2 c2 1), (hk V (by omega)).trans h3, fun w2 hw2 => ?_, fun w2 hw2 => ?_, by simpa using h6, h7, h8⟩
  · have hs := h4 w2 hw2
    rw [← hn1] at hs
    have hsb := Seg.sub hs (n1 - 1) n1 (by omega) (Nat.le_refl _)
    rw [List.take_of_length_le (by simp; omega)] at hsb
    unfold lastOf
    rw [List.length_drop, List.map_drop, ← hn1]
    simpa using hsb
  · have hs := h5 w2 fun b hb h1 h2 => (hw2 b (by simpa using hb) h1 h2).trans (hk b h2)
    unfold lastOf
    rw [← hn2]
    exact hs.tail (n2 - 1) (by omega)
theorem ValSt.joined {w : World} {g V : Nat} {f : Fld} {wv : Value} {ws : List Nat} {bs : List (List UInt8)} {W2 w3 : World} {s1 s2 v3 : Value} {j : List UInt8} (h : ValSt w g V f wv ws bs W2 s1 s2) (hO : Own w3 W2.heap.size v3 j) (hj : j.length ≤ 140737488355328) (hb : Below W2.heap.size W2 w3) :
    ∀ W6, W6 = (w3.setCell ⟨g, 7, none⟩ (.slice (some ⟨w3.heap.size, 0, none⟩) 1 1)).alloc (.cells #[v3] 24) → ValSt w g V f wv ws [j] W6 s1 (.slice (some ⟨w3.heap.size, 0, none⟩) 1 1) ∧
      ∀ b cs T, b ≠ g → b < W2.heap.size → Blk W2 b cs T → Blk W6 b cs T := by
  rintro W6 rfl
  obtain ⟨h1, h2, h3, h4, h5, h6, h7, h8⟩ := h
  have hz := hb.size
  have hsz : (w3.setCell ⟨g, 7, none⟩ (.slice (some ⟨w3.heap.size, 0, none⟩) 1 1)).heap.size = w3.heap.size := by simp
  have hk : ∀ b, b ≠ g → b < w3.heap.size → ((w3.setCell ⟨g, 7, none⟩ (.slice (some ⟨w3.heap.size, 0, none⟩) 1 1)).alloc (.cells #[v3] 24)).heap[b]? = w3.heap[b]? := fun b hb1 hb2 => by
    rw [Below.heap_alloc _ _ b (by rw [hsz]; exact hb2), Below.heap_setCell _ _ _ b (by show b ≠ g; exact hb1)]
  have hkb : ∀ b cs T, b ≠ g → b < W2.heap.size → Blk W2 b cs T → Blk ((w3.setCell ⟨g, 7, none⟩ (.slice (some ⟨w3.heap.size, 0, none⟩) 1 1)).alloc (.cells #[v3] 24)) b cs T :=
    fun b cs T g1 g2 g3 => (hk b g1 (by omega)).trans ((hb.block b g2).trans g3)
  refine ⟨⟨?_, by simpa [Fld.cells] using ((h2.below hb).set 7 (.slice (some ⟨w3.heap.size, 0, none⟩) 1 1)).alloc (.cells #[v3] 24), hkb V _ _ (by omega) h6 h3, h4, fun w2 hw2 => ?_, by simp; omega, h7, h8⟩, hkb⟩
  · refine grown_grown h1 (grown_grown (below_grown hb _) (grown_grown (cell_grown _ ⟨g, 7, none⟩ (.slice (some ⟨w3.heap.size, 0, none⟩) 1 1)) (below_grown ?_ _)))
    exact (Below.refl _ _).alloc (Nat.le_refl _) _
  · have hnew : w2.heap[w3.heap.size]? = some (.cells #[v3] 24 (0, 0)) := by
      refine (hw2 w3.heap.size (by simp) (by omega) (by omega)).trans ?_
      have := Blk.new' (w3.setCell ⟨g, 7, none⟩ (.slice (some ⟨w3.heap.size, 0, none⟩) 1 1)) [v3] 24 w3.heap.size hsz.symm
      exact this
    refine ⟨[v3], rfl, seg_blk (cs := [v3]) (T := 24) hnew 1 1 rfl (by omega), fun i u t hu ht => ?_⟩
    have hi : i = 0 := by have := (List.getElem?_eq_some_iff.1 hu).1; simp at this; omega
    subst hi
    simp at hu ht
    subst hu
    subst ht
    refine row_seg (row_keep hO fun b cur hbb he => ?_) hj
    have hlt := (Array.getElem?_eq_some_iff.1 he).1
    exact (hw2 b (by simp; omega) (by omega) (by omega)).trans (hk b (by omega) hlt)
theorem ValSt.drew {w : World} {g V : Nat} {f : Fld} {wv : Value} {ws : List Nat} {bs : List (List UInt8)} {wx : World} {s1 s2 : Value} (h : ValSt w g V f wv ws bs wx s1 s2) : ValSt w g V f wv ws bs wx.drew s1 s2 :=
  ⟨grown_grown h.1 (below_grown (Below.refl wx.heap.size wx).drew _), h.2.1, h.2.2.1, h.2.2.2.1, h.2.2.2.2.1, h.2.2.2.2.2⟩
theorem own_form' {w : World} {base : Nat} {v : Value} {l : List UInt8} (h : Own w base v l) : ∃ a n c, v = .slice a n c := by
  obtain ⟨a, c, e⟩ := own_form h; exact ⟨a, _, c, e⟩
theorem sliced_form (a : Option Addr) (i n c : Nat) : ∃ a' c', sliced a i n c 1 = .slice a' (n - i) c' := ⟨_, _, rfl⟩

theorem info_tmsg : (Tryz.prog.info? 58).map (fun i => (i.zero, i.size, i.bytes)) = some (some (.agg #[.slice none 0 0, .slice none 0 0]), 2, 48) := by kernel_rfl
/-- the value's box V while its values are gone through -/
def ValL (W7 : World) (V : Nat) (s : List Mes) (d : Nat) (f : Fld) (bs : List (List UInt8)) (w : World) (s1 s2 s3 : Value) : Prop :=
  W7.grownBy w (some V) ∧ Blk w V [.int .i64 f.number, s1, s2, s3] 109 ∧
  (f.kind = 17 → s2 = noneS ∧ RowsOwn (SubP d) 58 2 0 W7.heap.size w s3 (bs.flatMap (tsub s d f.of))) ∧
  (f.kind ≠ 17 → s3 = noneS ∧ StrsOwn w W7.heap.size s2 bs)
theorem grown_own {W7 w w7 : World} {V : Nat} {o : Option Nat} (h : W7.grownBy w (some V)) (hg : w.grownBy w7 o) (ho : ∀ b, o = some b → W7.heap.size ≤ b) : W7.grownBy w7 (some V) :=
  ⟨hg.os.trans h.os, hg.tape.trans h.tape, hg.output.trans h.output, Nat.le_trans h.size hg.size, fun b hb hne => (hg.block b (Nat.lt_of_lt_of_le hb h.size) (fun e => by have := ho b e.symm; omega)).trans (h.block b hb hne)⟩
theorem ValL.text_push {W7 : World} {V : Nat} {s : List Mes} {d : Nat} {f : Fld} {bs : List (List UInt8)} {w : World} {s1 s2 s3 : Value} (h : ValL W7 V s d f bs w s1 s2 s3) (hV : V < W7.heap.size) (h17 : f.kind ≠ 17) (hl : bs.length + 1 ≤ 1099511627777) (t : List UInt8) :
    ∃ a5 n5 c5 w7, (Builtin.append_ #[39, 39] 39 #[s2, .slice (some ⟨w.heap.size, 0, none⟩) 1 1]).run Tryz.prog (w.alloc (.cells #[.string ⟨t.toArray⟩] 9)) = .ok (.slice a5 n5 c5) w7 ∧ Blk w7 V [.int .i64 f.number, s1, s2, s3] 109 ∧
      ValL W7 V s d f (bs ++ [t]) (w7.setCell ⟨V, 2, none⟩ (.slice a5 n5 c5)) s1 (.slice a5 n5 c5) s3 := by
  obtain ⟨rfl, ho⟩ := h.2.2.2 h17
  obtain ⟨v', w7, hr, hO, hg⟩ := ho.one t hl h.1.size
  obtain ⟨a5, c5, rfl⟩ := hO.form
  have hown : ∀ b, s2.ownBlock = some b → W7.heap.size ≤ b := fun b e => (World.ownsRow.lt ho b e).1
  have b7 : Blk w7 V [.int .i64 f.number, s1, s2, noneS] 109 := (hg.block V h.2.1.lt (fun e => by have := hown V e.symm; omega)).trans h.2.1
  refine ⟨a5, _, c5, w7, hr, b7, grown_grown (grown_own h.1 hg hown) (cell_grown _ _ _), by simpa using b7.set 2 _, fun e => absurd e h17, fun _ => ⟨rfl, ?_⟩⟩
  exact row_keep hO fun b _ hb _ => Below.heap_setCell w7 _ _ b (by show b ≠ V; omega)
theorem ValL.sub_push {W7 : World} {V : Nat} {s : List Mes} {d : Nat} {f : Fld} {bs : List (List UInt8)} {w w1 : World} {s1 s2 : Value} {a3 : Option Addr} {n3 c3 : Nat} (h : ValL W7 V s d f bs w s1 s2 (.slice a3 n3 c3)) (hV : V < W7.heap.size) (h17 : f.kind = 17)
    (hl : bs.length ≤ 1099511627776) (hb : Below w.heap.size w w1) {u1 u2 : Value} (h1 : u1.oneCell' = true) (h2 : u2.oneCell' = true) {t : List UInt8} {y : M d} (hy : tsub s d f.of t = [y]) (hap : Apart 0 w.heap.size w1 fun w' => MsgAt d w' (.agg #[u1, u2]) y) :
    ∃ a5 c5 w5, (Builtin.append_ #[107, 107] 107 #[.slice a3 n3 c3, .slice (some ⟨w1.heap.size, 0, none⟩) 1 1]).run Tryz.prog (w1.alloc (.cells #[u1, u2] 58)) = .ok (.slice a5 (n3 + 1) c5) w5 ∧
      Below W7.heap.size w (w1.alloc (.cells #[u1, u2] 58)) ∧ Below W7.heap.size w w5 ∧
      ValL W7 V s d f (bs ++ [t]) (w5.setCell ⟨V, 3, none⟩ (.slice a5 (n3 + 1) c5)) s1 s2 (.slice a5 (n3 + 1) c5) := by
  obtain ⟨rfl, ho⟩ := h.2.2.1 h17
  have hbl : ∀ bs : List (List UInt8), (bs.flatMap (tsub s d f.of)).length ≤ bs.length := by
    intro bs
    induction bs with
    | nil => simp
    | cons c r ih =>
      have := tsub_len s d f.of c
      rw [List.flatMap_cons, List.length_append, List.length_cons]; omega
  have hbd := hbl bs
  obtain ⟨a', c', he⟩ := ho.form
  have hn3 : (bs.flatMap (tsub s d f.of)).length = n3 := by cases he; rfl
  obtain ⟨a5, c5, w5, hr5, hO5, hB4, hB5⟩ := RowsOwn.step ho hb (by decide) (Nat.zero_le _) h.1.size hn3 107 _ 48 Tryz.underlying107 info_tmsg rfl #[u1, u2] rfl (by intro u hu; simp at hu; rcases hu with rfl | rfl <;> assumption) y hap (by omega) (by decide)
  have hg5 : W7.grownBy w5 (some V) := ⟨hB5.os.trans h.1.os, hB5.tape.trans h.1.tape, hB5.output.trans h.1.output, Nat.le_trans h.1.size hB5.size, fun b hb hne => (hB5.block b hb).trans (h.1.block b hb hne)⟩
  have b5 : Blk w5 V [.int .i64 f.number, s1, noneS, .slice a3 n3 c3] 109 := (hB5.block V hV).trans h.2.1
  refine ⟨a5, c5, w5, hr5, hB4, hB5, grown_grown hg5 (cell_grown _ _ _), by simpa using b5.set 3 _, fun _ => ⟨rfl, ?_⟩, fun e => absurd h17 e⟩
  rw [List.flatMap_append, List.flatMap_cons, List.flatMap_nil, List.append_nil, hy]
  refine hO5.later (fun b _ hc => Below.heap_setCell w5 _ _ b ?_) (by simp)
  show b ≠ V
  omega
theorem ValL.start {W7 : World} {V : Nat} {s : List Mes} {d : Nat} {f : Fld} {s1 : Value} (h : Blk W7 V [.int .i64 f.number, s1, noneS, noneS] 109) : ValL W7 V s d f [] W7 s1 noneS noneS :=
  ⟨grown_refl _ _, h, fun _ => ⟨rfl, RowsOwn.nil _ _ _ _ _ _⟩, fun _ => ⟨rfl, World.ownsRow_nil _ _ _ _⟩⟩
theorem ValL.form {W7 : World} {V : Nat} {s : List Mes} {d : Nat} {f : Fld} {bs : List (List UInt8)} {w : World} {s1 s2 s3 : Value} (h : ValL W7 V s d f bs w s1 s2 s3) : ∃ a2 n2 c2 a3 n3 c3, s2 = .slice a2 n2 c2 ∧ s3 = .slice a3 n3 c3 := by
  by_cases h17 : f.kind = 17
  · obtain ⟨rfl, ho⟩ := h.2.2.1 h17
    obtain ⟨a, c, rfl⟩ := ho.form
    exact ⟨_, _, _, _, _, _, rfl, rfl⟩
  · obtain ⟨rfl, ho⟩ := h.2.2.2 h17
    obtain ⟨a, c, rfl⟩ := ho.form
    exact ⟨_, _, _, _, _, _, rfl, rfl⟩
/-- the value, read in each world that agrees on the new blocks and on the words' -/
theorem ValL.done {W7 : World} {V : Nat} {s : List Mes} {d : Nat} {f : Fld} {l : List UInt8} {xs : List VW} {w wi : World} {wv s1 s2 s3 : Value} (h : ValL W7 V s d f (pcsB f (xs.flatMap (pieceB f l))) wi s1 s2 s3) (hV : V < W7.heap.size) (hw : w.heap.size ≤ V) (hg : ∀ b, wv.ownBlock = some b → wi.heap[b]? = w.heap[b]?) (hwb : ∀ b, wv.ownBlock = some b → b < wi.heap.size)
    (hrun : ∀ x ∈ xs, x.run = true → knumber f.kind = true) (ht : ∀ x ∈ xs, Thin x) (hv : vsum xs ≤ 1099511627776) (hne : xs ≠ []) (hn : -9223372036854775808 ≤ f.number ∧ f.number ≤ 9223372036854775807)
    (hws : ∀ w2, (∀ b, wv.ownBlock = some b → w2.heap[b]? = w.heap[b]?) → Seg w2 s1 1 ((counts f xs).flatMap (pieceW f l)).length (((counts f xs).flatMap (pieceW f l)).map wordV)) :
    ∀ w2, (∀ b, b < wi.heap.size → (w.heap.size ≤ b ∧ b ≠ w.heap.size ∧ b ≠ V ∨ wv.ownBlock = some b) → w2.heap[b]? = wi.heap[b]?) → ValP' d w2 [.int .i64 f.number, s1, s2, s3] (fieldV (tsub s d) f l xs) := by
  intro w2 hw2
  have hpl := @pcsB_len f l xs ht hv
  have hW : WordsAt w2 s1 (fieldV (tsub s d) f l xs).words := by
    refine ⟨hws w2 fun b e => (hw2 b (hwb b e) (.inr e)).trans (hg b e), fun y hy => ?_⟩
    obtain ⟨x, -, hx⟩ := List.mem_flatMap.1 (show y ∈ (counts f xs).flatMap (pieceW f l) from hy)
    exact pieceW_lt hx
  have hag : ∀ b, W7.heap.size ≤ b → b < wi.heap.size → w2.heap[b]? = wi.heap[b]? := fun b h1 h2 => hw2 b h2 (.inl (by omega))
  have hnil2 : StrsAt w2 noneS [] := ⟨row_seg (World.ownsRow_nil w2 0 9 1) (Nat.zero_le _), by simp⟩
  have hnil3 : SubsAt (MsgAt d) w2 noneS [] := (RowsOwn.nil (SubP d) 58 2 0 0 w2).at (by simp) fun _ _ _ => rfl
  by_cases h17 : f.kind = 17
  · obtain ⟨rfl, ho⟩ := h.2.2.1 h17
    have htt : (fieldV (tsub s d) f l xs).texts = [] := by unfold fieldV; simp only; rw [if_pos h17]
    refine ⟨s1, noneS, s3, rfl, hn, hW, by rw [htt]; exact hnil2, ?_⟩
    rw [pcs_subs hrun h17 hne] at ho
    have hbl : (fieldV (tsub s d) f l xs).subs.length ≤ 140737488355328 := by
      rw [← pcs_subs hrun h17 hne]
      have : ∀ bs : List (List UInt8), (bs.flatMap (tsub s d f.of)).length ≤ bs.length := by
        intro bs
        induction bs with
        | nil => simp
        | cons c r ih =>
          have := tsub_len s d f.of c
          rw [List.flatMap_cons, List.length_append, List.length_cons]; omega
      have := this (pcsB f (xs.flatMap (pieceB f l)))
      omega
    exact ho.at hbl fun b h1 h2 => hag b (by omega) h1
  · obtain ⟨rfl, ho⟩ := h.2.2.2 h17
    have htt : (fieldV (tsub s d) f l xs).texts = pcsB f (xs.flatMap (pieceB f l)) := by rw [pcs_texts hrun h17]; unfold fieldV; simp only; rw [if_neg h17]
    have hss : (fieldV (tsub s d) f l xs).subs = [] := by unfold fieldV; simp only; rw [if_neg h17]
    refine ⟨s1, s2, noneS, rfl, hn, hW, ?_, by rw [hss]; exact hnil3⟩
    rw [htt]
    refine StrsOwn.strs (base := W7.heap.size) (row_keep ho fun b _ hb he => hag b hb (Array.getElem?_eq_some_iff.1 he).1) (by omega) fun t htm => ?_
    have := hpl.2.1 t htm
    omega

end Go.Proofs.YtbhiddafbpingaaGreat

namespace Go.Proofs.YtbhiddafbpingaaGreat
open Go.RowKit Go.Shelf

def upd {α : Type} (G : Nat → α) (q : Nat) (x : α) : Nat → α := fun i => if i = q then x else G i
theorem upd_same {α : Type} (G : Nat → α) (q : Nat) (x : α) : upd G q x q = x := by unfold upd; rw [if_pos rfl]
theorem upd_other {α : Type} (G : Nat → α) (q : Nat) (x : α) {i : Nat} (h : i ≠ q) : upd G q x i = G i := by unfold upd; rw [if_neg h]

/-- one field's pieces: tag tells whose a block is -/
structure Ent (n0 B : Nat) (f : Fld) (l : List UInt8) (xs : List VW) (tag : Nat → Nat) (q g : Nat) (wv vv : Value) (w : World) : Prop where
  pcs : Pcs n0 B f g wv vv (xs.flatMap (pieceW f l)) (xs.flatMap (pieceB f l)) w
  tg : tag g = q + 1
  tw : ∀ b, wv.ownBlock = some b → tag b = q + 1
  tv : ∀ b, vv.ownBlock = some b → tag b = q + 1
/-- all fields' pieces -/
structure TSt (n0 B r : Nat) (fs : List Fld) (l : List UInt8) (taken : List VW) (has : Nat → Bool) (tag : Nat → Nat) (es : List (Int × Value)) (G : Nat → Nat) (WV VV : Nat → Value) (w : World) : Prop where
  map : MapIs w r intK es
  hasnt : ∀ q : Nat, q < fs.length → has q = false → getOf (q : Int) es = none ∧ viewsOf taken (q : Int) = []
  hass : ∀ q : Nat, q < fs.length → has q = true → getOf (q : Int) es = some (.pointer (some ⟨G q, 0, none⟩)) ∧ Ent n0 B (fs.getD q .zero) l (viewsOf taken (q : Int)) tag q (G q) (WV q) (VV q) w

theorem Ent.keep {n0 B : Nat} {f : Fld} {l : List UInt8} {xs : List VW} {tag tag' : Nat → Nat} {q g : Nat} {wv vv : Value} {w w' : World} (h : Ent n0 B f l xs tag q g wv vv w) (h0 : ∀ b, b < n0 → w'.heap[b]? = w.heap[b]?) (hk : ∀ b, B ≤ b → b < w.heap.size → tag b = q + 1 → w'.heap[b]? = w.heap[b]?)
    (ht : ∀ b, b < w.heap.size → tag' b = tag b) : Ent n0 B f l xs tag' q g wv vv w' := by
  have hg := h.pcs.box.lt
  refine ⟨⟨(hk g h.pcs.bg hg h.tg).trans h.pcs.box, ?_, ?_, h.pcs.wg, h.pcs.vg, h.pcs.wv, h.pcs.bg⟩, (ht g hg).trans h.tg, fun b e => (ht b (h.pcs.words.own b e).2).trans (h.tw b e), fun b e => (ht b (h.pcs.vals.own b e).2).trans (h.tv b e)⟩
  · exact h.pcs.words.keep fun b e => hk b (h.pcs.words.own b e).1 (h.pcs.words.own b e).2 (h.tw b e)
  · exact h.pcs.vals.keep (fun b e => hk b (h.pcs.vals.own b e).1 (h.pcs.vals.own b e).2 (h.tv b e)) h0
theorem viewsOf_snoc (taken : List VW) (x : VW) (q : Int) : viewsOf (taken ++ [x]) q = if x.k = q then viewsOf taken q ++ [x] else viewsOf taken q := by
  unfold viewsOf
  rw [List.filter_append]
  by_cases hq : x.k = q
  · simp [hq]
  · simp [hq]
/-- an unknown record: nothing of the pieces changes -/
theorem TSt.skip {n0 B r : Nat} {fs : List Fld} {l : List UInt8} {taken : List VW} {has : Nat → Bool} {tag tag' : Nat → Nat} {es : List (Int × Value)} {G : Nat → Nat} {WV VV : Nat → Value} {w w' : World} (h : TSt n0 B r fs l taken has tag es G WV VV w)
    (h0 : ∀ b, b < n0 → w'.heap[b]? = w.heap[b]?) (hr : w'.heap[r]? = w.heap[r]?) (hk : ∀ b, B ≤ b → b < w.heap.size → tag b ≠ 0 → w'.heap[b]? = w.heap[b]?) (ht : ∀ b, b < w.heap.size → tag' b = tag b) {x : VW} (hx : x.k < 0) :
    TSt n0 B r fs l (taken ++ [x]) has tag' es G WV VV w' := by
  have hv : ∀ q : Nat, viewsOf (taken ++ [x]) (q : Int) = viewsOf taken (q : Int) := fun q => by rw [viewsOf_snoc, if_neg (by omega)]
  refine ⟨hr.trans h.map, fun q hq hf => ?_, fun q hq hf => ?_⟩
  · rw [hv]; exact h.hasnt q hq hf
  · rw [hv]
    obtain ⟨g1, g2⟩ := h.hass q hq hf
    exact ⟨g1, g2.keep h0 (fun b h1 h2 h3 => hk b h1 h2 (by omega)) ht⟩
/-- the same pieces in a later world -/
theorem TSt.later {n0 B r : Nat} {fs : List Fld} {l : List UInt8} {taken : List VW} {has : Nat → Bool} {tag : Nat → Nat} {es : List (Int × Value)} {G : Nat → Nat} {WV VV : Nat → Value} {w w' : World} (h : TSt n0 B r fs l taken has tag es G WV VV w)
    (h0 : ∀ b, b < n0 → w'.heap[b]? = w.heap[b]?) (hr : w'.heap[r]? = w.heap[r]?) (hk : ∀ b, B ≤ b → b < w.heap.size → tag b ≠ 0 → w'.heap[b]? = w.heap[b]?) : TSt n0 B r fs l taken has tag es G WV VV w' :=
  ⟨hr.trans h.map, h.hasnt, fun q hq hf => ⟨(h.hass q hq hf).1, (h.hass q hq hf).2.keep h0 (fun b h1 h2 h3 => hk b h1 h2 (by omega)) fun _ _ => rfl⟩⟩
theorem getOf_app {K : Type} [DecidableEq K] (k : K) (k' : K) (v : Value) : ∀ (es : List (K × Value)), getOf k (es ++ [(k', v)]) = match getOf k es with | some u => some u | none => if k = k' then some v else none
  | [] => by simp [getOf]
  | (k2, v2) :: r => by
    simp only [List.cons_append, getOf]
    by_cases e : k = k2
    · rw [if_pos e, if_pos e]
    · rw [if_neg e, if_neg e]; exact getOf_app k k' v r
/-- a field's first record: a new box, a new entry -/
theorem TSt.insert {n0 B r : Nat} {fs : List Fld} {l : List UInt8} {taken : List VW} {has : Nat → Bool} {tag : Nat → Nat} {es : List (Int × Value)} {G : Nat → Nat} {WV VV : Nat → Value} {w w' : World} (h : TSt n0 B r fs l taken has tag es G WV VV w) (hrB : r < B) (hB : B ≤ w.heap.size) (hn0 : n0 ≤ B) (hr0 : n0 ≤ r)
    {q : Nat} (hq : q < fs.length) (hno : has q = false) (hm : MapIs w' r intK (es ++ [((q : Int), .pointer (some ⟨w.heap.size, 0, none⟩))])) (hb : Blk w' w.heap.size ((fs.getD q .zero).cells ++ [noneS, noneS]) 163) (hk : ∀ b, b < w.heap.size → b ≠ r → w'.heap[b]? = w.heap[b]?) :
    TSt n0 B r fs l taken (upd has q true) (upd tag w.heap.size (q + 1)) (es ++ [((q : Int), .pointer (some ⟨w.heap.size, 0, none⟩))]) (upd G q w.heap.size) (upd WV q noneS) (upd VV q noneS) w' := by
  obtain ⟨g1, g2⟩ := h.hasnt q hq hno
  refine ⟨hm, fun p hp hf => ?_, fun p hp hf => ?_⟩
  · have hne : p ≠ q := by rintro rfl; rw [upd_same] at hf; cases hf
    rw [upd_other _ _ _ hne] at hf
    obtain ⟨e1, e2⟩ := h.hasnt p hp hf
    refine ⟨?_, e2⟩
    rw [getOf_app, e1]
    simp only
    rw [if_neg (by omega)]
  · by_cases hpq : p = q
    · subst hpq
      rw [upd_same, upd_same, upd_same, getOf_app, g1, g2]
      refine ⟨by simp, ⟨⟨hb, World.ownsRow_nil _ _ _ _, PcsOwn.nil _ _ _, by simp [Value.ownBlock], by simp [Value.ownBlock], by simp [Value.ownBlock], hB⟩, upd_same _ _ _, by simp [Value.ownBlock], by simp [Value.ownBlock]⟩⟩
    · rw [upd_other _ _ _ hpq] at hf
      obtain ⟨e1, e2⟩ := h.hass p hp hf
      rw [upd_other _ _ _ hpq, upd_other _ _ _ hpq, upd_other _ _ _ hpq, getOf_app, e1]
      refine ⟨rfl, e2.keep (fun b hb => hk b (by omega) (by omega)) (fun b h1 h2 _ => hk b h2 (by omega)) fun b hb => upd_other _ _ _ (by omega)⟩
/-- a record of a field whose pieces are there -/
theorem TSt.add {n0 B r : Nat} {fs : List Fld} {l : List UInt8} {taken : List VW} {has : Nat → Bool} {tag : Nat → Nat} {es : List (Int × Value)} {G : Nat → Nat} {WV VV : Nat → Value} {w w' : World} (h : TSt n0 B r fs l taken has tag es G WV VV w) (hrB : r < B) (hn0 : n0 ≤ B)
    {q : Nat} (hq : q < fs.length) (hyes : has q = true) {x : VW} (hx : x.k = (q : Int)) {wv' vv' : Value} (hp : Pcs n0 B (fs.getD q .zero) (G q) wv' vv' ((viewsOf taken (q : Int)).flatMap (pieceW (fs.getD q .zero) l) ++ pieceW (fs.getD q .zero) l x) ((viewsOf taken (q : Int)).flatMap (pieceB (fs.getD q .zero) l) ++ pieceB (fs.getD q .zero) l x) w')
    (hs : PcsStep (G q) (WV q) (VV q) w wv' vv' w') : TSt n0 B r fs l (taken ++ [x]) has (fun b => if b < w.heap.size then tag b else q + 1) es G (upd WV q wv') (upd VV q vv') w' := by
  obtain ⟨e1, e2⟩ := h.hass q hq hyes
  obtain ⟨-, -, -, s4, s5, s6, s7⟩ := hs
  have hB : B ≤ w.heap.size := by have := e2.pcs.box.lt; have := e2.pcs.bg; omega
  have hsame : ∀ b, b < w.heap.size → tag b ≠ q + 1 → w'.heap[b]? = w.heap[b]? := fun b hb ht => s5 b hb (by rintro rfl; exact ht e2.tg) (fun e => ht (e2.tw b e)) (fun e => ht (e2.tv b e))
  have hlow : ∀ b, b < B → w'.heap[b]? = w.heap[b]? := fun b hb => s5 b (by omega) (by have := e2.pcs.bg; omega) (fun e => by have := (e2.pcs.words.own b e).1; omega) (fun e => by have := (e2.pcs.vals.own b e).1; omega)
  refine ⟨(hlow r hrB).trans h.map, fun p hp' hf => ?_, fun p hp' hf => ?_⟩
  · obtain ⟨g1, g2⟩ := h.hasnt p hp' hf
    have hne : p ≠ q := by rintro rfl; rw [hyes] at hf; cases hf
    refine ⟨g1, ?_⟩
    rw [viewsOf_snoc, if_neg (by rw [hx]; omega)]; exact g2
  · by_cases hpq : p = q
    · subst hpq
      rw [upd_same, upd_same, viewsOf_snoc, if_pos hx]
      refine ⟨e1, ⟨by rw [List.flatMap_append, List.flatMap_append]; simpa using hp, ?_, fun b e => ?_, fun b e => ?_⟩⟩
      · rw [if_pos e2.pcs.box.lt]; exact e2.tg
      · rcases s6 with e' | ⟨b', e', hb'⟩
        · rw [e'] at e
          rw [if_pos (e2.pcs.words.own b e).2]; exact e2.tw b e
        · rw [e'] at e; injection e with e
          rw [if_neg (by omega)]
      · rcases s7 with e' | ⟨b', e', hb'⟩
        · rw [e'] at e
          rw [if_pos (e2.pcs.vals.own b e).2]; exact e2.tv b e
        · rw [e'] at e; injection e with e
          rw [if_neg (by omega)]
    · obtain ⟨g1, g2⟩ := h.hass p hp' hf
      rw [upd_other _ _ _ hpq, upd_other _ _ _ hpq, viewsOf_snoc, if_neg (by rw [hx]; omega)]
      exact ⟨g1, g2.keep (fun b hb => hlow b (by omega)) (fun b h1 h2 h3 => hsame b h2 (by omega)) fun b hb => if_pos hb⟩
theorem TSt.start {n0 B r : Nat} {fs : List Fld} {l : List UInt8} {w : World} (hm : MapIs w r intK []) : TSt n0 B r fs l [] (fun _ => false) (fun _ => 0) [] (fun _ => 0) (fun _ => noneS) (fun _ => noneS) w :=
  ⟨hm, fun q _ _ => ⟨rfl, rfl⟩, fun q _ h => by cases h⟩

end Go.Proofs.YtbhiddafbpingaaGreat

namespace Go.Proofs.YtbhiddafbpingaaGreat
open Go.RowKit

def RowsOnS {α : Type} (S : Nat → Prop) (P : World → List Value → α → Prop) (T : TypeId) (k base : Nat) (w : World) (v : Value) (l : List α) : Prop :=
  ∃ rows : List (List Value), rows.length = l.length ∧ (∀ r ∈ rows, r.length = k) ∧ w.ownsRow base T k v l.length rows.flatten ∧
    ∀ w', (∀ b, b < w.heap.size → v.ownBlock ≠ some b → S b → w'.heap[b]? = w.heap[b]?) → ∀ (i : Nat) (r : List Value) (x : α), rows[i]? = some r → l[i]? = some x → P w' r x
theorem RowsOnS.nil {α : Type} (S : Nat → Prop) (P : World → List Value → α → Prop) (T : TypeId) (k base : Nat) (w : World) : RowsOnS S P T k base w (.slice none 0 0) [] :=
  ⟨[], rfl, by simp, World.ownsRow_nil _ _ _ _, fun _ _ i r x h => by simp at h⟩
theorem RowsOnS.form {α : Type} {S : Nat → Prop} {P : World → List Value → α → Prop} {T : TypeId} {k base : Nat} {w : World} {v : Value} {l : List α} (h : RowsOnS S P T k base w v l) : ∃ a c, v = .slice a l.length c := by
  obtain ⟨rows, -, -, h3, -⟩ := h
  rcases h3.2 with ⟨rfl, h0⟩ | ⟨g, cap, cur, rfl, _⟩
  · exact ⟨none, 0, by rw [h0]⟩
  · exact ⟨_, _, rfl⟩
theorem RowsOnS.own {α : Type} {S : Nat → Prop} {P : World → List Value → α → Prop} {T : TypeId} {k base : Nat} {w : World} {v : Value} {l : List α} (h : RowsOnS S P T k base w v l) (b : Nat) (e : v.ownBlock = some b) : base ≤ b ∧ b < w.heap.size := by
  obtain ⟨rows, -, -, h3, -⟩ := h
  exact World.ownsRow.lt h3 b e
theorem owned_keep {w w' : World} {base size n : Nat} {e : TypeId} {v : Value} {xs : List Value} (h : w.ownsRow base e size v n xs) (hk : ∀ b, v.ownBlock = some b → w'.heap[b]? = w.heap[b]?) : w'.ownsRow base e size v n xs := by
  refine ⟨h.1, ?_⟩
  rcases h.2 with h | ⟨g, cap, cur, hv, hb, hg, hr⟩
  · exact .inl h
  · exact .inr ⟨g, cap, cur, hv, hb, (hk g (by rw [hv]; rfl)).trans hg, hr⟩
theorem RowsOnS.later {α : Type} {S : Nat → Prop} {P : World → List Value → α → Prop} {T : TypeId} {k base : Nat} {w w2 : World} {v : Value} {l : List α} (h : RowsOnS S P T k base w v l)
    (hw : ∀ b, b < w.heap.size → (S b ∨ v.ownBlock = some b) → w2.heap[b]? = w.heap[b]?) (hs : w.heap.size ≤ w2.heap.size) : RowsOnS S P T k base w2 v l := by
  have h0 := h
  obtain ⟨rows, h1, h2, h3, h4⟩ := h
  exact ⟨rows, h1, h2, owned_keep h3 fun b e => hw b (h0.own b e).2 (.inr e), fun w' hw' => h4 w' fun b hlt hne hc => (hw' b (by omega) hne hc).trans (hw b hlt (.inl hc))⟩
theorem RowsOnS.at {α : Type} {S : Nat → Prop} {P : World → List Value → α → Prop} {T : TypeId} {k base : Nat} {w : World} {v : Value} {l : List α} (h : RowsOnS S P T k base w v l) (hl : l.length ≤ 140737488355328) {w' : World}
    (hw : ∀ b, b < w.heap.size → (S b ∨ v.ownBlock = some b) → w'.heap[b]? = w.heap[b]?) : RowsAt P k w' v l := by
  have h0 := h
  obtain ⟨rows, h1, h2, h3, h4⟩ := h
  exact ⟨rows, h1, h2, row_seg (owned_keep h3 fun b e => hw b (h0.own b e).2 (.inr e)) hl, fun i r x hr hx => h4 w' (fun b hlt _ hc => hw b hlt (.inl hc)) i r x hr hx⟩
theorem RowsOnS.append {α : Type} {P : World → List Value → α → Prop} {T : TypeId} {k base : Nat} {S : Nat → Prop} {w : World} {v : Value} {l : List α} (h : RowsOnS S P T k base w v l) (hk : 0 < k)
    {G : Program} (t : TypeId) (z : Value) (bytes : Nat) (ht : G.underlying t = some (.slice T)) (hinfo : (G.info? T).map (fun i => (i.zero, i.size, i.bytes)) = some (some z, k, bytes)) (hzs : z.cells.size = k)
    (cells : Array Value) (hr : cells.size = k) (h1 : ∀ u ∈ cells.toList, u.oneCell' = true) (x : α)
    (hP : ∀ w', (∀ b, b < w.heap.size → v.ownBlock ≠ some b → S b → w'.heap[b]? = w.heap[b]?) → P w' cells.toList x) (hlen : l.length ≤ 1099511627776) (hby : bytes ≤ 120) (hbase : base ≤ w.heap.size) :
    ∃ v' w', (Builtin.append_ #[t, t] t #[v, .slice (some ⟨w.heap.size, 0, none⟩) 1 1]).run G (w.alloc (.cells cells T)) = .ok v' w' ∧ RowsOnS S P T k base w' v' (l ++ [x]) ∧
      (w.alloc (.cells cells T)).grownBy w' v.ownBlock ∧ (v'.ownBlock = v.ownBlock ∨ v'.ownBlock = some (w.alloc (.cells cells T)).heap.size) := by
  obtain ⟨rows, g1, g2, g3, g4⟩ := h
  have hseg : Seg (w.alloc (.cells cells T)) (.slice (some ⟨w.heap.size, 0, none⟩) 1 1) k 1 cells.toList := by
    refine ⟨by simp [hr], by omega, some ⟨w.heap.size, 0, none⟩, 1, rfl, Nat.le_refl _, by omega, by simp, fun j u hu => ⟨_, _, rfl, ?_⟩⟩
    rw [Nat.zero_add, cell_of_row _ _ _ cells T (0, 0) (heap_alloc_new w _)]
    simpa using hu
  have hb1 : (l.length + 1) * bytes ≤ 140737488355328 := Nat.le_trans (Nat.mul_le_mul_left _ hby) (by omega)
  obtain ⟨v', w', hrun, hO, hg, hat⟩ := seg_append (P := G) (w.alloc (.cells cells T)) base t t T z k bytes ht hinfo hzs hk v _ l.length 1 rows.flatten cells.toList
    (World.ownsRow.alloc g3 _) hseg h1 (by omega) hb1 (by simp; omega)
  refine ⟨v', w', hrun, ⟨rows ++ [cells.toList], by simp [g1], ?_, by simpa using hO, ?_⟩, hg, hat⟩
  · intro r hr'
    rcases List.mem_append.1 hr' with h | h
    · exact g2 r h
    · simp at h; subst h; simpa using hr
  · intro w2 hw2
    have hsz : w.heap.size + 1 ≤ w'.heap.size := by have := hg.size; simpa using this
    have hold : ∀ b, b < w.heap.size → v.ownBlock ≠ some b → S b → w2.heap[b]? = w.heap[b]? := by
      intro b hlt hne hc
      have hne' : v'.ownBlock ≠ some b := by
        rcases hat with e | e
        · rw [e]; exact hne
        · rw [e]; intro e2; simp at e2; omega
      exact ((hw2 b (by omega) hne' hc).trans (hg.block b (by simp; omega) (fun e => hne e.symm))).trans (Below.heap_alloc w _ b hlt)
    intro i r y hri hyi
    by_cases hil : i < l.length
    · rw [List.getElem?_append_left (by omega)] at hri
      rw [List.getElem?_append_left hil] at hyi
      exact g4 w2 hold i r y hri hyi
    · have hi : i = l.length := by
        have := (List.getElem?_eq_some_iff.1 hyi).1
        simp at this; omega
      subst hi
      rw [← g1, List.getElem?_concat_length] at hri
      rw [List.getElem?_concat_length] at hyi
      cases hri
      cases hyi
      exact hP w2 hold

theorem RowsOnS.step {α : Type} {P : World → List Value → α → Prop} {T : TypeId} {k base i : Nat} {S : Nat → Prop} {wr : World} {oa : Option Addr} {oc : Nat} {l : List α} (h : RowsOnS S P T k base wr (.slice oa i oc) l) (hk : 0 < k) (hbs : base ≤ wr.heap.size) (hil : l.length = i)
    {G : Program} (t : TypeId) (z : Value) (bytes : Nat) (ht : G.underlying t = some (.slice T)) (hinfo : (G.info? T).map (fun i => (i.zero, i.size, i.bytes)) = some (some z, k, bytes)) (hzs : z.cells.size = k)
    (cells : Array Value) (hr : cells.size = k) (h1 : ∀ u ∈ cells.toList, u.oneCell' = true) (x : α)
    (hP : ∀ w', (∀ b, b < wr.heap.size → (Value.slice oa i oc).ownBlock ≠ some b → S b → w'.heap[b]? = wr.heap[b]?) → P w' cells.toList x) (hlen : i ≤ 1099511627776) (hby : bytes ≤ 120) :
    ∃ a' c' w5, (Builtin.append_ #[t, t] t #[.slice oa i oc, .slice (some ⟨wr.heap.size, 0, none⟩) 1 1]).run G (wr.alloc (.cells cells T)) = .ok (.slice a' (i + 1) c') w5 ∧ RowsOnS S P T k base w5 (.slice a' (i + 1) c') (l ++ [x]) ∧
      Below base wr w5 ∧ (wr.alloc (.cells cells T)).grownBy w5 (Value.slice oa i oc).ownBlock ∧ ((Value.slice a' (i + 1) c').ownBlock = (Value.slice oa i oc).ownBlock ∨ (Value.slice a' (i + 1) c').ownBlock = some (wr.alloc (.cells cells T)).heap.size) := by
  have hB1 : Below base wr (wr.alloc (.cells cells T)) := (Below.refl _ _).alloc hbs _
  obtain ⟨v', w', hrun, hO, hg, hat⟩ := h.append hk t z bytes ht hinfo hzs cells hr h1 x hP (by omega) hby (by omega)
  obtain ⟨a', c', rfl⟩ := hO.form
  rw [List.length_append, List.length_singleton, hil] at *
  exact ⟨a', c', w', hrun, hO, hB1.grown hg (by have := hB1.size; omega) fun q e => (h.own q e).1, hg, hat⟩


end Go.Proofs.YtbhiddafbpingaaGreat
