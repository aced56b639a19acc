/- Parts of a proof: texts of the author, merged. No condition of their own. -/
import Derived.Test.YtbdeclkccchnoaaGreatZ04
import Derived.Test.YtbdeclkccchnoaaGreatZ05
import Derived.Test.YtbdeclkccchnoaaGreatZ07
import Derived.Test.YtbdeclkccchnoaaGreatZ11
import Derived.Test.YtbdeclkccchnoaaGreatZ14
import Derived.StillTailTactics
import Derived.BigRegion
import Derived.Deep.CutBlock
import Derived.Deep.CutRange
import Derived.Deep.RegionLaw
namespace Go.Proofs.YtbdeclkccchnoaaGreat
open Go.RowKit
def intV (x : Int) : Value := .int .i64 x
def i64ok (x : Int) : Prop := -9223372036854775808 ≤ x ∧ x ≤ 9223372036854775807
def IntsAt (w : World) (v : Value) (l : List Int) : Prop := Seg w v 1 l.length (l.map intV) ∧ ∀ x ∈ l, i64ok x
theorem IntsAt.open {w : World} {v : Value} {l : List Int} (h : IntsAt w v l) :
    l.length ≤ 140737488355328 ∧ ∃ a cap, v = .slice a l.length cap ∧ (a = none → cap = 0) ∧ ∀ k x, l[k]? = some x → i64ok x ∧ ∃ b o, a = some ⟨b, o, none⟩ ∧ w.cell? ⟨b, o + k, none⟩ = some (.int .i64 x) := by
  obtain ⟨⟨_, h2, a, cap, hv, h3, h4, h5, h6⟩, hl⟩ := h
  refine ⟨h2, a, cap, hv, h5, fun k t hk => ⟨hl _ (List.mem_of_getElem? hk), h6 k _ ?_⟩⟩
  simp [hk, intV]
theorem under_ints : Tryz.prog.underlying 100 = some (.slice 3) := Tryz.underlying100
theorem info_int : (Tryz.prog.info? 3).map (fun i => (i.zero, i.size, i.bytes)) = some (some (.int .i64 0), 1, 8) := by kernel_rfl
def IntsOwn (w : World) (base : Nat) (v : Value) (l : List Int) : Prop := w.ownsRow base 3 1 v l.length (l.map intV)
theorem IntsOwn.ints {w : World} {base : Nat} {v : Value} {l : List Int} (h : IntsOwn w base v l) (hn : l.length ≤ 140737488355328) (hl : ∀ x ∈ l, i64ok x) : IntsAt w v l := ⟨row_seg h hn, hl⟩
theorem IntsOwn.later {w w' : World} {base : Nat} {v : Value} {l : List Int} (h : IntsOwn w base v l) (hb : Below w.heap.size w w') : IntsOwn w' base v l :=
  World.ownsRow.kept (row := none) h (below_grown hb none) (by cases hv : v.ownBlock with | none => exact .inl rfl | some k => exact .inr (by simp))
theorem IntsOwn.form {w : World} {base : Nat} {v : Value} {l : List Int} (h : IntsOwn w base v l) : ∃ a c, v = .slice a l.length c := by
  rcases h.2 with ⟨h1, h2⟩ | ⟨g, cap, cur, hv, -⟩
  · exact ⟨none, 0, by rw [h1, h2]⟩
  · exact ⟨_, _, hv⟩
theorem ints_append {w : World} {base : Nat} {v x : Value} {l m : List Int} (h : IntsOwn w base v l) (hx : IntsAt w x m) (hlen : l.length + m.length ≤ 17592186044416) (hbase : base ≤ w.heap.size) :
    ∃ v' w', (Builtin.append_ #[100, 100] 100 #[v, x]).run Tryz.prog w = .ok v' w' ∧ IntsOwn w' base v' (l ++ m) ∧ w.grownBy w' v.ownBlock ∧ (v'.ownBlock = v.ownBlock ∨ v'.ownBlock = some w.heap.size) := by
  obtain ⟨v', w', hr, hO, hg, hat⟩ := seg_append (P := Tryz.prog) w base 100 100 3 (.int .i64 0) 1 8 under_ints info_int rfl (by decide) v x l.length m.length _ _ h hx.1
    (by intro u hu; obtain ⟨c, -, rfl⟩ := List.mem_map.1 hu; rfl) (by omega) (by omega) hbase
  refine ⟨v', w', hr, ?_, hg, hat⟩
  unfold IntsOwn
  rw [List.length_append, List.map_append]
  exact hO
/-! Two lists, from a place on -/
theorem drop_at {α : Type} {l : List α} {i : Nat} {x : α} (h : l[i]? = some x) : l.drop i = x :: l.drop (i + 1) := by
  obtain ⟨hl, e⟩ := List.getElem?_eq_some_iff.1 h
  rw [List.drop_eq_getElem_cons hl, e]
set_option maxRecDepth 100000 in
set_option maxHeartbeats 4000000 in
theorem cmp_Compare_int (x y : Int) (w : World) :
    Calls Tryz.prog 71 #[.int .i64 x, .int .i64 y] w fun e w' => e = .returned (.int .i64 (if x < y then -1 else if y < x then 1 else 0)) ∧ w = w' := by
  by_cases h1 : x < y
  · rw [if_pos h1]
    have e2 : ¬ y < x := by omega
    go_enter Tryz.func71, Tryz.ntmps71
    go_wp2
    go_ret
    exact ⟨rfl, rfl⟩
  · rw [if_neg h1]
    by_cases h2 : y < x
    · rw [if_pos h2]
      go_enter Tryz.func71, Tryz.ntmps71
      go_wp2
      go_ret
      exact ⟨rfl, rfl⟩
    · rw [if_neg h2]
      go_enter Tryz.func71, Tryz.ntmps71
      go_wp2
      go_ret
      exact ⟨rfl, rfl⟩
theorem wpList_append_int {w W : World} {ops : Array Oper} {rest : List Oper} {o : Oper} {a : Act} {Q : Exit → Act → World → Prop} (hgd : o.guard = none) (s x : Operand)
    (ho : o.op = .call { callee := .builtin .append, args := #[s, x], argTypes := #[100, 100] }) (hty : o.type = 100) (v : Value) (y : Int) (q : Nat) (hs : a.eval s = v) (hx : a.eval x = .slice (some ⟨q, 0, none⟩) 1 1) (hw : w = W.alloc (.cells #[.int .i64 y] 3)) (hq : q = W.heap.size)
    (base : Nat) (l : List Int) (hown : IntsOwn W base v l) (hy : i64ok y) (hl : l.length ≤ 1099511627776) (hb : base ≤ W.heap.size)
    (h : ∀ a' c' w', IntsOwn w' base (.slice a' (l.length + 1) c') (l ++ [y]) → (∀ w0 : World, Below base w0 W → Below base w0 w') → (∀ b, b < W.heap.size → v.ownBlock ≠ some b → w'.heap[b]? = W.heap[b]?) → wpList Tryz.prog ops Q rest (a.put o.dst (.slice a' (l.length + 1) c')) w') : wpList Tryz.prog ops Q (o :: rest) a w := by
  subst hw
  subst hq
  have hA : Below W.heap.size W (W.alloc (.cells #[.int .i64 y] 3)) := (Below.refl _ _).alloc (Nat.le_refl _) _
  have hI : IntsAt (W.alloc (.cells #[.int .i64 y] 3)) (.slice (some ⟨W.heap.size, 0, none⟩) 1 1) [y] := by
    refine ⟨⟨rfl, by simp, _, _, rfl, Nat.le_refl _, by simp, by simp, fun j u hu => ⟨_, _, rfl, ?_⟩⟩, by simpa using hy⟩
    rw [Nat.zero_add, cell_of_row _ _ _ #[.int .i64 y] _ (0, 0) (heap_alloc_new W _)]
    simpa [intV] using hu
  obtain ⟨v', w', hr, hO, hg, -⟩ := ints_append (hown.later hA) hI (by simp; omega) (by simp; omega)
  obtain ⟨a', c', e⟩ := hO.form
  rw [List.length_append] at e
  have e' : v' = .slice a' (l.length + 1) c' := e
  subst e'
  refine wpList_append_eq hgd s x 100 ho v _ hs hx (by rw [hty]; exact hr) (h a' c' w' hO (fun w0 hb0 => ?_) fun b hb2 hne => (hg.block b (by simp; omega) (fun e => hne e.symm)).trans (Below.heap_alloc W _ b hb2))
  exact (hb0.alloc hb _).grown hg (by have := hb0.size; simp; omega) (fun q e => (World.ownsRow.lt hown q e).1)
end Go.Proofs.YtbdeclkccchnoaaGreat
namespace Go.Proofs.YtbdeclkccchnoaaGreat
open Go.RowKit
end Go.Proofs.YtbdeclkccchnoaaGreat
namespace Go.Proofs.YtbdeclkccchnoaaGreat
open Go.RowKit Go.Shelf
def SubCallT (w0 : World) (sv : Value) (s : List Mes) (d : Nat) (f : Fld) : Prop := ∀ (W : World) (v : Value) (b : List UInt8), Below w0.heap.size w0 W → Bytes W v b → b.length ≤ 1099511627776 → SubOk s d f.of b →
    Calls Tryz.prog 22 #[sv, .int .i64 f.of, v] W fun e w' => ∃ u1 u2 y, (u1.oneCell' = true ∧ u2.oneCell' = true) ∧ tsub s d f.of b = [y] ∧ e = .returned (.agg #[u1, u2]) ∧ Below W.heap.size W w' ∧ Apart 0 W.heap.size w' fun w2 => MsgAt d w2 (.agg #[u1, u2]) y
theorem sub_callT {w0 : World} {sv : Value} {s : List Mes} (hs : sright s = true) {d : Nat} (hrec : ∀ d', d = d' + 1 → TOfOk w0 sv s d') {m q : Nat} (hm : m < s.length) (hq : q < (s.getD m .zero).fields.length) : SubCallT w0 sv s d ((s.getD m .zero).fields.getD q .zero) := by
  rintro W v b hB hb hl ⟨d', rfl, hv⟩
  have hr := of_range hs hm hq
  obtain ⟨f, hf⟩ : ∃ f, f = (s.getD m .zero).fields.getD q .zero := ⟨_, rfl⟩
  rw [← hf] at hr hv ⊢
  obtain ⟨o, ho⟩ : ∃ o : Nat, f.of = o := ⟨f.of.toNat, by omega⟩
  rw [ho, Int.toNat_natCast] at hv
  rw [ho]
  refine (hrec d' rfl o W v b (by omega) hB hb hl hv).mono ?_
  rintro e w' ⟨v', rfl, h2, h3⟩
  obtain ⟨a1, n1, c1, a2, n2, c2, rfl⟩ := h3.here.form
  exact ⟨_, _, _, ⟨rfl, rfl⟩, rfl, rfl, h2, h3⟩
theorem PcsAt.tail {w : World} {a : Option Addr} {n c : Nat} {bs : List (List UInt8)} (h : PcsAt w (.slice a n c) bs) (i : Nat) (hi : i ≤ n) : PcsAt w (sliced a i n c 1) (bs.drop i) := by
  obtain ⟨vs, g1, g2, g3⟩ := h
  have hn : n = bs.length := by obtain ⟨-, -, a', c', e, -⟩ := g2; cases e; rfl
  rw [← hn] at g2
  have hsb := Seg.sub g2 i n hi (Nat.le_refl _)
  rw [List.take_of_length_le (by simp; omega)] at hsb
  refine ⟨vs.drop i, by rw [List.length_drop, List.length_drop, g1], ?_, fun j u t hu ht => ?_⟩
  · rw [List.length_drop, ← hn]; simpa using hsb
  · rw [List.getElem?_drop] at hu ht
    exact g3 _ u t hu ht
def ValSt (w : World) (g V : Nat) (f : Fld) (wv : Value) (ws : List Nat) (bs : List (List UInt8)) (wx : World) (s1 s2 : Value) : Prop :=
  w.grownBy wx (some g) ∧ Blk wx g (f.cells ++ [s1, s2]) 98 ∧ Blk wx V [.int .i64 f.number, noneS, noneS, noneS] 52 ∧
  (∀ w2, (∀ b, wv.ownBlock = some b → w2.heap[b]? = w.heap[b]?) → Seg w2 s1 1 ws.length (ws.map wordV)) ∧
  (∀ w2, (∀ b, b < wx.heap.size → b ≠ V → b ≠ g → w2.heap[b]? = wx.heap[b]?) → PcsAt w2 s2 bs) ∧ V < wx.heap.size ∧ g < V ∧ w.heap.size < V
theorem ValSt.last {w : World} {g V : Nat} {f : Fld} {wv : Value} {ws : List Nat} {bs : List (List UInt8)} {wx : World} {a1 a2 : Option Addr} {n1 c1 n2 c2 : Nat} (h : ValSt w g V f wv ws bs wx (.slice a1 n1 c1) (.slice a2 n2 c2)) :
    ValSt w g V f wv (lastOf ws) (lastOf bs) ((wx.setCell ⟨g, 6, none⟩ (sliced a1 (n1 - 1) n1 c1 1)).setCell ⟨g, 7, none⟩ (sliced a2 (n2 - 1) n2 c2 1)) (sliced a1 (n1 - 1) n1 c1 1) (sliced a2 (n2 - 1) n2 c2 1) := by
  obtain ⟨h1, h2, h3, h4, h5, h6, h7, h8⟩ := h
  have hn1 : n1 = ws.length := by obtain ⟨-, -, a', c', e, -⟩ := h4 w (fun _ _ => rfl); cases e; rfl
  have hn2 : n2 = bs.length := by obtain ⟨vs, -, ⟨-, -, a', c', e, -⟩, -⟩ := h5 wx (fun _ _ _ _ => rfl); cases e; rfl
  have hk : ∀ b, b ≠ g → ((wx.setCell ⟨g, 6, none⟩ (sliced a1 (n1 - 1) n1 c1 1)).setCell ⟨g, 7, none⟩ (sliced a2 (n2 - 1) n2 c2 1)).heap[b]? = wx.heap[b]? := fun b hb => by
    rw [Below.heap_setCell _ _ _ b (by show b ≠ g; exact hb), Below.heap_setCell _ _ _ b (by show b ≠ g; exact hb)]
  refine ⟨grown_grown (grown_grown h1 (cell_grown _ _ _)) (cell_grown _ _ _), by simpa [Fld.cells] using (h2.set 6 (sliced a1 (n1 - 1) n1 c1 1)).set 7 (sliced a2 (n2 - 1) n2 c2 1), (hk V (by omega)).trans h3, fun w2 hw2 => ?_, fun w2 hw2 => ?_, by simpa using h6, h7, h8⟩
  · have hs := h4 w2 hw2
    rw [← hn1] at hs
    have hsb := Seg.sub hs (n1 - 1) n1 (by omega) (Nat.le_refl _)
    rw [List.take_of_length_le (by simp; omega)] at hsb
    unfold lastOf
    rw [List.length_drop, List.map_drop, ← hn1]
    simpa using hsb
  · have hs := h5 w2 fun b hb h1 h2 => (hw2 b (by simpa using hb) h1 h2).trans (hk b h2)
    unfold lastOf
    rw [← hn2]
    exact hs.tail (n2 - 1) (by omega)
theorem ValSt.joined {w : World} {g V : Nat} {f : Fld} {wv : Value} {ws : List Nat} {bs : List (List UInt8)} {W2 w3 : World} {s1 s2 v3 : Value} {j : List UInt8} (h : ValSt w g V f wv ws bs W2 s1 s2) (hO : Own w3 W2.heap.size v3 j) (hj : j.length ≤ 140737488355328) (hb : Below W2.heap.size W2 w3) :
    ∀ W6, W6 = (w3.setCell ⟨g, 7, none⟩ (.slice (some ⟨w3.heap.size, 0, none⟩) 1 1)).alloc (.cells #[v3] 32) → ValSt w g V f wv ws [j] W6 s1 (.slice (some ⟨w3.heap.size, 0, none⟩) 1 1) ∧
      ∀ b cs T, b ≠ g → b < W2.heap.size → Blk W2 b cs T → Blk W6 b cs T := by
  rintro W6 rfl
  obtain ⟨h1, h2, h3, h4, h5, h6, h7, h8⟩ := h
  have hz := hb.size
  have hsz : (w3.setCell ⟨g, 7, none⟩ (.slice (some ⟨w3.heap.size, 0, none⟩) 1 1)).heap.size = w3.heap.size := by simp
  have hk : ∀ b, b ≠ g → b < w3.heap.size → ((w3.setCell ⟨g, 7, none⟩ (.slice (some ⟨w3.heap.size, 0, none⟩) 1 1)).alloc (.cells #[v3] 32)).heap[b]? = w3.heap[b]? := fun b hb1 hb2 => by
    rw [Below.heap_alloc _ _ b (by rw [hsz]; exact hb2), Below.heap_setCell _ _ _ b (by show b ≠ g; exact hb1)]
  have hkb : ∀ b cs T, b ≠ g → b < W2.heap.size → Blk W2 b cs T → Blk ((w3.setCell ⟨g, 7, none⟩ (.slice (some ⟨w3.heap.size, 0, none⟩) 1 1)).alloc (.cells #[v3] 32)) b cs T :=
    fun b cs T g1 g2 g3 => (hk b g1 (by omega)).trans ((hb.block b g2).trans g3)
  refine ⟨⟨?_, by simpa [Fld.cells] using ((h2.below hb).set 7 (.slice (some ⟨w3.heap.size, 0, none⟩) 1 1)).alloc (.cells #[v3] 32), hkb V _ _ (by omega) h6 h3, h4, fun w2 hw2 => ?_, by simp; omega, h7, h8⟩, hkb⟩
  · refine grown_grown h1 (grown_grown (below_grown hb _) (grown_grown (cell_grown _ ⟨g, 7, none⟩ (.slice (some ⟨w3.heap.size, 0, none⟩) 1 1)) (below_grown ?_ _)))
    exact (Below.refl _ _).alloc (Nat.le_refl _) _
  · have hnew : w2.heap[w3.heap.size]? = some (.cells #[v3] 32 (0, 0)) := by
      refine (hw2 w3.heap.size (by simp) (by omega) (by omega)).trans ?_
      have := Blk.new' (w3.setCell ⟨g, 7, none⟩ (.slice (some ⟨w3.heap.size, 0, none⟩) 1 1)) [v3] 32 w3.heap.size hsz.symm
      exact this
    refine ⟨[v3], rfl, seg_blk (cs := [v3]) (T := 32) hnew 1 1 rfl (by omega), fun i u t hu ht => ?_⟩
    have hi : i = 0 := by have := (List.getElem?_eq_some_iff.1 hu).1; simp at this; omega
    subst hi
    simp at hu ht
    subst hu
    subst ht
    refine row_seg (row_keep hO fun b cur hbb he => ?_) hj
    have hlt := (Array.getElem?_eq_some_iff.1 he).1
    exact (hw2 b (by simp; omega) (by omega) (by omega)).trans (hk b (by omega) hlt)
theorem ValSt.drew {w : World} {g V : Nat} {f : Fld} {wv : Value} {ws : List Nat} {bs : List (List UInt8)} {wx : World} {s1 s2 : Value} (h : ValSt w g V f wv ws bs wx s1 s2) : ValSt w g V f wv ws bs wx.drew s1 s2 :=
  ⟨grown_grown h.1 (below_grown (Below.refl wx.heap.size wx).drew _), h.2.1, h.2.2.1, h.2.2.2.1, h.2.2.2.2.1, h.2.2.2.2.2⟩
theorem own_form' {w : World} {base : Nat} {v : Value} {l : List UInt8} (h : Own w base v l) : ∃ a n c, v = .slice a n c := by
  obtain ⟨a, c, e⟩ := own_form h; exact ⟨a, _, c, e⟩
theorem info_tmsg : (Tryz.prog.info? 27).map (fun i => (i.zero, i.size, i.bytes)) = some (some (.agg #[.slice none 0 0, .slice none 0 0]), 2, 48) := by kernel_rfl
def ValL (W7 : World) (V : Nat) (s : List Mes) (d : Nat) (f : Fld) (bs : List (List UInt8)) (w : World) (s1 s2 s3 : Value) : Prop :=
  W7.grownBy w (some V) ∧ Blk w V [.int .i64 f.number, s1, s2, s3] 52 ∧
  (f.kind = 17 → s2 = noneS ∧ RowsOwn (SubP d) 27 2 0 W7.heap.size w s3 (bs.flatMap (tsub s d f.of))) ∧
  (f.kind ≠ 17 → s3 = noneS ∧ StrsOwn w W7.heap.size s2 bs)
theorem grown_own {W7 w w7 : World} {V : Nat} {o : Option Nat} (h : W7.grownBy w (some V)) (hg : w.grownBy w7 o) (ho : ∀ b, o = some b → W7.heap.size ≤ b) : W7.grownBy w7 (some V) :=
  ⟨hg.os.trans h.os, hg.tape.trans h.tape, hg.output.trans h.output, Nat.le_trans h.size hg.size, fun b hb hne => (hg.block b (Nat.lt_of_lt_of_le hb h.size) (fun e => by have := ho b e.symm; omega)).trans (h.block b hb hne)⟩
theorem ValL.text_push {W7 : World} {V : Nat} {s : List Mes} {d : Nat} {f : Fld} {bs : List (List UInt8)} {w : World} {s1 s2 s3 : Value} (h : ValL W7 V s d f bs w s1 s2 s3) (hV : V < W7.heap.size) (h17 : f.kind ≠ 17) (hl : bs.length + 1 ≤ 1099511627777) (t : List UInt8) :
    ∃ a5 n5 c5 w7, (Builtin.append_ #[25, 25] 25 #[s2, .slice (some ⟨w.heap.size, 0, none⟩) 1 1]).run Tryz.prog (w.alloc (.cells #[.string ⟨t.toArray⟩] 9)) = .ok (.slice a5 n5 c5) w7 ∧ Blk w7 V [.int .i64 f.number, s1, s2, s3] 52 ∧
      ValL W7 V s d f (bs ++ [t]) (w7.setCell ⟨V, 2, none⟩ (.slice a5 n5 c5)) s1 (.slice a5 n5 c5) s3 := by
  obtain ⟨rfl, ho⟩ := h.2.2.2 h17
  obtain ⟨v', w7, hr, hO, hg⟩ := ho.one t hl h.1.size
  obtain ⟨a5, c5, rfl⟩ := hO.form
  have hown : ∀ b, s2.ownBlock = some b → W7.heap.size ≤ b := fun b e => (World.ownsRow.lt ho b e).1
  have b7 : Blk w7 V [.int .i64 f.number, s1, s2, noneS] 52 := (hg.block V h.2.1.lt (fun e => by have := hown V e.symm; omega)).trans h.2.1
  refine ⟨a5, _, c5, w7, hr, b7, grown_grown (grown_own h.1 hg hown) (cell_grown _ _ _), by simpa using b7.set 2 _, fun e => absurd e h17, fun _ => ⟨rfl, ?_⟩⟩
  exact row_keep hO fun b _ hb _ => Below.heap_setCell w7 _ _ b (by show b ≠ V; omega)
theorem ValL.sub_push {W7 : World} {V : Nat} {s : List Mes} {d : Nat} {f : Fld} {bs : List (List UInt8)} {w w1 : World} {s1 s2 : Value} {a3 : Option Addr} {n3 c3 : Nat} (h : ValL W7 V s d f bs w s1 s2 (.slice a3 n3 c3)) (hV : V < W7.heap.size) (h17 : f.kind = 17)
    (hl : bs.length ≤ 1099511627776) (hb : Below w.heap.size w w1) {u1 u2 : Value} (h1 : u1.oneCell' = true) (h2 : u2.oneCell' = true) {t : List UInt8} {y : M d} (hy : tsub s d f.of t = [y]) (hap : Apart 0 w.heap.size w1 fun w' => MsgAt d w' (.agg #[u1, u2]) y) :
    ∃ a5 c5 w5, (Builtin.append_ #[50, 50] 50 #[.slice a3 n3 c3, .slice (some ⟨w1.heap.size, 0, none⟩) 1 1]).run Tryz.prog (w1.alloc (.cells #[u1, u2] 27)) = .ok (.slice a5 (n3 + 1) c5) w5 ∧
      Below W7.heap.size w (w1.alloc (.cells #[u1, u2] 27)) ∧ Below W7.heap.size w w5 ∧
      ValL W7 V s d f (bs ++ [t]) (w5.setCell ⟨V, 3, none⟩ (.slice a5 (n3 + 1) c5)) s1 s2 (.slice a5 (n3 + 1) c5) := by
  obtain ⟨rfl, ho⟩ := h.2.2.1 h17
  have hbl : ∀ bs : List (List UInt8), (bs.flatMap (tsub s d f.of)).length ≤ bs.length := by
    intro bs
    induction bs with
    | nil => simp
    | cons c r ih =>
      have := tsub_len s d f.of c
      rw [List.flatMap_cons, List.length_append, List.length_cons]; omega
  have hbd := hbl bs
  obtain ⟨a', c', he⟩ := ho.form
  have hn3 : (bs.flatMap (tsub s d f.of)).length = n3 := by cases he; rfl
  obtain ⟨a5, c5, w5, hr5, hO5, hB4, hB5⟩ := RowsOwn.step ho hb (by decide) (Nat.zero_le _) h.1.size hn3 50 _ 48 Tryz.underlying50 info_tmsg rfl #[u1, u2] rfl (by intro u hu; simp at hu; rcases hu with rfl | rfl <;> assumption) y hap (by omega) (by decide)
  have hg5 : W7.grownBy w5 (some V) := ⟨hB5.os.trans h.1.os, hB5.tape.trans h.1.tape, hB5.output.trans h.1.output, Nat.le_trans h.1.size hB5.size, fun b hb hne => (hB5.block b hb).trans (h.1.block b hb hne)⟩
  have b5 : Blk w5 V [.int .i64 f.number, s1, noneS, .slice a3 n3 c3] 52 := (hB5.block V hV).trans h.2.1
  refine ⟨a5, c5, w5, hr5, hB4, hB5, grown_grown hg5 (cell_grown _ _ _), by simpa using b5.set 3 _, fun _ => ⟨rfl, ?_⟩, fun e => absurd h17 e⟩
  rw [List.flatMap_append, List.flatMap_cons, List.flatMap_nil, List.append_nil, hy]
  refine hO5.later (fun b _ hc => Below.heap_setCell w5 _ _ b ?_) (by simp)
  show b ≠ V
  omega
theorem ValL.start {W7 : World} {V : Nat} {s : List Mes} {d : Nat} {f : Fld} {s1 : Value} (h : Blk W7 V [.int .i64 f.number, s1, noneS, noneS] 52) : ValL W7 V s d f [] W7 s1 noneS noneS :=
  ⟨grown_refl _ _, h, fun _ => ⟨rfl, RowsOwn.nil _ _ _ _ _ _⟩, fun _ => ⟨rfl, World.ownsRow_nil _ _ _ _⟩⟩
theorem ValL.done {W7 : World} {V : Nat} {s : List Mes} {d : Nat} {f : Fld} {l : List UInt8} {xs : List VW} {w wi : World} {wv s1 s2 s3 : Value} (h : ValL W7 V s d f (pcsB f (xs.flatMap (pieceB f l))) wi s1 s2 s3) (hV : V < W7.heap.size) (hw : w.heap.size ≤ V) (hg : ∀ b, wv.ownBlock = some b → wi.heap[b]? = w.heap[b]?) (hwb : ∀ b, wv.ownBlock = some b → b < wi.heap.size)
    (hrun : ∀ x ∈ xs, x.run = true → knumber f.kind = true) (ht : ∀ x ∈ xs, Thin x) (hv : vsum xs ≤ 1099511627776) (hne : xs ≠ []) (hn : -9223372036854775808 ≤ f.number ∧ f.number ≤ 9223372036854775807)
    (hws : ∀ w2, (∀ b, wv.ownBlock = some b → w2.heap[b]? = w.heap[b]?) → Seg w2 s1 1 ((counts f xs).flatMap (pieceW f l)).length (((counts f xs).flatMap (pieceW f l)).map wordV)) :
    ∀ w2, (∀ b, b < wi.heap.size → (w.heap.size ≤ b ∧ b ≠ w.heap.size ∧ b ≠ V ∨ wv.ownBlock = some b) → w2.heap[b]? = wi.heap[b]?) → ValP' d w2 [.int .i64 f.number, s1, s2, s3] (fieldV (tsub s d) f l xs) := by
  intro w2 hw2
  have hpl := @pcsB_len f l xs ht hv
  have hW : WordsAt w2 s1 (fieldV (tsub s d) f l xs).words := by
    refine ⟨hws w2 fun b e => (hw2 b (hwb b e) (.inr e)).trans (hg b e), fun y hy => ?_⟩
    obtain ⟨x, -, hx⟩ := List.mem_flatMap.1 (show y ∈ (counts f xs).flatMap (pieceW f l) from hy)
    exact pieceW_lt hx
  have hag : ∀ b, W7.heap.size ≤ b → b < wi.heap.size → w2.heap[b]? = wi.heap[b]? := fun b h1 h2 => hw2 b h2 (.inl (by omega))
  have hnil2 : StrsAt w2 noneS [] := ⟨row_seg (World.ownsRow_nil w2 0 9 1) (Nat.zero_le _), by simp⟩
  have hnil3 : SubsAt (MsgAt d) w2 noneS [] := (RowsOwn.nil (SubP d) 27 2 0 0 w2).at (by simp) fun _ _ _ => rfl
  by_cases h17 : f.kind = 17
  · obtain ⟨rfl, ho⟩ := h.2.2.1 h17
    have htt : (fieldV (tsub s d) f l xs).texts = [] := by unfold fieldV; simp only; rw [if_pos h17]
    refine ⟨s1, noneS, s3, rfl, hn, hW, by rw [htt]; exact hnil2, ?_⟩
    rw [pcs_subs hrun h17 hne] at ho
    have hbl : (fieldV (tsub s d) f l xs).subs.length ≤ 140737488355328 := by
      rw [← pcs_subs hrun h17 hne]
      have : ∀ bs : List (List UInt8), (bs.flatMap (tsub s d f.of)).length ≤ bs.length := by
        intro bs
        induction bs with
        | nil => simp
        | cons c r ih =>
          have := tsub_len s d f.of c
          rw [List.flatMap_cons, List.length_append, List.length_cons]; omega
      have := this (pcsB f (xs.flatMap (pieceB f l)))
      omega
    exact ho.at hbl fun b h1 h2 => hag b (by omega) h1
  · obtain ⟨rfl, ho⟩ := h.2.2.2 h17
    have htt : (fieldV (tsub s d) f l xs).texts = pcsB f (xs.flatMap (pieceB f l)) := by rw [pcs_texts hrun h17]; unfold fieldV; simp only; rw [if_neg h17]
    have hss : (fieldV (tsub s d) f l xs).subs = [] := by unfold fieldV; simp only; rw [if_neg h17]
    refine ⟨s1, s2, noneS, rfl, hn, hW, ?_, by rw [hss]; exact hnil3⟩
    rw [htt]
    refine StrsOwn.strs (base := W7.heap.size) (row_keep ho fun b _ hb he => hag b hb (Array.getElem?_eq_some_iff.1 he).1) (by omega) fun t htm => ?_
    have := hpl.2.1 t htm
    omega
end Go.Proofs.YtbdeclkccchnoaaGreat
