/- record.span, record.Whole, within the bytes. tree.of: what valid bytes mean (tof). At most 2^40 bytes. Plain laws of exchanges in a row of things. No condition. -/
import Derived.Test.YtbhiddafbpingaaGreatZ02
import Derived.Test.YtbhiddafbpingaaGreatZ14
import Derived.Test.YtbhiddafbpingaaGreatZ23
import Derived.Test.YtbhiddafbpingaaGreatZ30
import Derived.Test.YtbhiddafbpingaaGreatZ33
import Derived.Test.YtbhiddafbpingaaGreatZ35
import Derived.Test.YtbhiddafbpingaaGreatZ40
import Derived.Test.YtbhiddafbpingaaGreatZ41
namespace Go.Proofs.YtbhiddafbpingaaGreat
open Go.RowKit

set_option maxRecDepth 100000 in
set_option maxHeartbeats 4000000 in
theorem record_span {w : World} {v : Value} {l : List UInt8} (h : Bytes w v l) (i j : Nat) (hij : i ≤ j) (hj : j ≤ l.length) :
    Calls Tryz.prog 113 #[v, .int .i64 (i : Int), .int .i64 (j : Int)] w fun e w' => ∃ v', e = .returned v' ∧ Own w' w.heap.size v' (part l i j) ∧ Below w.heap.size w w' := by
  obtain ⟨hlen, a, cap, rfl, -⟩ := h.open
  have hcap : l.length ≤ cap := by obtain ⟨_, _, a', c', e', h3, _⟩ := h; cases e'; exact h3
  have hsl := slice_lh_run under_bytes size_u8 a l.length cap i j (by omega) (by omega)
  have hxb := h.sub rfl i j hij hj
  obtain ⟨sv, HSV⟩ : ∃ sv, Hid (sliced a i j cap 1 = sv) := ⟨_, rfl⟩
  rw [HSV.out] at hsl hxb
  have HC := hid (clone_bytes hxb)
  obtain ⟨n, HN⟩ : ∃ n, Hid (n = l.length) := ⟨_, rfl⟩
  rw [← HN.out] at hlen hcap hsl hj ⊢
  obtain ⟨Q, HQ⟩ : ∃ Q : Ending → World → Prop, Hid (Q = fun e w' => ∃ v', e = .returned v' ∧ Own w' w.heap.size v' (part l i j) ∧ Below w.heap.size w w') := ⟨_, rfl⟩
  rw [← HQ.out]
  clear h hxb
  go_enter Tryz.func113, Tryz.ntmps113
  go_wp2_with (go_at_call 144; refine HC.out.mono ?_; rintro e w1 ⟨o, rfl, hown, hb1⟩)
  rw [HQ.out]
  exact ⟨_, rfl, hown, hb1⟩

set_option maxRecDepth 100000 in
set_option maxHeartbeats 4000000 in
theorem record_Whole {w : World} {v : Value} {l : List UInt8} (h : Bytes w v l) (r : Rec) (hij : r.start ≤ r.to) (hj : r.to ≤ l.length) :
    Calls Tryz.prog 82 #[v, r.val] w fun e w' => ∃ v', e = .returned v' ∧ Own w' w.heap.size v' (part l r.start r.to) ∧ Below w.heap.size w w' := by
  obtain ⟨hlen, a, cap, rfl, -⟩ := h.open
  obtain ⟨n, HN⟩ : ∃ n, Hid (n = l.length) := ⟨_, rfl⟩
  have H := hid h
  rw [← HN.out] at hlen H hj ⊢
  obtain ⟨r1, r2, i, at', j⟩ := r
  simp only at hij hj ⊢
  obtain ⟨Q, HQ⟩ : ∃ Q : Ending → World → Prop, Hid (Q = fun e w' => ∃ v', e = .returned v' ∧ Own w' w.heap.size v' (part l i j) ∧ Below w.heap.size w w') := ⟨_, rfl⟩
  rw [← HQ.out]
  unfold Rec.val
  simp only
  clear h
  go_enter Tryz.func82, Tryz.ntmps82
  have hb0 : Below w.heap.size w (w.alloc (.cells #[.int .i64 r1, .int .i64 r2, .int .i64 i, .int .i64 at', .int .i64 j] 156)) := by (repeat (first | with_reducible exact Below.refl _ _ | with_reducible refine Below.setCell ?_ (by first | omega | (simp; omega) | (simp; done)) _ | with_reducible refine Below.alloc ?_ (by first | omega | (simp; omega) | (simp; done)) _ | with_reducible refine below_drewN ?_ _ | with_reducible refine Below.drew ?_))
  have HSP := hid (record_span (H.out.below hb0) i j hij (by rw [← HN.out]; exact hj))
  go_wp2_with (go_at_call 113; refine HSP.out.mono ?_; rintro e w1 ⟨o, rfl, hown, hb1⟩)
  rw [HQ.out]
  exact ⟨_, rfl, hown.mono hb0.size, hb0.trans (hb1.mono hb0.size)⟩

end Go.Proofs.YtbhiddafbpingaaGreat

namespace Go.Proofs.YtbhiddafbpingaaGreat
open Go.RowKit Go.Shelf

theorem sright_fields' {s : List Mes} (h : sright s = true) (m : Nat) (hm : m < s.length) : (s.getD m .zero).fields.length ≤ 200 := by
  have h0 : (scheck s).2.2 = 0 := of_decide_eq_true h
  unfold scheck at h0
  by_cases h1 : s.length = 0 ∨ 100 < s.length
  · rw [if_pos h1] at h0; simp at h0
  rw [if_neg h1] at h0
  have hmem : s.getD m .zero ∈ s := by
    have : s.getD m .zero = s[m] := by simp [List.getD, hm]
    rw [this]; exact List.getElem_mem hm
  exact (scheckGo_ok s [] 0 h0 _ hmem).2.1
/-- the cells of views -/
theorem views_cells' {w : World} {a : Option Addr} {n c base : Nat} {T : TypeId} {l : List VW} (h : RowsOwn viewP T 7 0 base w (.slice a n c) l) (hl : l.length ≤ 140737488355328) (k : Nat) (x : VW) (hk : l[k]? = some x) :
    ∃ b o, a = some ⟨b, o, none⟩ ∧ base ≤ b ∧ b < w.heap.size ∧ ∀ j u, x.cells[j]? = some u → w.cell? ⟨b, o + k * 7 + j, none⟩ = some u := by
  have hown := h.own
  obtain ⟨rows, g1, g2, ⟨-, -, a', cap', he, -, -, -, g3⟩, g4⟩ := h.at hl (w' := w) (fun _ _ _ => rfl)
  have hkl := (List.getElem?_eq_some_iff.1 hk).1
  obtain ⟨r, hr⟩ : ∃ r, rows[k]? = some r := ⟨_, List.getElem?_eq_getElem (by omega)⟩
  have hx : r = x.cells := g4 k r x hr hk
  cases he
  have hfl : ∀ j u, x.cells[j]? = some u → rows.flatten[k * 7 + j]? = some u := by
    intro j u hu
    have hj : j < 7 := by have := (List.getElem?_eq_some_iff.1 hu).1; simpa [VW.cells, viewL] using this
    rw [flatten_get rows k j r g2 hr hj, hx, hu]
  obtain ⟨b, o, ha, -⟩ := g3 (k * 7 + 0) _ (hfl 0 _ rfl)
  subst ha
  obtain ⟨h1, h2⟩ := hown b rfl
  refine ⟨b, o, rfl, h1, h2, fun j u hu => ?_⟩
  obtain ⟨b', o', ha', hc⟩ := g3 (k * 7 + j) u (hfl j u hu)
  cases ha'
  rw [Nat.add_assoc]; exact hc
/-- what stays while the records are gone through: r the map, X the message's box -/
structure Fr (W5 : World) (r X : Nat) (wi : World) : Prop where
  os : wi.os = W5.os
  tape : wi.tape = W5.tape
  output : wi.output = W5.output
  size : W5.heap.size ≤ wi.heap.size
  block : ∀ b, b < W5.heap.size → b ≠ r → b ≠ X → wi.heap[b]? = W5.heap[b]?
theorem Fr.refl (W5 : World) (r X : Nat) : Fr W5 r X W5 := ⟨rfl, rfl, rfl, Nat.le_refl _, fun _ _ _ _ => rfl⟩
theorem Fr.below {W5 : World} {r X : Nat} {wi w' : World} (h : Fr W5 r X wi) (hb : Below wi.heap.size wi w') : Fr W5 r X w' :=
  ⟨hb.os.trans h.os, hb.tape.trans h.tape, hb.output.trans h.output, Nat.le_trans h.size hb.size, fun b h1 h2 h3 => (hb.block b (Nat.lt_of_lt_of_le h1 h.size)).trans (h.block b h1 h2 h3)⟩
theorem Fr.grown {W5 : World} {r X : Nat} {wi w' : World} {o : Option Nat} (h : Fr W5 r X wi) (hg : wi.grownBy w' o) (ho : ∀ b, o = some b → W5.heap.size ≤ b ∨ b = r ∨ b = X) : Fr W5 r X w' :=
  ⟨hg.os.trans h.os, hg.tape.trans h.tape, hg.output.trans h.output, Nat.le_trans h.size hg.size, fun b h1 h2 h3 => (hg.block b (Nat.lt_of_lt_of_le h1 h.size) (fun e => by have := ho b e.symm; omega)).trans (h.block b h1 h2 h3)⟩
theorem zero_pcs : ∀ w : World, (zeroValue 160).run Tryz.prog w = .ok (.pointer none) w := fun w => by kernel_rfl
theorem pcs_lookup {w : World} {r : Nat} {es : List (Int × Value)} (h : MapIs w r intK es) (q : Int) : (Instr.lookup 155 (.map (some r)) (.int .i64 q) false).run Tryz.prog w = .ok ((getOf q es).getD (.pointer none)) w := by
  have := map_lookup (P := Tryz.prog) intK_ok Tryz.underlying155 zero_pcs h q false
  simp only [Bool.false_eq_true, if_false] at this
  exact this
theorem pcs_insert {w : World} {r : Nat} {es : List (Int × Value)} (h : MapIs w r intK es) (q : Int) (v : Value) (hk : getOf q es = none) : (Instr.mapUpdate 155 (.map (some r)) (.int .i64 q) v).run Tryz.prog w = .ok () (putMap w r intK (es ++ [(q, v)])) :=
  map_insert (P := Tryz.prog) intK_ok Tryz.underlying155 h q v hk

/-- what holds while the records are gone through -/
structure LI (n0 : Nat) (W5 : World) (r X : Nat) (fs : List Fld) (l : List UInt8) (taken : List VW) (has : Nat → Bool) (tag : Nat → Nat) (es : List (Int × Value)) (G : Nat → Nat) (WV VV : Nat → Value) (uv : Value) (us : List (List UInt8)) (wi : World) : Prop where
  fr : Fr W5 r X wi
  xb : Blk wi X [noneS, uv] 58
  ts : TSt n0 (r + 1) r fs l taken has tag es G WV VV wi
  un : StrsOwn wi (r + 1) uv us
  tg : ∀ b, uv.ownBlock = some b → tag b = 0
theorem StrsOwn.own {w : World} {base : Nat} {v : Value} {l : List (List UInt8)} (h : StrsOwn w base v l) (b : Nat) (e : v.ownBlock = some b) : base ≤ b ∧ b < w.heap.size := World.ownsRow.lt h b e
theorem StrsOwn.form' {w : World} {base : Nat} {v : Value} {l : List (List UInt8)} (h : StrsOwn w base v l) : ∃ a n c, v = .slice a n c := by
  obtain ⟨a, c, e⟩ := h.form; exact ⟨a, _, c, e⟩
theorem LI.below {n0 : Nat} {W5 : World} {r X : Nat} {fs : List Fld} {l : List UInt8} {taken : List VW} {has : Nat → Bool} {tag : Nat → Nat} {es : List (Int × Value)} {G : Nat → Nat} {WV VV : Nat → Value} {uv : Value} {us : List (List UInt8)} {wi w' : World} (h : LI n0 W5 r X fs l taken has tag es G WV VV uv us wi) (hz : W5.heap.size = r + 1) (hn0 : n0 ≤ r)
    (hb : Below wi.heap.size wi w') : LI n0 W5 r X fs l taken has tag es G WV VV uv us w' := by
  have hs := h.fr.size
  exact ⟨h.fr.below hb, h.xb.below hb, h.ts.later (fun b hlt => hb.block b (by omega)) (hb.block r (by omega)) fun b _ hlt _ => hb.block b hlt, row_keep h.un fun b _ _ he => hb.block b (Array.getElem?_eq_some_iff.1 he).1, h.tg⟩
theorem StrsOwn.one' {W : World} {base : Nat} {v : Value} {l : List (List UInt8)} (h : StrsOwn W base v l) (t : List UInt8) (hn : l.length + 1 ≤ 1099511627777) (hB : base ≤ W.heap.size) :
    ∃ v' w', (Builtin.append_ #[39, 39] 39 #[v, .slice (some ⟨W.heap.size, 0, none⟩) 1 1]).run Tryz.prog (W.alloc (.cells #[strV t] 9)) = .ok v' w' ∧ StrsOwn w' base v' (l ++ [t]) ∧ W.grownBy w' v.ownBlock ∧ (v'.ownBlock = v.ownBlock ∨ ∃ b, v'.ownBlock = some b ∧ W.heap.size ≤ b) := by
  have hA : Below W.heap.size W (W.alloc (.cells #[strV t] 9)) := (Below.refl _ _).alloc (Nat.le_refl _) _
  have hx : Seg (W.alloc (.cells #[strV t] 9)) (.slice (some ⟨W.heap.size, 0, none⟩) 1 1) 1 1 [strV t] := seg_blk (Blk.new W [strV t] _) 1 1 rfl (by omega)
  have h' : (W.alloc (.cells #[strV t] 9)).ownsRow base 9 1 v l.length (l.map strV) := row_keep h fun b _ _ he => hA.block b (Array.getElem?_eq_some_iff.1 he).1
  obtain ⟨v', w', h1, h2, h3, h4⟩ := seg_append (P := Tryz.prog) _ base 39 39 9 (.string ⟨#[]⟩) 1 16 under_strl info_string rfl (by decide) v _ l.length 1 _ _ h' hx (by intro u hu; simp at hu; subst hu; rfl) (by omega) (by omega) (by simp; omega)
  refine ⟨v', w', h1, ?_, ⟨h3.os, h3.tape, h3.output, Nat.le_trans (by simp) h3.size, fun k hk hr => (h3.block k (by simp; omega) hr).trans (Below.heap_alloc W _ k hk)⟩, h4.imp id fun e => ⟨_, e, by simp⟩⟩
  unfold StrsOwn
  rw [List.length_append, List.map_append]
  exact h2
/-- an unknown record's text -/
theorem LI.push {n0 : Nat} {W5 : World} {r X : Nat} {fs : List Fld} {l : List UInt8} {taken : List VW} {has : Nat → Bool} {tag : Nat → Nat} {es : List (Int × Value)} {G : Nat → Nat} {WV VV : Nat → Value} {uv : Value} {us : List (List UInt8)} {wi : World} (h : LI n0 W5 r X fs l taken has tag es G WV VV uv us wi) (hz : W5.heap.size = r + 1) (hn0 : n0 ≤ X) (hX : X < r)
    {x : VW} (hx : x.k < 0) (t : List UInt8) (hl : us.length + 1 ≤ 1099511627777) :
    ∃ a5 n5 c5 w7, (Builtin.append_ #[39, 39] 39 #[uv, .slice (some ⟨wi.heap.size, 0, none⟩) 1 1]).run Tryz.prog (wi.alloc (.cells #[.string ⟨t.toArray⟩] 9)) = .ok (.slice a5 n5 c5) w7 ∧ Blk w7 X [noneS, uv] 58 ∧
      ∃ tag', LI n0 W5 r X fs l (taken ++ [x]) has tag' es G WV VV (.slice a5 n5 c5) (us ++ [t]) (w7.setCell ⟨X, 1, none⟩ (.slice a5 n5 c5)) := by
  have hs := h.fr.size
  obtain ⟨v', w7, hr, hO, hg, hat⟩ := h.un.one' t hl (by omega)
  obtain ⟨a5, n5, c5, rfl⟩ := hO.form'
  have hb7 : Blk w7 X [noneS, uv] 58 := (hg.block X h.xb.lt (fun e => by have := (h.un.own X e.symm).1; omega)).trans h.xb
  have hk : ∀ b, b < wi.heap.size → b ≠ X → uv.ownBlock ≠ some b → (w7.setCell ⟨X, 1, none⟩ (.slice a5 n5 c5)).heap[b]? = wi.heap[b]? := fun b hlt h1 h2 => by
    rw [Below.heap_setCell _ _ _ b (by show b ≠ X; exact h1)]
    exact hg.block b hlt fun e => h2 e.symm
  have hlow : ∀ b, b < r + 1 → uv.ownBlock ≠ some b := fun b hb e => by have := (h.un.own b e).1; omega
  have hos : ∀ b, (Value.slice a5 n5 c5).ownBlock = some b → b < wi.heap.size → tag b = 0 := by
    intro b e hlt
    by_cases hb : uv.ownBlock = some b
    · exact h.tg b hb
    · exfalso
      rcases hat with e2 | ⟨b', e2, hb'⟩
      · rw [e2] at e; exact hb e
      · rw [e2] at e; injection e with e; omega
  refine ⟨a5, n5, c5, w7, hr, hb7, fun b => if b < wi.heap.size then tag b else 0, ⟨?_, by simpa using hb7.set 1 (.slice a5 n5 c5), ?_, row_keep hO fun b _ hb _ => Below.heap_setCell _ _ _ b (by show b ≠ X; omega), fun b e => ?_⟩⟩
  · have hf7 := h.fr.grown hg fun b e => .inl (by have := (h.un.own b e).1; omega)
    have hc : w7.grownBy (w7.setCell ⟨X, 1, none⟩ (.slice a5 n5 c5)) (some X) := cell_grown _ _ _
    exact hf7.grown hc fun b e => .inr (.inr (Option.some.inj e).symm)
  · refine h.ts.skip (fun b hb => hk b (by omega) (by omega) (hlow b (by omega))) (hk r (by omega) (by omega) (hlow r (by omega))) (fun b h1 h2 h3 => hk b h2 (by omega) fun e => h3 (h.tg b e)) (fun b hb => if_pos hb) hx
  · by_cases hlt : b < wi.heap.size
    · show (if b < wi.heap.size then tag b else 0) = 0
      rw [if_pos hlt]; exact hos b e hlt
    · show (if b < wi.heap.size then tag b else 0) = 0
      rw [if_neg hlt]
theorem LI.insert {n0 : Nat} {W5 : World} {r X : Nat} {fs : List Fld} {l : List UInt8} {taken : List VW} {has : Nat → Bool} {tag : Nat → Nat} {es : List (Int × Value)} {G : Nat → Nat} {WV VV : Nat → Value} {uv : Value} {us : List (List UInt8)} {wi : World} (h : LI n0 W5 r X fs l taken has tag es G WV VV uv us wi) (hz : W5.heap.size = r + 1) (hn0 : n0 ≤ X) (hX : X < r)
    {q : Nat} (hq : q < fs.length) (hno : has q = false) {f : Fld} (hf : f = fs.getD q .zero) :
    ∀ w', w' = putMap (wi.alloc (.cells (f.cells ++ [noneS, noneS]).toArray 163)) r intK (es ++ [((q : Int), .pointer (some ⟨wi.heap.size, 0, none⟩))]) →
      (Instr.mapUpdate 155 (.map (some r)) (.int .i64 (q : Int)) (.pointer (some ⟨wi.heap.size, 0, none⟩))).run Tryz.prog (wi.alloc (.cells (f.cells ++ [noneS, noneS]).toArray 163)) = .ok () w' ∧ (∀ b, b < wi.heap.size → b ≠ r → w'.heap[b]? = wi.heap[b]?) ∧ wi.heap.size ≤ w'.heap.size ∧
      LI n0 W5 r X fs l taken (upd has q true) (upd tag wi.heap.size (q + 1)) (es ++ [((q : Int), .pointer (some ⟨wi.heap.size, 0, none⟩))]) (upd G q wi.heap.size) (upd WV q noneS) (upd VV q noneS) uv us w' := by
  rintro w' rfl
  subst hf
  have hs := h.fr.size
  have hr : r < wi.heap.size := by omega
  have hA : Below wi.heap.size wi (wi.alloc (.cells ((fs.getD q .zero).cells ++ [noneS, noneS]).toArray 163)) := (Below.refl _ _).alloc (Nat.le_refl _) _
  have hmap : MapIs (wi.alloc (.cells ((fs.getD q .zero).cells ++ [noneS, noneS]).toArray 163)) r intK es := (hA.block r hr).trans h.ts.map
  have hk : ∀ b, b < wi.heap.size → b ≠ r → (putMap (wi.alloc (.cells ((fs.getD q .zero).cells ++ [noneS, noneS]).toArray 163)) r intK (es ++ [((q : Int), .pointer (some ⟨wi.heap.size, 0, none⟩))])).heap[b]? = wi.heap[b]? := fun b h1 h2 => (putMap_other h2).trans (hA.block b h1)
  refine ⟨pcs_insert hmap _ _ (h.ts.hasnt q hq hno).1, hk, by rw [putMap_size]; simp, ⟨?_, (hk X h.xb.lt (by omega)).trans h.xb, ?_, row_keep h.un fun b _ hb he => hk b (Array.getElem?_eq_some_iff.1 he).1 (by omega), fun b e => ?_⟩⟩
  · exact ⟨h.fr.os, h.fr.tape, h.fr.output, by rw [putMap_size]; simp; omega, fun b h1 h2 h3 => (hk b (by omega) h2).trans (h.fr.block b h1 h2 h3)⟩
  · exact h.ts.insert (Nat.lt_succ_self r) (by omega) (by omega) (by omega) hq hno (putMap_is (by simp; omega)) ((putMap_other (by omega)).trans (Blk.new wi _ _)) hk
  · rw [upd_other _ _ _ (by have := (h.un.own b e).2; omega)]; exact h.tg b e
theorem LI.add {n0 : Nat} {W5 : World} {r X : Nat} {fs : List Fld} {l : List UInt8} {taken : List VW} {has : Nat → Bool} {tag : Nat → Nat} {es : List (Int × Value)} {G : Nat → Nat} {WV VV : Nat → Value} {uv : Value} {us : List (List UInt8)} {wi w' : World} (h : LI n0 W5 r X fs l taken has tag es G WV VV uv us wi) (hz : W5.heap.size = r + 1) (hn0 : n0 ≤ X) (hX : X < r)
    {q : Nat} (hq : q < fs.length) (hyes : has q = true) {x : VW} (hx : x.k = (q : Int)) {wv' vv' : Value} (hp : Pcs n0 (r + 1) (fs.getD q .zero) (G q) wv' vv' ((viewsOf taken (q : Int)).flatMap (pieceW (fs.getD q .zero) l) ++ pieceW (fs.getD q .zero) l x) ((viewsOf taken (q : Int)).flatMap (pieceB (fs.getD q .zero) l) ++ pieceB (fs.getD q .zero) l x) w')
    (hs : PcsStep (G q) (WV q) (VV q) wi wv' vv' w') : ∃ tag' WV' VV', LI n0 W5 r X fs l (taken ++ [x]) has tag' es G WV' VV' uv us w' := by
  obtain ⟨-, e2⟩ := h.ts.hass q hq hyes
  have hsz := h.fr.size
  have hs0 := hs
  obtain ⟨s1, s2, s3, s4, s5, -, -⟩ := hs
  have hk : ∀ b, b < wi.heap.size → tag b ≠ q + 1 → w'.heap[b]? = wi.heap[b]? := fun b hb ht => s5 b hb (by rintro rfl; exact ht e2.tg) (fun e => ht (e2.tw b e)) (fun e => ht (e2.tv b e))
  have hlow : ∀ b, b < r + 1 → w'.heap[b]? = wi.heap[b]? := fun b hb => s5 b (by omega) (by have := e2.pcs.bg; omega) (fun e => by have := (e2.pcs.words.own b e).1; omega) (fun e => by have := (e2.pcs.vals.own b e).1; omega)
  refine ⟨_, _, _, ⟨⟨s1.trans h.fr.os, s2.trans h.fr.tape, s3.trans h.fr.output, Nat.le_trans h.fr.size s4, fun b h1 h2 h3 => (hlow b (by omega)).trans (h.fr.block b h1 h2 h3)⟩, (hlow X (by omega)).trans h.xb, h.ts.add (Nat.lt_succ_self r) (by omega) hq hyes hx hp hs0, ?_, fun b e => ?_⟩⟩
  · have hu := h.un
    refine ⟨hu.1, ?_⟩
    rcases hu.2 with hu2 | ⟨g, cap, cur, hv, hb, hg, hr⟩
    · exact .inl hu2
    · have e : uv.ownBlock = some g := by rw [hv]; rfl
      exact .inr ⟨g, cap, cur, hv, hb, (hk g (h.un.own g e).2 (by have := h.tg g e; omega)).trans hg, hr⟩
  · show (if b < wi.heap.size then tag b else q + 1) = 0
    rw [if_pos (h.un.own b e).2]; exact h.tg b e

theorem many_nil {α : Type} (sub : Int → List UInt8 → List α) (f : Fld) (l : List UInt8) : many (fieldV sub f l []) = 0 := by
  unfold many fieldV counts lastOf
  simp
/-- what stays while the fields are gone through -/
structure L2 (w8 : World) (X : Nat) (has : Nat → Bool) (G : Nat → Nat) (done : List Int) (wi : World) : Prop where
  os : wi.os = w8.os
  tape : wi.tape = w8.tape
  output : wi.output = w8.output
  size : w8.heap.size ≤ wi.heap.size
  block : ∀ b, b < w8.heap.size → b ≠ X → (∀ p : Nat, (p : Int) ∈ done → has p = true → b ≠ G p) → wi.heap[b]? = w8.heap[b]?
theorem L2.refl (w8 : World) (X : Nat) (has : Nat → Bool) (G : Nat → Nat) : L2 w8 X has G [] w8 := ⟨rfl, rfl, rfl, Nat.le_refl _, fun _ _ _ _ => rfl⟩
theorem L2.more {w8 : World} {X : Nat} {has : Nat → Bool} {G : Nat → Nat} {done : List Int} {wi w' : World} (h : L2 w8 X has G done wi) {q : Nat} (hos : w'.os = wi.os) (ht : w'.tape = wi.tape) (ho : w'.output = wi.output) (hs : wi.heap.size ≤ w'.heap.size)
    (hb : ∀ b, b < w8.heap.size → b ≠ X → (has q = true → b ≠ G q) → w'.heap[b]? = wi.heap[b]?) : L2 w8 X has G (done ++ [(q : Int)]) w' :=
  ⟨hos.trans h.os, ht.trans h.tape, ho.trans h.output, Nat.le_trans h.size hs, fun b h1 h2 h3 => (hb b h1 h2 fun hh => h3 q (by simp) hh).trans (h.block b h1 h2 fun p hp hh => h3 p (by simp [hp]) hh)⟩

theorem info_tval : (Tryz.prog.info? 109).map (fun i => (i.zero, i.size, i.bytes)) = some (some (.agg #[.int .i64 0, .slice none 0 0, .slice none 0 0, .slice none 0 0]), 4, 80) := by kernel_rfl
theorem val_form {d : Nat} {w : World} {v0 v1 v2 v3 : Value} {x : Val (M d)} (h : ValP' d w [v0, v1, v2, v3] x) : ∃ m a1 n1 c1 a2 n2 c2 a3 n3 c3, v0 = .int .i64 m ∧ v1 = .slice a1 n1 c1 ∧ v2 = .slice a2 n2 c2 ∧ v3 = .slice a3 n3 c3 := by
  obtain ⟨m, a1, n1, c1, a2, n2, c2, a3, n3, c3, he⟩ := ValAt.form h
  simp at he
  obtain ⟨e0, e1, e2, e3⟩ := he
  exact ⟨m, a1, n1, c1, a2, n2, c2, a3, n3, c3, e0, e1, e2, e3⟩

theorem val_push {S : Nat → Prop} {d base xn : Nat} {W : World} {xa : Option Addr} {xc : Nat} {vs : List (Val (M d))} {x : Val (M d)} {nv : Int} {a1 a2 a3 : Option Addr} {n1 c1 n2 c2 n3 c3 : Nat} (h : RowsOnS S (ValP' d) 109 4 base W (.slice xa xn xc) vs) (hbs : base ≤ W.heap.size) (hil : vs.length = xn)
    (hP : ∀ w', (∀ b, b < W.heap.size → (Value.slice xa xn xc).ownBlock ≠ some b → S b → w'.heap[b]? = W.heap[b]?) → ValP' d w' [.int .i64 nv, .slice a1 n1 c1, .slice a2 n2 c2, .slice a3 n3 c3] x) (hxn : xn ≤ 1099511627776) :
    ∃ a' c' w5, (Builtin.append_ #[56, 56] 56 #[.slice xa xn xc, .slice (some ⟨W.heap.size, 0, none⟩) 1 1]).run Tryz.prog (W.alloc (.cells #[.int .i64 nv, .slice a1 n1 c1, .slice a2 n2 c2, .slice a3 n3 c3] 109)) = .ok (.slice a' (xn + 1) c') w5 ∧
      RowsOnS S (ValP' d) 109 4 base w5 (.slice a' (xn + 1) c') (vs ++ [x]) ∧ Below base W w5 := by
  obtain ⟨a5, c5, w5, hr5, hO5, hB5, -, -⟩ := h.step (by decide) hbs hil 56 _ 80 Tryz.underlying56 info_tval rfl #[.int .i64 nv, .slice a1 n1 c1, .slice a2 n2 c2, .slice a3 n3 c3] rfl (by intro u hu; simp at hu; rcases hu with rfl | rfl | rfl | rfl <;> rfl) x hP hxn (by decide)
  exact ⟨a5, c5, w5, hr5, hO5, hB5⟩

end Go.Proofs.YtbhiddafbpingaaGreat

namespace Go.Proofs.YtbhiddafbpingaaGreat

variable {T : Type}

/-- the row with the i-th and the j-th exchanged (d: what is read outside) -/
def swpL (d : T) (l : List T) (i j : Nat) : List T := (l.set i (l.getD j d)).set j (l.getD i d)
theorem swpL_len (d : T) (l : List T) (i j : Nat) : (swpL d l i j).length = l.length := by simp [swpL]
theorem getD_mid (d : T) (A : List T) (x : T) (B : List T) (n : Nat) (h : n = A.length) : (A ++ x :: B).getD n d = x := by
  subst h; simp [List.getD]
theorem set_mid (A : List T) (x y : T) (B : List T) (n : Nat) (h : n = A.length) : (A ++ x :: B).set n y = A ++ y :: B := by
  subst h; simp
theorem swpL_two (d : T) (A B C : List T) (x y : T) (i j : Nat) (hi : i = A.length) (hj : j = A.length + 1 + B.length) :
    swpL d (A ++ x :: (B ++ y :: C)) i j = A ++ y :: (B ++ x :: C) := by
  unfold swpL
  have e : ∀ z : T, A ++ z :: (B ++ y :: C) = (A ++ z :: B) ++ y :: C := fun z => by simp
  rw [getD_mid d A x _ i hi, set_mid A x _ _ i hi, e x, getD_mid d (A ++ x :: B) y C j (by simp; omega), e y, set_mid (A ++ y :: B) y x C j (by simp; omega)]
  simp
theorem swpL_two' (d : T) (A B C : List T) (x y : T) (i j : Nat) (hi : i = A.length) (hj : j = A.length + 1 + B.length) :
    swpL d (A ++ x :: (B ++ y :: C)) j i = A ++ y :: (B ++ x :: C) := by
  unfold swpL
  have e : ∀ z : T, A ++ z :: (B ++ y :: C) = (A ++ z :: B) ++ y :: C := fun z => by simp
  rw [getD_mid d A x _ i hi, e x, getD_mid d (A ++ x :: B) y C j (by simp; omega), set_mid (A ++ x :: B) y x C j (by simp; omega)]
  rw [show (A ++ x :: B) ++ x :: C = A ++ x :: (B ++ x :: C) by simp, set_mid A x y _ i hi]

/-- a place of one, among others -/
def putAt (P Z : List T) (k : Nat) (x : T) (S : List T) : List T := P ++ (Z.take k ++ x :: Z.drop k) ++ S
theorem putAt_len (P Z : List T) (k : Nat) (x : T) (S : List T) : (putAt P Z k x S).length = P.length + Z.length + 1 + S.length := by
  unfold putAt
  simp only [List.length_append, List.length_cons, List.length_take, List.length_drop]
  omega
theorem putAt_get (d : T) (P Z : List T) (k : Nat) (x : T) (S : List T) (hk : k ≤ Z.length) (n : Nat) (hn : n = P.length + k) : (putAt P Z k x S).getD n d = x := by
  unfold putAt
  rw [← List.append_assoc, List.append_assoc, List.cons_append]
  exact getD_mid d _ x _ n (by rw [List.length_append, List.length_take]; omega)
theorem putAt_eq (P Z : List T) (k : Nat) (x y : T) (S : List T) (hy : Z[k]? = some y) : putAt P Z k x S = (P ++ Z.take k) ++ x :: ([] ++ y :: (Z.drop (k + 1) ++ S)) ∧ putAt P Z (k + 1) x S = (P ++ Z.take k) ++ y :: ([] ++ x :: (Z.drop (k + 1) ++ S)) := by
  obtain ⟨hl, e⟩ := List.getElem?_eq_some_iff.1 hy
  unfold putAt
  constructor
  · rw [List.drop_eq_getElem_cons hl, e]; simp
  · rw [List.take_succ_eq_append_getElem hl, e]; simp
/-- one place on -/
theorem putAt_up (d : T) (P Z : List T) (k : Nat) (x y : T) (S : List T) (hy : Z[k]? = some y) (i j : Nat) (hi : i = P.length + k) (hj : j = i + 1) :
    (putAt P Z k x S).getD j d = y ∧ swpL d (putAt P Z k x S) i j = putAt P Z (k + 1) x S ∧ swpL d (putAt P Z (k + 1) x S) j i = putAt P Z k x S ∧ (putAt P Z (k + 1) x S).getD i d = y := by
  have hk : k < Z.length := (List.getElem?_eq_some_iff.1 hy).1
  obtain ⟨e1, e2⟩ := putAt_eq P Z k x y S hy
  have hl : (P ++ Z.take k).length = i := by rw [List.length_append, List.length_take]; omega
  refine ⟨?_, ?_, ?_, ?_⟩
  · rw [e1, show (P ++ Z.take k) ++ x :: ([] ++ y :: (Z.drop (k + 1) ++ S)) = (P ++ Z.take k ++ [x]) ++ y :: (Z.drop (k + 1) ++ S) by simp]
    exact getD_mid d _ y _ j (by rw [List.length_append, hl]; simp; omega)
  · rw [e1, e2, swpL_two d (P ++ Z.take k) [] (Z.drop (k + 1) ++ S) x y i j hl.symm (by rw [hl]; simp; omega)]
  · rw [e1, e2, swpL_two' d (P ++ Z.take k) [] (Z.drop (k + 1) ++ S) y x i j hl.symm (by rw [hl]; simp; omega)]
  · rw [e2]; exact getD_mid d _ y _ i hl.symm

/-- two runs of one length, exchanged up to a place -/
def swpRun (U X V Y W : List T) (k : Nat) : List T := U ++ (Y.take k ++ X.drop k) ++ V ++ (X.take k ++ Y.drop k) ++ W
theorem swpRun_zero (U X V Y W : List T) : swpRun U X V Y W 0 = U ++ X ++ V ++ Y ++ W := by simp [swpRun]
theorem swpRun_end (U X V Y W : List T) (k : Nat) (hx : X.length = k) (hy : Y.length = k) : swpRun U X V Y W k = U ++ Y ++ V ++ X ++ W := by
  unfold swpRun
  rw [List.take_of_length_le (by omega), List.take_of_length_le (by omega), List.drop_eq_nil_of_le (by omega), List.drop_eq_nil_of_le (by omega)]
  simp
theorem swpRun_len (U X V Y W : List T) (k : Nat) (h : X.length = Y.length) : (swpRun U X V Y W k).length = U.length + X.length + V.length + Y.length + W.length := by
  unfold swpRun
  simp only [List.length_append, List.length_take, List.length_drop]
  omega
theorem swpRun_step (d : T) (U X V Y W : List T) (k n : Nat) (hx : X.length = n) (hy : Y.length = n) (hk : k < n) (i j : Nat) (hi : i = U.length + k) (hj : j = U.length + n + V.length + k) :
    ∃ x y, (swpRun U X V Y W k).getD i d = x ∧ (swpRun U X V Y W k).getD j d = y ∧ swpL d (swpRun U X V Y W k) i j = swpRun U X V Y W (k + 1) := by
  have hX : X[k]? = some (X[k]'(by omega)) := List.getElem?_eq_getElem (by omega)
  have hY : Y[k]? = some (Y[k]'(by omega)) := List.getElem?_eq_getElem (by omega)
  generalize hxe : X[k]'(by omega) = x at hX
  generalize hye : Y[k]'(by omega) = y at hY
  have e1 : swpRun U X V Y W k = (U ++ Y.take k) ++ x :: ((X.drop (k + 1) ++ V ++ X.take k) ++ y :: (Y.drop (k + 1) ++ W)) := by
    unfold swpRun
    rw [List.drop_eq_getElem_cons (l := X) (by omega), List.drop_eq_getElem_cons (l := Y) (by omega), hxe, hye]; simp
  have e2 : swpRun U X V Y W (k + 1) = (U ++ Y.take k) ++ y :: ((X.drop (k + 1) ++ V ++ X.take k) ++ x :: (Y.drop (k + 1) ++ W)) := by
    unfold swpRun
    rw [List.take_succ_eq_append_getElem (l := X) (by omega), List.take_succ_eq_append_getElem (l := Y) (by omega), hxe, hye]; simp
  have hl : (U ++ Y.take k).length = i := by rw [List.length_append, List.length_take]; omega
  refine ⟨_, _, rfl, rfl, ?_⟩
  rw [e1, e2]
  exact swpL_two d _ _ _ x y i j hl.symm (by rw [hl]; simp only [List.length_append, List.length_drop, List.length_take]; omega)

end Go.Proofs.YtbhiddafbpingaaGreat
