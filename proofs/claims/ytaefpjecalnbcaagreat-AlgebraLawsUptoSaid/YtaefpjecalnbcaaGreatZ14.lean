/- run.Words: the words of a run (kwords), or its code. At most 2^40 bytes; the kind is a number's. slices.Clone of words and of strings: all in new memory. At most 2^40 of them. slices.Grow of nil and slices.Concat of two lists of words, of strings, of messages: a row of the call's own. At most 2^40 in each. A region that draws its order, with stores: V holds throughout, X till the gate g (the first store) has come up: what every later one waits for may be taken first by what X says. No condition. -/
import Derived.Test.YtaefpjecalnbcaaGreatZ03
import Derived.Test.YtaefpjecalnbcaaGreatZ08
import Derived.Test.YtaefpjecalnbcaaGreatZ09
import Derived.Test.YtaefpjecalnbcaaGreatZ10
import Derived.Test.YtaefpjecalnbcaaGreatZ13
import Derived.RangeFuncNested
import Derived.RangeFuncCalls
import Derived.Lib.AppendZerosOnto
import Derived.OrdersHeld
namespace Go.Proofs.YtaefpjecalnbcaaGreat
open Go.RowKit Go.Shelf
attribute [local go_sem] Oper.semAt_some
/-- A []uint64 of the call's own. -/
def WordsOwn (w : World) (base : Nat) (v : Value) (l : List Nat) : Prop := w.ownsRow base 63 1 v l.length (l.map wordV)
theorem info_u64 : (Tryz.prog.info? 63).map (fun i => (i.zero, i.size, i.bytes)) = some (some (.int .u64 0), 1, 8) := by kernel_rfl
theorem under_words : Tryz.prog.underlying 64 = some (.slice 63) := Tryz.underlying64
theorem WordsOwn.form {w : World} {base : Nat} {v : Value} {l : List Nat} (h : WordsOwn w base v l) : ∃ a c, v = .slice a l.length c := by
  rcases h.2 with ⟨h1, h2⟩ | ⟨g, cap, cur, hv, -⟩
  · exact ⟨none, 0, by rw [h1, h2]⟩
  · exact ⟨_, _, hv⟩
theorem WordsOwn.later {w w' : World} {base : Nat} {v : Value} {l : List Nat} (h : WordsOwn w base v l) (hb : Below w.heap.size w w') : WordsOwn w' base v l :=
  row_keep h fun b _ _ he => hb.block b (Array.getElem?_eq_some_iff.1 he).1
theorem WordsOwn.mono {W : World} {b b' : Nat} {v : Value} {l : List Nat} (h : WordsOwn W b v l) (hb : b' ≤ b) : WordsOwn W b' v l := by
  refine ⟨h.1, ?_⟩
  rcases h.2 with h2 | ⟨g, cap, cur, hv, hg, h3⟩
  · exact .inl h2
  · exact .inr ⟨g, cap, cur, hv, by omega, h3⟩
theorem WordsOwn.words {w : World} {base : Nat} {v : Value} {l : List Nat} (h : WordsOwn w base v l) (hn : l.length ≤ 140737488355328) (hl : ∀ x ∈ l, x < 2 ^ 64) : WordsAt w v l := ⟨row_seg h hn, hl⟩
theorem WordsOwn.one {W : World} {base : Nat} {v : Value} {l : List Nat} (h : WordsOwn W base v l) (y : Nat) (hn : l.length ≤ 1099511627776) (hB : base ≤ W.heap.size) :
    ∃ v' w', (Builtin.append_ #[64, 64] 64 #[v, .slice (some ⟨W.heap.size, 0, none⟩) 1 1]).run Tryz.prog (W.alloc (.cells #[.int .u64 (y : Int)] 63)) = .ok v' w' ∧ WordsOwn w' base v' (l ++ [y]) ∧ W.grownBy w' v.ownBlock := by
  have hA : Below W.heap.size W (W.alloc (.cells #[.int .u64 (y : Int)] 63)) := (Below.refl _ _).alloc (Nat.le_refl _) _
  have hx : Seg (W.alloc (.cells #[.int .u64 (y : Int)] 63)) (.slice (some ⟨W.heap.size, 0, none⟩) 1 1) 1 1 [.int .u64 (y : Int)] := seg_blk (Blk.new W [.int .u64 (y : Int)] _) 1 1 rfl (by omega)
  obtain ⟨v', w', h1, h2, h3, -⟩ := seg_append (P := Tryz.prog) _ base 64 64 63 (.int .u64 0) 1 8 under_words info_u64 rfl (by decide) v _ l.length 1 _ _ (h.later hA) hx (by intro u hu; simp at hu; subst hu; rfl) (by omega) (by omega) (by simp; omega)
  refine ⟨v', w', h1, ?_, ?_⟩
  · unfold WordsOwn
    rw [List.length_append, List.map_append]
    exact h2
  · refine ⟨h3.os, h3.tape, h3.output, Nat.le_trans (by simp) h3.size, fun k hk hr => (h3.block k (by simp; omega) hr).trans (Below.heap_alloc W _ k hk)⟩
/-- The boxes of words under way: k, results, the list, k, b (from block H on), the block of deferred calls, the loop's record. -/
structure WA (w : World) (k : Int) (rec : Loop) (code : Nat) (lv : Value) (ws : List Nat) (bv : Value) (W : World) : Prop where
  k0 : Blk W (w.heap.size) [.int .i64 k] 3
  r0 : Blk W (w.heap.size + 1) [.slice none 0 0] 64
  r1 : Blk W (w.heap.size + 1 + 1) [.int .u8 code] 37
  lb : Blk W (w.heap.size + 1 + 1 + 1) [lv] 64
  kb : Blk W (w.heap.size + 1 + 1 + 1 + 1) [.int .i64 k] 3
  bb : Blk W (w.heap.size + 1 + 1 + 1 + 1 + 1) [bv] 99
  D : W.heap[w.heap.size + 1 + 1 + 1 + 1 + 1 + 1]? = some (.deferred (some []))
  L : W.heap[w.heap.size + 1 + 1 + 1 + 1 + 1 + 1 + 1]? = some (.loop rec)
  own : WordsOwn W (w.heap.size + 1 + 1 + 1 + 1 + 1 + 1 + 1 + 1) lv ws
  B : Below w.heap.size w W
theorem heap_lt {W : World} {b : Nat} {o : Obj} (h : W.heap[b]? = some o) : b < W.heap.size := (Array.getElem?_eq_some_iff.1 h).1
theorem WA.below {w : World} {k : Int} {rec : Loop} {code : Nat} {lv : Value} {ws : List Nat} {bv : Value} {W W' : World} (h : WA w k rec code lv ws bv W) (hb : Below W.heap.size W W') : WA w k rec code lv ws bv W' :=
  ⟨h.k0.below hb, h.r0.below hb, h.r1.below hb, h.lb.below hb, h.kb.below hb, h.bb.below hb, (hb.block _ (heap_lt h.D)).trans h.D, (hb.block _ (heap_lt h.L)).trans h.L, h.own.later hb, h.B.trans (hb.mono h.B.size)⟩
theorem WA.put {w : World} {k : Int} {rec : Loop} {code : Nat} {lv : Value} {ws : List Nat} {bv : Value} {W : World} (h : WA w k rec code lv ws bv W) (rec' : Loop) :
    WA w k rec' code lv ws bv (W.putObj (w.heap.size + 1 + 1 + 1 + 1 + 1 + 1 + 1) (.loop rec')) :=
  ⟨h.k0.put _ (by omega), h.r0.put _ (by omega), h.r1.put _ (by omega), h.lb.put _ (by omega), h.kb.put _ (by omega), h.bb.put _ (by omega), (World.putObj_heap_other (by omega)).trans h.D,
    World.putObj_heap_same (heap_lt h.L), row_keep h.own (fun b _ hb _ => World.putObj_heap_other (by omega)), belowK_b (Nat.le_refl _) W _ _ _ (by omega) h.L rfl rfl |> fun hb => h.B.trans hb⟩
theorem WA.drew {w : World} {k : Int} {rec : Loop} {code : Nat} {lv : Value} {ws : List Nat} {bv : Value} {W : World} (h : WA w k rec code lv ws bv W) : WA w k rec code lv ws bv W.drew :=
  h.below (Below.refl W.heap.size W).drew
end Go.Proofs.YtaefpjecalnbcaaGreat
namespace Go.Proofs.YtaefpjecalnbcaaGreat
open Go.RowKit
theorem WordsOwn.formC {w : World} {base : Nat} {v : Value} {l : List Nat} (h : WordsOwn w base v l) : ∃ a c, v = .slice a l.length c := by
  rcases h.2 with ⟨h1, h2⟩ | ⟨g, cap, cur, hv, -⟩
  · exact ⟨none, 0, by rw [h1, h2]⟩
  · exact ⟨_, _, hv⟩
theorem run_clone_words {w : World} {ad : Addr} {n c : Nat} {l : List Nat} (h : WordsAt w (.slice (some ad) n c) l) (hn : n = l.length) (hl : n ≤ 1099511627776) :
    ∃ a' c' w', (Builtin.append_ #[64, 64] 64 #[.slice (some ⟨w.heap.size, 0, none⟩) 0 0, .slice (some ad) n c]).run Tryz.prog (w.alloc (.cells #[] 63)) = .ok (.slice a' n c') w' ∧ WordsOwn w' w.heap.size (.slice a' n c') l ∧ Below w.heap.size w w' := by
  have hb0 : Below w.heap.size w (w.alloc (.cells #[] 63)) := (Below.refl _ _).alloc (Nat.le_refl _) _
  have h0 : (w.alloc (.cells #[] 63)).ownsRow w.heap.size 63 1 (.slice (some ⟨w.heap.size, 0, none⟩) 0 0) 0 [] := World.ownsRow_made (base := w.heap.size) (e := 63) (size := 1) w #[] 0 (Nat.le_refl _) (by unfold maxLen; omega) rfl
  have hs : Seg (w.alloc (.cells #[] 63)) (.slice (some ad) n c) 1 n (l.map wordV) := by have := h.1.keep (below_keeps hb0); rw [← hn] at this; exact this
  obtain ⟨v', w', hr, hO, hg, -⟩ := seg_append (P := Tryz.prog) _ w.heap.size 64 64 63 (.int .u64 0) 1 8 under_words info_u64 rfl (by decide) _ _ 0 n [] _ h0 hs
    (by intro u hu; obtain ⟨c, -, rfl⟩ := List.mem_map.1 hu; rfl) (by omega) (by omega) hb0.size
  rw [Nat.zero_add, List.nil_append] at hO
  have hO' : WordsOwn w' w.heap.size v' l := by unfold WordsOwn; rw [← hn]; exact hO
  obtain ⟨a', c', rfl⟩ := hO'.formC
  rw [← hn] at hO' hr
  exact ⟨a', c', w', hr, hO', hb0.grown hg hb0.size (by intro q e; simp [Value.ownBlock] at e; omega)⟩
set_option maxRecDepth 100000 in
set_option maxHeartbeats 4000000 in
theorem clone_words {w : World} {a : Option Addr} {n c : Nat} {l : List Nat} (h : WordsAt w (.slice a n c) l) (hn : n = l.length) (hl : n ≤ 1099511627776) :
    Calls Tryz.prog 59 #[.slice a n c] w fun e w' => ∃ a' c', e = .returned (.slice a' n c') ∧ WordsOwn w' w.heap.size (.slice a' n c') l ∧ Below w.heap.size w w' := by
  cases a with
  | none =>
    have h0 : n = 0 := by
      rcases Nat.eq_zero_or_pos n with h0 | h0
      · exact h0
      · obtain ⟨-, a', c', he, -, hat⟩ := h.open
        obtain ⟨x, hx⟩ : ∃ x, l[0]? = some x := ⟨_, List.getElem?_eq_getElem (by omega)⟩
        obtain ⟨-, b, o, ha, -⟩ := hat 0 x hx
        cases he
        cases ha
    obtain ⟨Q, HQ⟩ : ∃ Q : Ending → World → Prop, Hid (Q = fun e w' => ∃ a' c', e = .returned (.slice a' n c') ∧ WordsOwn w' w.heap.size (.slice a' n c') l ∧ Below w.heap.size w w') := ⟨_, rfl⟩
    rw [← HQ.out]
    have HE : Hid (Q (.returned (.slice none 0 0)) w) := by
      rw [HQ.out]
      subst h0
      refine ⟨none, 0, rfl, ?_, Below.refl _ _⟩
      rw [List.length_eq_zero_iff.1 hn.symm]
      exact World.ownsRow_nil _ _ _ _
    have heq : ∀ w, (binOp .eql 64 (.slice none n c) (.slice none 0 0)).run Tryz.prog w = .ok (.bool true) w := fun w => rfl
    clear h hn hl h0
    go_enter Tryz.func59, Tryz.ntmps59
    go_wp2_with fail
    exact HE.out
  | some ad =>
    obtain ⟨a', c', w', hr, hO, hb⟩ := run_clone_words h hn hl
    obtain ⟨Q, HQ⟩ : ∃ Q : Ending → World → Prop, Hid (Q = fun e w' => ∃ a' c', e = .returned (.slice a' n c') ∧ WordsOwn w' w.heap.size (.slice a' n c') l ∧ Below w.heap.size w w') := ⟨_, rfl⟩
    rw [← HQ.out]
    have HE : Hid (Q (.returned (.slice a' n c')) w') := by rw [HQ.out]; exact ⟨a', c', rfl, hO, hb⟩
    have heq : ∀ w, (binOp .eql 64 (.slice (some ad) n c) (.slice none 0 0)).run Tryz.prog w = .ok (.bool false) w := fun w => rfl
    clear h hn hl hO hb
    go_enter Tryz.func59, Tryz.ntmps59
    go_wp2_with (at_builtin; refine wpList_append_eq rfl _ _ _ rfl _ _ rfl rfl hr ?_)
    exact HE.out
theorem StrsOwn.formC {w : World} {base : Nat} {v : Value} {l : List (List UInt8)} (h : StrsOwn w base v l) : ∃ a c, v = .slice a l.length c := by
  rcases h.2 with ⟨h1, h2⟩ | ⟨g, cap, cur, hv, -⟩
  · exact ⟨none, 0, by rw [h1, h2]⟩
  · exact ⟨_, _, hv⟩
theorem run_clone_strs {w : World} {ad : Addr} {n c : Nat} {l : List (List UInt8)} (h : StrsAt w (.slice (some ad) n c) l) (hn : n = l.length) (hl : n ≤ 1099511627776) :
    ∃ a' c' w', (Builtin.append_ #[25, 25] 25 #[.slice (some ⟨w.heap.size, 0, none⟩) 0 0, .slice (some ad) n c]).run Tryz.prog (w.alloc (.cells #[] 9)) = .ok (.slice a' n c') w' ∧ StrsOwn w' w.heap.size (.slice a' n c') l ∧ Below w.heap.size w w' := by
  have hb0 : Below w.heap.size w (w.alloc (.cells #[] 9)) := (Below.refl _ _).alloc (Nat.le_refl _) _
  have h0 : (w.alloc (.cells #[] 9)).ownsRow w.heap.size 9 1 (.slice (some ⟨w.heap.size, 0, none⟩) 0 0) 0 [] := World.ownsRow_made (base := w.heap.size) (e := 9) (size := 1) w #[] 0 (Nat.le_refl _) (by unfold maxLen; omega) rfl
  have hs : Seg (w.alloc (.cells #[] 9)) (.slice (some ad) n c) 1 n (l.map strV) := by have := h.1.keep (below_keeps hb0); rw [← hn] at this; exact this
  obtain ⟨v', w', hr, hO, hg, -⟩ := seg_append (P := Tryz.prog) _ w.heap.size 25 25 9 (.string ⟨#[]⟩) 1 16 under_strl info_string rfl (by decide) _ _ 0 n [] _ h0 hs
    (by intro u hu; obtain ⟨c, -, rfl⟩ := List.mem_map.1 hu; rfl) (by omega) (by omega) hb0.size
  rw [Nat.zero_add, List.nil_append] at hO
  have hO' : StrsOwn w' w.heap.size v' l := by unfold StrsOwn; rw [← hn]; exact hO
  obtain ⟨a', c', rfl⟩ := hO'.formC
  rw [← hn] at hO' hr
  exact ⟨a', c', w', hr, hO', hb0.grown hg hb0.size (by intro q e; simp [Value.ownBlock] at e; omega)⟩
set_option maxRecDepth 100000 in
set_option maxHeartbeats 4000000 in
theorem clone_strs {w : World} {a : Option Addr} {n c : Nat} {l : List (List UInt8)} (h : StrsAt w (.slice a n c) l) (hn : n = l.length) (hl : n ≤ 1099511627776) :
    Calls Tryz.prog 58 #[.slice a n c] w fun e w' => ∃ a' c', e = .returned (.slice a' n c') ∧ StrsOwn w' w.heap.size (.slice a' n c') l ∧ Below w.heap.size w w' := by
  cases a with
  | none =>
    have h0 : n = 0 := by
      rcases Nat.eq_zero_or_pos n with h0 | h0
      · exact h0
      · obtain ⟨-, a', c', he, -, hat⟩ := h.open
        obtain ⟨x, hx⟩ : ∃ x, l[0]? = some x := ⟨_, List.getElem?_eq_getElem (by omega)⟩
        obtain ⟨-, b, o, ha, -⟩ := hat 0 x hx
        cases he
        cases ha
    obtain ⟨Q, HQ⟩ : ∃ Q : Ending → World → Prop, Hid (Q = fun e w' => ∃ a' c', e = .returned (.slice a' n c') ∧ StrsOwn w' w.heap.size (.slice a' n c') l ∧ Below w.heap.size w w') := ⟨_, rfl⟩
    rw [← HQ.out]
    have HE : Hid (Q (.returned (.slice none 0 0)) w) := by
      rw [HQ.out]
      subst h0
      refine ⟨none, 0, rfl, ?_, Below.refl _ _⟩
      rw [List.length_eq_zero_iff.1 hn.symm]
      exact World.ownsRow_nil _ _ _ _
    have heq : ∀ w, (binOp .eql 25 (.slice none n c) (.slice none 0 0)).run Tryz.prog w = .ok (.bool true) w := fun w => rfl
    clear h hn hl h0
    go_enter Tryz.func58, Tryz.ntmps58
    go_wp2_with fail
    exact HE.out
  | some ad =>
    obtain ⟨a', c', w', hr, hO, hb⟩ := run_clone_strs h hn hl
    obtain ⟨Q, HQ⟩ : ∃ Q : Ending → World → Prop, Hid (Q = fun e w' => ∃ a' c', e = .returned (.slice a' n c') ∧ StrsOwn w' w.heap.size (.slice a' n c') l ∧ Below w.heap.size w w') := ⟨_, rfl⟩
    rw [← HQ.out]
    have HE : Hid (Q (.returned (.slice a' n c')) w') := by rw [HQ.out]; exact ⟨a', c', rfl, hO, hb⟩
    have heq : ∀ w, (binOp .eql 25 (.slice (some ad) n c) (.slice none 0 0)).run Tryz.prog w = .ok (.bool false) w := fun w => rfl
    clear h hn hl hO hb
    go_enter Tryz.func58, Tryz.ntmps58
    go_wp2_with (at_builtin; refine wpList_append_eq rfl _ _ _ rfl _ _ rfl rfl hr ?_)
    exact HE.out
end Go.Proofs.YtaefpjecalnbcaaGreat
namespace Go.Proofs.YtaefpjecalnbcaaGreat
open Go.RowKit
theorem grow_zeros_words (w : World) (n : Nat) (h0 : 0 < n) (hn : n ≤ 2199023255552) (ty : TypeId) :
    ∃ G, n ≤ G ∧ G ≤ 9223372036854775807 ∧ (Builtin.append_ #[64, 3] ty #[.slice none 0 0, .int .i64 (n : Int)]).run Tryz.prog w = .ok (.slice (some ⟨w.heap.size, 0, none⟩) n G) (w.drew.alloc (.cells (Builtin.zeroCells #[.int .u64 0] n ++ Builtin.zeroCells #[.int .u64 0] (G - n)) 63)) ∧ G ≤ maxLen := by
  obtain ⟨i, hi, hz, hsize, hby⟩ := info_parts info_u64
  have h := Lib.run_append_grow_zeros w 64 3 ty 63 i (.int .u64 0) .i64 .i64 under_words Tryz.underlying3 hi hz none 0 0 [] (run_firstCells_none w.drew i.size 0 0 0) n h0 (by omega) (by omega) (by omega) (by rw [hby]; omega)
    (by rw [Nat.zero_add]; exact growslice_fits (by omega) (by rw [hby]; omega))
  rw [Nat.zero_add] at h
  have hm := grownCap_le_maxLen w n 0 63 (by unfold maxLen; omega)
  refine ⟨_, grownCap_ge w n 0 _, by have := hm; unfold maxLen at this; omega, ?_, hm⟩
  simp at h
  exact h
set_option maxRecDepth 100000 in
set_option maxHeartbeats 4000000 in
theorem grow_words (w : World) (n : Nat) (hn : n ≤ 2199023255552) :
    Calls Tryz.prog 126 #[.slice none 0 0, .int .i64 (n : Int)] w fun e w' => ∃ v', e = .returned v' ∧ w'.ownsRow w.heap.size 63 1 v' 0 [] ∧ Below w.heap.size w w' := by
  by_cases h0 : 0 < n
  · obtain ⟨G, h1, h2, h3, h4⟩ := grow_zeros_words w n h0 hn 64
    have hcut : ∀ W, (Instr.slice 64 (.slice (some ⟨w.heap.size, 0, none⟩) n G) none (some (.int .i64 0)) none).run Tryz.prog W = .ok (.slice (some ⟨w.heap.size, 0, none⟩) 0 G) W := by
      intro W
      have := slice_h_run (P := Tryz.prog) under_words size_u64 (some ⟨w.heap.size, 0, none⟩) n G 0 (by omega) W
      rw [show ((0 : Nat) : Int) = 0 from rfl] at this
      rw [this]
      unfold sliced
      by_cases hG : G = 0
      · omega
      · rw [if_neg hG]; rfl
    have HOWN : Hid (World.ownsRow (w.drew.alloc (.cells (Builtin.zeroCells #[.int .u64 0] n ++ Builtin.zeroCells #[.int .u64 0] (G - n)) 63)) w.heap.size 63 1 (.slice (some ⟨w.heap.size, 0, none⟩) 0 G) 0 []) := by
      refine ⟨rfl, .inr ⟨w.heap.size, G, _, rfl, Nat.le_refl _, heap_alloc_new w.drew _, Nat.zero_le _, h4, ?_, by simp⟩⟩
      have e1 := size_zeroCells #[.int .u64 0] n
      have e2 := size_zeroCells #[.int .u64 0] (G - n)
      rw [Array.size_append, e1, e2]
      simp
      omega
    clear h4
    go_enter Tryz.func126, Tryz.ntmps126
    go_wp2_with (at_builtin; refine wpList_append2_eq rfl _ _ _ _ rfl _ _ rfl rfl h3 ?_)
    go_ret
    exact ⟨_, rfl, HOWN.out, ((Below.refl _ _).drew).alloc (Nat.le_refl _) _⟩
  · obtain rfl : n = 0 := by omega
    go_enter Tryz.func126, Tryz.ntmps126
    go_wp2_with fail
    go_ret
    exact ⟨_, rfl, World.ownsRow_nil _ _ _ _, Below.refl _ _⟩
set_option maxRecDepth 100000 in
set_option maxHeartbeats 4000000 in
theorem concat_words {w : World} {b : Nat} {a1 a2 : Option Addr} {n1 n2 k1 k2 : Nat} {xs1 xs2 : List Value} (h1 : Seg w (.slice a1 n1 k1) 1 n1 xs1) (h2 : Seg w (.slice a2 n2 k2) 1 n2 xs2) (o1 : ∀ u ∈ xs1, u.oneCell' = true) (o2 : ∀ u ∈ xs2, u.oneCell' = true)
    (c1 : w.cell? ⟨b, 0, none⟩ = some (.slice a1 n1 k1)) (c2 : w.cell? ⟨b, 1, none⟩ = some (.slice a2 n2 k2)) (hl1 : n1 ≤ 1099511627776) (hl2 : n2 ≤ 1099511627776) :
    Calls Tryz.prog 88 #[.slice (some ⟨b, 0, none⟩) 2 2] w fun e w' => ∃ a c, e = .returned (.slice a (n1 + n2) c) ∧ w'.ownsRow w.heap.size 63 1 (.slice a (n1 + n2) c) (n1 + n2) (xs1 ++ xs2) ∧ Below w.heap.size w w' := by
  have HS1 := hid h1
  have HS2 := hid h2
  have HO1 := hid o1
  have HO2 := hid o2
  have C1 := hid c1
  have C2 := hid c2
  clear h1 h2 o1 o2
  have hi0 : ∀ W, (Instr.indexAt 179 (.slice (some ⟨b, 0, none⟩) 2 2) (.int .i64 0)).run Tryz.prog W = .ok (.pointer (some ⟨b, 0, none⟩)) W := fun W => by kernel_rfl
  have hi1 : ∀ W, (Instr.indexAt 179 (.slice (some ⟨b, 0, none⟩) 2 2) (.int .i64 1)).run Tryz.prog W = .ok (.pointer (some ⟨b, 1, none⟩)) W := fun W => by kernel_rfl
  have HGR := grow_words w (n1 + n2) (by omega)
  rw [show ((n1 + n2 : Nat) : Int) = (n1 : Int) + (n2 : Int) by omega] at HGR
  have HG := hid HGR
  clear HGR
  go_enter Tryz.func88, Tryz.ntmps88
  go_wp2_with fail
  refine wp_loop_rounds 3 ?_
  rw [rounds_succ]
  go_wp2_with fail
  rw [rounds_succ]
  go_wp2_with fail
  rw [rounds_succ]
  go_wp2_with fail
  refine HG.out.mono ?_
  rintro e w1 ⟨v3, rfl, hO, hB⟩
  obtain ⟨v4, w2, hr4, hO4, hg4, -⟩ := seg_append (P := Tryz.prog) w1 w.heap.size 64 64 63 (.int .u64 0) 1 8 under_words info_u64 rfl (by decide) _ _ 0 n1 _ _ hO (HS1.out.keep (below_keeps hB)) HO1.out (by omega) (by omega) hB.size
  have hB2 : Below w.heap.size w w2 := hB.grown hg4 hB.size (fun q e => (World.ownsRow.lt hO q e).1)
  obtain ⟨v5, w3, hr5, hO5, hg5, -⟩ := seg_append (P := Tryz.prog) w2 w.heap.size 64 64 63 (.int .u64 0) 1 8 under_words info_u64 rfl (by decide) _ _ _ n2 _ _ hO4 (HS2.out.keep (below_keeps hB2)) HO2.out (by omega) (by omega) hB2.size
  have hB3 : Below w.heap.size w w3 := hB2.grown hg5 hB2.size (fun q e => (World.ownsRow.lt hO4 q e).1)
  rw [Nat.zero_add, List.nil_append] at hO5
  have k1' := below_keeps hB _ _ C1.out
  have k2' := below_keeps hB2 _ _ C2.out
  obtain ⟨a3, m3, k3, rfl⟩ : ∃ a n c, v3 = .slice a n c := by obtain ⟨-, -, a, c, e, -⟩ := row_seg hO (by omega); exact ⟨_, _, _, e⟩
  obtain ⟨a4, m4, k4, rfl⟩ : ∃ a n c, v4 = .slice a n c := by obtain ⟨-, -, a, c, e, -⟩ := row_seg hO4 (by omega); exact ⟨_, _, _, e⟩
  obtain ⟨a5, k5, rfl⟩ : ∃ a c, v5 = .slice a (n1 + n2) c := by obtain ⟨-, -, a, c, e, -⟩ := row_seg hO5 (by omega); exact ⟨_, _, e⟩
  have HFIN := hid hO5
  have HB3 := hid hB3
  clear hO hB hO4 hg4 hB2 hO5 hg5 hB3
  go_wp2_with fail
  refine wp_loop_rounds 3 ?_
  rw [rounds_succ]
  go_wp2_with (at_builtin; refine wpList_append_eq rfl _ _ _ rfl _ _ rfl rfl hr4 ?_)
  rw [rounds_succ]
  go_wp2_with (at_builtin; refine wpList_append_eq rfl _ _ _ rfl _ _ rfl rfl hr5 ?_)
  rw [rounds_succ]
  go_wp2_with fail
  go_ret
  exact ⟨_, _, rfl, HFIN.out, HB3.out⟩
theorem grow_zeros_strs (w : World) (n : Nat) (h0 : 0 < n) (hn : n ≤ 2199023255552) (ty : TypeId) :
    ∃ G, n ≤ G ∧ G ≤ 9223372036854775807 ∧ (Builtin.append_ #[25, 3] ty #[.slice none 0 0, .int .i64 (n : Int)]).run Tryz.prog w = .ok (.slice (some ⟨w.heap.size, 0, none⟩) n G) (w.drew.alloc (.cells (Builtin.zeroCells #[.string ⟨#[]⟩] n ++ Builtin.zeroCells #[.string ⟨#[]⟩] (G - n)) 9)) ∧ G ≤ maxLen := by
  obtain ⟨i, hi, hz, hsize, hby⟩ := info_parts info_string
  have h := Lib.run_append_grow_zeros w 25 3 ty 9 i (.string ⟨#[]⟩) .i64 .i64 under_strl Tryz.underlying3 hi hz none 0 0 [] (run_firstCells_none w.drew i.size 0 0 0) n h0 (by omega) (by omega) (by omega) (by rw [hby]; omega)
    (by rw [Nat.zero_add]; exact growslice_fits (by omega) (by rw [hby]; omega))
  rw [Nat.zero_add] at h
  have hm := grownCap_le_maxLen w n 0 9 (by unfold maxLen; omega)
  refine ⟨_, grownCap_ge w n 0 _, by have := hm; unfold maxLen at this; omega, ?_, hm⟩
  simp at h
  exact h
set_option maxRecDepth 100000 in
set_option maxHeartbeats 4000000 in
theorem grow_strs (w : World) (n : Nat) (hn : n ≤ 2199023255552) :
    Calls Tryz.prog 92 #[.slice none 0 0, .int .i64 (n : Int)] w fun e w' => ∃ v', e = .returned v' ∧ w'.ownsRow w.heap.size 9 1 v' 0 [] ∧ Below w.heap.size w w' := by
  by_cases h0 : 0 < n
  · obtain ⟨G, h1, h2, h3, h4⟩ := grow_zeros_strs w n h0 hn 25
    have hcut : ∀ W, (Instr.slice 25 (.slice (some ⟨w.heap.size, 0, none⟩) n G) none (some (.int .i64 0)) none).run Tryz.prog W = .ok (.slice (some ⟨w.heap.size, 0, none⟩) 0 G) W := by
      intro W
      have := slice_h_run (P := Tryz.prog) under_strl size_str (some ⟨w.heap.size, 0, none⟩) n G 0 (by omega) W
      rw [show ((0 : Nat) : Int) = 0 from rfl] at this
      rw [this]
      unfold sliced
      by_cases hG : G = 0
      · omega
      · rw [if_neg hG]; rfl
    have HOWN : Hid (World.ownsRow (w.drew.alloc (.cells (Builtin.zeroCells #[.string ⟨#[]⟩] n ++ Builtin.zeroCells #[.string ⟨#[]⟩] (G - n)) 9)) w.heap.size 9 1 (.slice (some ⟨w.heap.size, 0, none⟩) 0 G) 0 []) := by
      refine ⟨rfl, .inr ⟨w.heap.size, G, _, rfl, Nat.le_refl _, heap_alloc_new w.drew _, Nat.zero_le _, h4, ?_, by simp⟩⟩
      have e1 := size_zeroCells #[.string ⟨#[]⟩] n
      have e2 := size_zeroCells #[.string ⟨#[]⟩] (G - n)
      rw [Array.size_append, e1, e2]
      simp
      omega
    clear h4
    go_enter Tryz.func92, Tryz.ntmps92
    go_wp2_with (at_builtin; refine wpList_append2_eq rfl _ _ _ _ rfl _ _ rfl rfl h3 ?_)
    go_ret
    exact ⟨_, rfl, HOWN.out, ((Below.refl _ _).drew).alloc (Nat.le_refl _) _⟩
  · obtain rfl : n = 0 := by omega
    go_enter Tryz.func92, Tryz.ntmps92
    go_wp2_with fail
    go_ret
    exact ⟨_, rfl, World.ownsRow_nil _ _ _ _, Below.refl _ _⟩
set_option maxRecDepth 100000 in
set_option maxHeartbeats 4000000 in
theorem concat_strs {w : World} {b : Nat} {a1 a2 : Option Addr} {n1 n2 k1 k2 : Nat} {xs1 xs2 : List Value} (h1 : Seg w (.slice a1 n1 k1) 1 n1 xs1) (h2 : Seg w (.slice a2 n2 k2) 1 n2 xs2) (o1 : ∀ u ∈ xs1, u.oneCell' = true) (o2 : ∀ u ∈ xs2, u.oneCell' = true)
    (c1 : w.cell? ⟨b, 0, none⟩ = some (.slice a1 n1 k1)) (c2 : w.cell? ⟨b, 1, none⟩ = some (.slice a2 n2 k2)) (hl1 : n1 ≤ 1099511627776) (hl2 : n2 ≤ 1099511627776) :
    Calls Tryz.prog 64 #[.slice (some ⟨b, 0, none⟩) 2 2] w fun e w' => ∃ a c, e = .returned (.slice a (n1 + n2) c) ∧ w'.ownsRow w.heap.size 9 1 (.slice a (n1 + n2) c) (n1 + n2) (xs1 ++ xs2) ∧ Below w.heap.size w w' := by
  have HS1 := hid h1
  have HS2 := hid h2
  have HO1 := hid o1
  have HO2 := hid o2
  have C1 := hid c1
  have C2 := hid c2
  clear h1 h2 o1 o2
  have hi0 : ∀ W, (Instr.indexAt 144 (.slice (some ⟨b, 0, none⟩) 2 2) (.int .i64 0)).run Tryz.prog W = .ok (.pointer (some ⟨b, 0, none⟩)) W := fun W => by kernel_rfl
  have hi1 : ∀ W, (Instr.indexAt 144 (.slice (some ⟨b, 0, none⟩) 2 2) (.int .i64 1)).run Tryz.prog W = .ok (.pointer (some ⟨b, 1, none⟩)) W := fun W => by kernel_rfl
  have HGR := grow_strs w (n1 + n2) (by omega)
  rw [show ((n1 + n2 : Nat) : Int) = (n1 : Int) + (n2 : Int) by omega] at HGR
  have HG := hid HGR
  clear HGR
  go_enter Tryz.func64, Tryz.ntmps64
  go_wp2_with fail
  refine wp_loop_rounds 3 ?_
  rw [rounds_succ]
  go_wp2_with fail
  rw [rounds_succ]
  go_wp2_with fail
  rw [rounds_succ]
  go_wp2_with fail
  refine HG.out.mono ?_
  rintro e w1 ⟨v3, rfl, hO, hB⟩
  obtain ⟨v4, w2, hr4, hO4, hg4, -⟩ := seg_append (P := Tryz.prog) w1 w.heap.size 25 25 9 (.string ⟨#[]⟩) 1 16 under_strl info_string rfl (by decide) _ _ 0 n1 _ _ hO (HS1.out.keep (below_keeps hB)) HO1.out (by omega) (by omega) hB.size
  have hB2 : Below w.heap.size w w2 := hB.grown hg4 hB.size (fun q e => (World.ownsRow.lt hO q e).1)
  obtain ⟨v5, w3, hr5, hO5, hg5, -⟩ := seg_append (P := Tryz.prog) w2 w.heap.size 25 25 9 (.string ⟨#[]⟩) 1 16 under_strl info_string rfl (by decide) _ _ _ n2 _ _ hO4 (HS2.out.keep (below_keeps hB2)) HO2.out (by omega) (by omega) hB2.size
  have hB3 : Below w.heap.size w w3 := hB2.grown hg5 hB2.size (fun q e => (World.ownsRow.lt hO4 q e).1)
  rw [Nat.zero_add, List.nil_append] at hO5
  have k1' := below_keeps hB _ _ C1.out
  have k2' := below_keeps hB2 _ _ C2.out
  obtain ⟨a3, m3, k3, rfl⟩ : ∃ a n c, v3 = .slice a n c := by obtain ⟨-, -, a, c, e, -⟩ := row_seg hO (by omega); exact ⟨_, _, _, e⟩
  obtain ⟨a4, m4, k4, rfl⟩ : ∃ a n c, v4 = .slice a n c := by obtain ⟨-, -, a, c, e, -⟩ := row_seg hO4 (by omega); exact ⟨_, _, _, e⟩
  obtain ⟨a5, k5, rfl⟩ : ∃ a c, v5 = .slice a (n1 + n2) c := by obtain ⟨-, -, a, c, e, -⟩ := row_seg hO5 (by omega); exact ⟨_, _, e⟩
  have HFIN := hid hO5
  have HB3 := hid hB3
  clear hO hB hO4 hg4 hB2 hO5 hg5 hB3
  go_wp2_with fail
  refine wp_loop_rounds 3 ?_
  rw [rounds_succ]
  go_wp2_with (at_builtin; refine wpList_append_eq rfl _ _ _ rfl _ _ rfl rfl hr4 ?_)
  rw [rounds_succ]
  go_wp2_with (at_builtin; refine wpList_append_eq rfl _ _ _ rfl _ _ rfl rfl hr5 ?_)
  rw [rounds_succ]
  go_wp2_with fail
  go_ret
  exact ⟨_, _, rfl, HFIN.out, HB3.out⟩
theorem info_kmsg : (Tryz.prog.info? 27).map (fun i => (i.zero, i.size, i.bytes)) = some (some (.agg #[.slice none 0 0, .slice none 0 0]), 2, 48) := by kernel_rfl
theorem under_kmsgs : Tryz.prog.underlying 65 = some (.slice 27) := Tryz.underlying65
theorem grow_zeros_msgs (w : World) (n : Nat) (h0 : 0 < n) (hn : n ≤ 2199023255552) (ty : TypeId) :
    ∃ G, n ≤ G ∧ G ≤ 9223372036854775807 ∧ (Builtin.append_ #[65, 3] ty #[.slice none 0 0, .int .i64 (n : Int)]).run Tryz.prog w = .ok (.slice (some ⟨w.heap.size, 0, none⟩) n G) (w.drew.alloc (.cells (Builtin.zeroCells #[.slice none 0 0, .slice none 0 0] n ++ Builtin.zeroCells #[.slice none 0 0, .slice none 0 0] (G - n)) 27)) ∧ G ≤ maxLen := by
  obtain ⟨i, hi, hz, hsize, hby⟩ := info_parts info_kmsg
  have h := Lib.run_append_grow_zeros w 65 3 ty 27 i (.agg #[.slice none 0 0, .slice none 0 0]) .i64 .i64 under_kmsgs Tryz.underlying3 hi hz none 0 0 [] (run_firstCells_none w.drew i.size 0 0 0) n h0 (by omega) (by omega) (by omega) (by rw [hby]; omega)
    (by rw [Nat.zero_add]; exact growslice_fits (by omega) (by rw [hby]; omega))
  rw [Nat.zero_add] at h
  have hm := grownCap_le_maxLen w n 0 27 (by unfold maxLen; omega)
  refine ⟨_, grownCap_ge w n 0 _, by have := hm; unfold maxLen at this; omega, ?_, hm⟩
  simp at h
  exact h
set_option maxRecDepth 100000 in
set_option maxHeartbeats 4000000 in
theorem grow_msgs (w : World) (n : Nat) (hn : n ≤ 2199023255552) :
    Calls Tryz.prog 127 #[.slice none 0 0, .int .i64 (n : Int)] w fun e w' => ∃ v', e = .returned v' ∧ w'.ownsRow w.heap.size 27 2 v' 0 [] ∧ Below w.heap.size w w' := by
  by_cases h0 : 0 < n
  · obtain ⟨G, h1, h2, h3, h4⟩ := grow_zeros_msgs w n h0 hn 65
    have hcut : ∀ W, (Instr.slice 65 (.slice (some ⟨w.heap.size, 0, none⟩) n G) none (some (.int .i64 0)) none).run Tryz.prog W = .ok (.slice (some ⟨w.heap.size, 0, none⟩) 0 G) W := by
      intro W
      have := slice_h_run (P := Tryz.prog) under_kmsgs size_msg (some ⟨w.heap.size, 0, none⟩) n G 0 (by omega) W
      rw [show ((0 : Nat) : Int) = 0 from rfl] at this
      rw [this]
      unfold sliced
      by_cases hG : G = 0
      · omega
      · rw [if_neg hG]; rfl
    have HOWN : Hid (World.ownsRow (w.drew.alloc (.cells (Builtin.zeroCells #[.slice none 0 0, .slice none 0 0] n ++ Builtin.zeroCells #[.slice none 0 0, .slice none 0 0] (G - n)) 27)) w.heap.size 27 2 (.slice (some ⟨w.heap.size, 0, none⟩) 0 G) 0 []) := by
      refine ⟨rfl, .inr ⟨w.heap.size, G, _, rfl, Nat.le_refl _, heap_alloc_new w.drew _, Nat.zero_le _, h4, ?_, by simp⟩⟩
      have e1 := size_zeroCells #[.slice none 0 0, .slice none 0 0] n
      have e2 := size_zeroCells #[.slice none 0 0, .slice none 0 0] (G - n)
      rw [Array.size_append, e1, e2]
      simp
      omega
    clear h4
    go_enter Tryz.func127, Tryz.ntmps127
    go_wp2_with (at_builtin; refine wpList_append2_eq rfl _ _ _ _ rfl _ _ rfl rfl h3 ?_)
    go_ret
    exact ⟨_, rfl, HOWN.out, ((Below.refl _ _).drew).alloc (Nat.le_refl _) _⟩
  · obtain rfl : n = 0 := by omega
    go_enter Tryz.func127, Tryz.ntmps127
    go_wp2_with fail
    go_ret
    exact ⟨_, rfl, World.ownsRow_nil _ _ _ _, Below.refl _ _⟩
set_option maxRecDepth 100000 in
set_option maxHeartbeats 4000000 in
theorem concat_msgs {w : World} {b : Nat} {a1 a2 : Option Addr} {n1 n2 k1 k2 : Nat} {xs1 xs2 : List Value} (h1 : Seg w (.slice a1 n1 k1) 2 n1 xs1) (h2 : Seg w (.slice a2 n2 k2) 2 n2 xs2) (o1 : ∀ u ∈ xs1, u.oneCell' = true) (o2 : ∀ u ∈ xs2, u.oneCell' = true)
    (c1 : w.cell? ⟨b, 0, none⟩ = some (.slice a1 n1 k1)) (c2 : w.cell? ⟨b, 1, none⟩ = some (.slice a2 n2 k2)) (hl1 : n1 ≤ 1099511627776) (hl2 : n2 ≤ 1099511627776) :
    Calls Tryz.prog 89 #[.slice (some ⟨b, 0, none⟩) 2 2] w fun e w' => ∃ a c, e = .returned (.slice a (n1 + n2) c) ∧ w'.ownsRow w.heap.size 27 2 (.slice a (n1 + n2) c) (n1 + n2) (xs1 ++ xs2) ∧ Below w.heap.size w w' := by
  have HS1 := hid h1
  have HS2 := hid h2
  have HO1 := hid o1
  have HO2 := hid o2
  have C1 := hid c1
  have C2 := hid c2
  clear h1 h2 o1 o2
  have hi0 : ∀ W, (Instr.indexAt 181 (.slice (some ⟨b, 0, none⟩) 2 2) (.int .i64 0)).run Tryz.prog W = .ok (.pointer (some ⟨b, 0, none⟩)) W := fun W => by kernel_rfl
  have hi1 : ∀ W, (Instr.indexAt 181 (.slice (some ⟨b, 0, none⟩) 2 2) (.int .i64 1)).run Tryz.prog W = .ok (.pointer (some ⟨b, 1, none⟩)) W := fun W => by kernel_rfl
  have HGR := grow_msgs w (n1 + n2) (by omega)
  rw [show ((n1 + n2 : Nat) : Int) = (n1 : Int) + (n2 : Int) by omega] at HGR
  have HG := hid HGR
  clear HGR
  go_enter Tryz.func89, Tryz.ntmps89
  go_wp2_with fail
  refine wp_loop_rounds 3 ?_
  rw [rounds_succ]
  go_wp2_with fail
  rw [rounds_succ]
  go_wp2_with fail
  rw [rounds_succ]
  go_wp2_with fail
  refine HG.out.mono ?_
  rintro e w1 ⟨v3, rfl, hO, hB⟩
  obtain ⟨v4, w2, hr4, hO4, hg4, -⟩ := seg_append (P := Tryz.prog) w1 w.heap.size 65 65 27 (.agg #[.slice none 0 0, .slice none 0 0]) 2 48 under_kmsgs info_kmsg rfl (by decide) _ _ 0 n1 _ _ hO (HS1.out.keep (below_keeps hB)) HO1.out (by omega) (by omega) hB.size
  have hB2 : Below w.heap.size w w2 := hB.grown hg4 hB.size (fun q e => (World.ownsRow.lt hO q e).1)
  obtain ⟨v5, w3, hr5, hO5, hg5, -⟩ := seg_append (P := Tryz.prog) w2 w.heap.size 65 65 27 (.agg #[.slice none 0 0, .slice none 0 0]) 2 48 under_kmsgs info_kmsg rfl (by decide) _ _ _ n2 _ _ hO4 (HS2.out.keep (below_keeps hB2)) HO2.out (by omega) (by omega) hB2.size
  have hB3 : Below w.heap.size w w3 := hB2.grown hg5 hB2.size (fun q e => (World.ownsRow.lt hO4 q e).1)
  rw [Nat.zero_add, List.nil_append] at hO5
  have k1' := below_keeps hB _ _ C1.out
  have k2' := below_keeps hB2 _ _ C2.out
  obtain ⟨a3, m3, k3, rfl⟩ : ∃ a n c, v3 = .slice a n c := by obtain ⟨-, -, a, c, e, -⟩ := row_seg hO (by omega); exact ⟨_, _, _, e⟩
  obtain ⟨a4, m4, k4, rfl⟩ : ∃ a n c, v4 = .slice a n c := by obtain ⟨-, -, a, c, e, -⟩ := row_seg hO4 (by omega); exact ⟨_, _, _, e⟩
  obtain ⟨a5, k5, rfl⟩ : ∃ a c, v5 = .slice a (n1 + n2) c := by obtain ⟨-, -, a, c, e, -⟩ := row_seg hO5 (by omega); exact ⟨_, _, e⟩
  have HFIN := hid hO5
  have HB3 := hid hB3
  clear hO hB hO4 hg4 hB2 hO5 hg5 hB3
  go_wp2_with fail
  refine wp_loop_rounds 3 ?_
  rw [rounds_succ]
  go_wp2_with (at_builtin; refine wpList_append_eq rfl _ _ _ rfl _ _ rfl rfl hr4 ?_)
  rw [rounds_succ]
  go_wp2_with (at_builtin; refine wpList_append_eq rfl _ _ _ rfl _ _ rfl rfl hr5 ?_)
  rw [rounds_succ]
  go_wp2_with fail
  go_ret
  exact ⟨_, _, rfl, HFIN.out, HB3.out⟩
end Go.Proofs.YtaefpjecalnbcaaGreat
namespace Go.Proofs.YtaefpjecalnbcaaGreat
open Go.RowKit
variable {P : Program} {ops : Array Oper} {md : Region.Mode} {w : World}
/-- t waits for i, through others or not -/
def laterB (md : Region.Mode) (ops : Array Oper) : Nat → Nat → Nat → Bool
  | 0, _, _ => false
  | f + 1, i, t => match ops[t]? with
    | some o => o.after.toList.any fun e => Region.binds md e && (e.on == i || laterB md ops f i e.on)
    | none => false
def ClosedL (md : Region.Mode) (ops : Array Oper) (listed : Array Bool) : Prop := ∀ (j : Nat) (oj : Oper), ops[j]? = some oj → listed.getD j false = true → ∀ e ∈ oj.after, Region.binds md e = true → listed.getD e.on false = true
theorem later_spec {listed : Array Bool} (hc : ClosedL md ops listed) : ∀ (f i t : Nat), laterB md ops f i t = true → listed.getD i false = false → t ∉ Region.ready md ops listed ∧ listed.getD t false = false
  | 0, _, _, h, _ => by cases h
  | f + 1, i, t, h, hi => by
    rw [laterB] at h
    cases ho : ops[t]? with
    | none => rw [ho] at h; cases h
    | some o =>
      rw [ho] at h
      obtain ⟨e, he0, hb⟩ := List.any_eq_true.1 h
      have he : e ∈ o.after := Array.mem_toList_iff.1 he0
      simp only [Bool.and_eq_true, Bool.or_eq_true, beq_iff_eq] at hb
      obtain ⟨hbi, hon⟩ := hb
      have hun : listed.getD e.on false = false := by
        rcases hon with hon | hon
        · rw [hon]; exact hi
        · exact (later_spec hc f i e.on hon hi).2
      constructor
      · intro hr
        obtain ⟨-, o', ho', hall⟩ := mem_ready.1 hr
        rw [ho] at ho'
        cases ho'
        rw [hall e he hbi] at hun
        cases hun
      · cases hl : listed.getD t false with
        | false => rfl
        | true =>
          rw [hc t o ho hl e he hbi] at hun
          cases hun
theorem ClosedL.set {listed : Array Bool} (hc : ClosedL md ops listed) {i : Nat} (hi : i ∈ Region.ready md ops listed) : ClosedL md ops (listed.setIfInBounds i true) := by
  intro j oj hj hl e he hb
  obtain ⟨-, oi, hoi, hall⟩ := mem_ready.1 hi
  by_cases hij : i = j
  · subst hij
    rw [hj] at hoi
    cases hoi
    exact getD_set_true (hall e he hb)
  · rw [getD_set_ne false hij] at hl
    exact getD_set_true (hc j oj hj hl e he hb)
theorem unlisted_of_ready {listed : Array Bool} {i : Nat} (h : i ∈ Region.ready md ops listed) : listed.getD i false = false := by
  have h0 := (mem_ready.1 h).1
  rcases Nat.lt_or_ge i listed.size with h' | h'
  · simp [h'] at h0 ⊢; exact h0
  · simp [Array.getElem?_eq_none h'] at h0
variable {V X : World → Prop} {g : Nat} {Q : Exit → Act → World → Prop}
/-- V holds at w, and X while the gate has not come up -/
def AtG (V X : World → Prop) (g : Nat) (listed : Array Bool) (w : World) : Prop := V w ∧ (listed.getD g false = false → X w)
/-- whatever order is picked from here on, AtG holds behind each operation -/
def wpAnyG (P : Program) (md : Region.Mode) (ops : Array Oper) (Q : Exit → Act → World → Prop) (V X : World → Prop) (g : Nat) : Nat → Array Bool → Act → World → Prop
  | 0, listed, a, w => Region.ready md ops listed = [] ∧ Q .normal a w
  | fuel + 1, listed, a, w => (Region.ready md ops listed = [] → Q .normal a w) ∧
    ∀ i ∈ Region.ready md ops listed, wpOp P ops Q i (fun a' w' => AtG V X g (listed.setIfInBounds i true) w' ∧ wpAnyG P md ops Q V X g fuel (listed.setIfInBounds i true) a' w') a w
theorem wpAny_of_G : ∀ (fuel : Nat) (listed : Array Bool) (a : Act) (w : World), wpAnyG P md ops Q V X g fuel listed a w → wpAny P md ops Q fuel listed a w
  | 0, _, _, _, h => h
  | fuel + 1, _, _, _, h => ⟨h.1, fun i hi => wpOp_mono (fun a' w' h' => wpAny_of_G fuel _ a' w' h'.2) (h.2 i hi)⟩
theorem AtG.back {i : Nat} {listed : Array Bool} {w : World} (hig : i ≠ g) (h : AtG V X g (listed.setIfInBounds i true) w) : AtG V X g listed w :=
  ⟨h.1, fun hl => h.2 (by rw [getD_set_ne false hig]; exact hl)⟩
theorem wpAnyG_first {i : Nat} {oi : Oper} {v : Value} (hi : ops[i]? = some oi) (hsel : ∀ (j : Nat) (o : Oper) cs b, ops[j]? = some o → o.op ≠ .select cs b)
    (hQ : ∀ c a w, Q (.panic c) (a.put oi.dst v) w → Q (.panic c) a w) (hig : i ≠ g) (S : World → Prop) (hS : ∀ (listed : Array Bool) w, ClosedL md ops listed → listed.getD i false = false → AtG V X g listed w → S w) :
    ∀ (fuel : Nat) (listed : Array Bool) (a : Act) (w : World), ClosedL md ops listed →
      (∀ j oj, ops[j]? = some oj → j ≠ i → listed.getD j true = false → (∀ e ∈ oj.after, Region.binds md e = true → e.on ≠ i) → oi.apart ops oj = true) →
      i ∈ Region.ready md ops listed → YieldsIf P ops S oi v a → AtG V X g listed w →
      wpAnyG P md ops Q V X g fuel (listed.setIfInBounds i true) (a.put oi.dst v) w → wpAnyG P md ops Q V X g (fuel + 1) listed a w := by
  have hput : ∀ (listed : Array Bool) (w : World), AtG V X g listed w → AtG V X g (listed.setIfInBounds i true) w := fun listed w h =>
    ⟨h.1, fun hl => h.2 (by rw [getD_set_ne false hig] at hl; exact hl)⟩
  intro fuel
  induction fuel with
  | zero =>
    intro listed a w hc _ hr hy hA H
    refine ⟨fun h => (by rw [h] at hr; cases hr), fun j hj => ?_⟩
    by_cases hji : j = i
    · subst hji; exact hy.wpOp hi (hS listed w hc (unlisted_of_ready hr) hA) ⟨hput _ _ hA, H⟩
    · have := ready_mono hj hji
      rw [H.1] at this
      cases this
  | succ fuel ih =>
    intro listed a w hc hfree hr hy hA H
    refine ⟨fun h => (by rw [h] at hr; cases hr), fun j hj => ?_⟩
    by_cases hji : j = i
    · subst hji; exact hy.wpOp hi (hS listed w hc (unlisted_of_ready hr) hA) ⟨hput _ _ hA, H⟩
    · have h1 := H.2 j (ready_mono hj hji)
      obtain ⟨hjun, oj, hoj, hall⟩ := mem_ready.1 hj
      have hnot : ∀ e ∈ oj.after, Region.binds md e = true → e.on ≠ i := fun e he hb heq => by
        have h2 := hall e he hb
        rw [heq, unlisted_of_ready hr] at h2
        cases h2
      have h2 := wpOp_putIf hoj (hfree j oj hoj hji hjun hnot) (fun cs b => hsel i oi cs b hi) (fun cs b => hsel j oj cs b hoj) hQ hy h1
      have hfree' : ∀ k ok, ops[k]? = some ok → k ≠ i → (listed.setIfInBounds j true).getD k true = false →
          (∀ e ∈ ok.after, Region.binds md e = true → e.on ≠ i) → oi.apart ops ok = true := fun k ok hk hki hun hno => by
        refine hfree k ok hk hki ?_ hno
        by_cases hjk : j = k
        · subst hjk; exact hjun
        · rw [getD_set_ne true hjk] at hun; exact hun
      refine wpOp_mono (fun a' w' h3 => ?_) h2
      obtain ⟨h4, h5, h6⟩ := h3
      rw [Array.setIfInBounds_comm _ _ (Ne.symm hji)] at h5 h6
      exact ⟨h5.back hig, ih (listed.setIfInBounds j true) a' w' (hc.set hj) hfree' (ready_mono hr (Ne.symm hji)) h4 (h5.back hig) h6⟩
theorem wp_swap {o : Oper} {a : Act} {w : World} {K K' : Act → World → Prop} {Q' : Exit → Act → World → Prop} (hK : ∀ a w, K a w → K' a w) (hP : ∀ c a w, Q (.panic c) a w → Q' (.panic c) a w) (hL : LetsOut Q → LetsOut Q') (h : o.wp P a w K Q) : o.wp P a w K' Q' := by
  unfold Oper.wp at *
  generalize (execOp a.eval o).run P w = r at *
  cases r with
  | ok n w' =>
    cases n <;> simp only [Oper.upon] at h ⊢
    case value u => exact hK _ _ h
    case skip => exact hK _ _ h
    case defer d => exact hK _ _ h
    case enter f args =>
      refine Calls.mono h fun e w'' he => ?_
      cases e with
      | returned u => exact hK _ _ he
      | panicked c => exact hP _ _ _ he
      | outgrown => exact hL he
    case row row args => exact Go.Rows.mono h fun u w'' he => hK _ _ he
  | halt x w' =>
    cases x <;> simp only [Oper.upon] at h ⊢
    case panic u => exact hP _ _ _ h
/-- the only one that may come up; the gate has come up behind it -/
theorem wpAnyG_one {k : Nat} {o : Oper} {fuel : Nat} {listed : Array Bool} {a : Act} {w : World} (hr : Region.ready md ops listed = [k]) (hk : ops[k]? = some o)
    (hg : (listed.setIfInBounds k true).getD g false = true)
    (h : ∀ K : Exit → Act → World → Prop, Hid (∀ a' w', V w' → (V w' → wpAnyG P md ops Q V X g fuel (listed.setIfInBounds k true) a' w') → K .normal a' w') → wpList P ops K [o] a w) :
    wpAnyG P md ops Q V X g (fuel + 1) listed a w := by
  refine ⟨fun h1 => (by rw [hr] at h1; cases h1), fun i hi => ?_⟩
  rw [hr] at hi
  have hik : i = k := by simpa using hi
  subst hik
  have h2 := h (fun e a' w' => match e with
    | .normal => AtG V X g (listed.setIfInBounds i true) w' ∧ wpAnyG P md ops Q V X g fuel (listed.setIfInBounds i true) a' w'
    | e => Q e a' w') (hid fun a' w' hV hK => ⟨⟨hV, fun hl => by rw [hg] at hl; cases hl⟩, hK hV⟩)
  unfold wpOp
  simp only [hk]
  rw [wpList] at h2
  split at h2
  · rename_i hw
    simp only [hw, if_true]
    exact h2.imp (wp_swap (fun _ _ h => h) (fun _ _ _ h => h) (fun h => h)) (fun h => ⟨h.1, h.2⟩)
  · rename_i hw
    simp only [hw]
    exact h2
def seqG (P : Program) (ops : Array Oper) (Q : Exit → Act → World → Prop) (V X : World → Prop) : List Nat → List Oper → Act → World → Prop
  | 0 :: ts, o :: os, a, w => ∃ v, (∀ w, V w → (execOp a.eval o).run P w = .ok (.value v) w) ∧ seqG P ops Q V X ts os (a.put o.dst v) w
  | 1 :: ts, o :: os, a, w => ∃ v, (∀ w, X w → (execOp a.eval o).run P w = .ok (.value v) w) ∧ seqG P ops Q V X ts os (a.put o.dst v) w
  | _ :: ts, o :: os, a, w => ∀ K : Exit → Act → World → Prop, Hid (∀ a' w', V w' → (V w' → seqG P ops Q V X ts os a' w') → K .normal a' w') → wpList P ops K [o] a w
  | _, _, a, w => Q .normal a w
theorem wanted_none {o : Oper} {y : Nat → Option Bool} (h : o.guard.isNone = true) : Region.wanted o y = true := by
  have h' : o.guard = none := by simpa using h
  simp [Region.wanted, h']
theorem seqG0 {ts : List Nat} {o : Oper} {os : List Oper} {a : Act} {w : World} {v : Value} (hy : ∀ w, V w → (execOp a.eval o).run P w = .ok (.value v) w) (h : seqG P ops Q V X ts os (a.put o.dst v) w) : seqG P ops Q V X (0 :: ts) (o :: os) a w := ⟨v, hy, h⟩
theorem seqG1 {ts : List Nat} {o : Oper} {os : List Oper} {a : Act} {w : World} {v : Value} (hy : ∀ w, X w → (execOp a.eval o).run P w = .ok (.value v) w) (h : seqG P ops Q V X ts os (a.put o.dst v) w) : seqG P ops Q V X (1 :: ts) (o :: os) a w := ⟨v, hy, h⟩
theorem seqG2 {ts : List Nat} {o : Oper} {os : List Oper} {a : Act} {w : World} (h : ∀ K : Exit → Act → World → Prop, Hid (∀ a' w', V w' → (V w' → seqG P ops Q V X ts os a' w') → K .normal a' w') → wpList P ops K [o] a w) : seqG P ops Q V X (2 :: ts) (o :: os) a w := h
theorem seqG_end {a : Act} {w : World} (h : Q .normal a w) : seqG P ops Q V X [] [] a w := h
end Go.Proofs.YtaefpjecalnbcaaGreat
