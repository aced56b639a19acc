/- Parts of a proof: texts of the author, merged. No condition of their own. -/
import Derived.Test.YtbdeclkccchnoaaGreatZ02
import Derived.Test.YtbdeclkccchnoaaGreatZ08
import Derived.Test.YtbdeclkccchnoaaGreatZ11
import Derived.Test.YtbdeclkccchnoaaGreatZ12
import Derived.Test.YtbdeclkccchnoaaGreatZ13
import Derived.Lib.AppendZerosOnto
import Derived.OrdersHeld
namespace Go.Proofs.YtbdeclkccchnoaaGreat
open Go.RowKit
theorem fits_sub {α : Type} {R : Int → α → Bool} {f : Fld} {v : Val α} (h : fitsB R f v = true) (hk : f.kind = 17) (hr : f.rep = false) : ∃ y, v.subs = [y] ∧ R f.of y = true := by
  unfold fitsB at h
  by_cases h0 : v.words.length + v.texts.length + v.subs.length = 0 ∨ 1 < v.words.length + v.texts.length + v.subs.length ∧ f.rep = false
  · rw [if_pos h0] at h; cases h
  · rw [if_neg h0, if_neg (by rw [hk]; decide), if_pos hk, Bool.and_eq_true] at h
    have h1 : v.words.length = 0 ∧ v.texts.length = 0 := of_decide_eq_true h.1
    have h2 : v.subs.length = 1 := by
      by_cases h3 : 1 < v.words.length + v.texts.length + v.subs.length
      · exact absurd (.inr ⟨h3, hr⟩) h0
      · have : ¬ v.words.length + v.texts.length + v.subs.length = 0 := fun h => h0 (.inl h)
        omega
    match hs : v.subs, h2 with
    | [y], _ =>
      rw [hs] at h
      exact ⟨y, rfl, by simpa using h.2⟩
theorem right_range {s : List Mes} : ∀ {d : Nat} {root : Int} {y : M d}, rightB s d root y = true → ∃ r : Nat, root = r ∧ r < s.length
  | 0, _, _, h => by cases h
  | d + 1, root, y, h => by
    unfold rightB at h
    by_cases h0 : root < 0 ∨ (s.length : Int) ≤ root
    · rw [if_pos h0] at h; cases h
    · exact ⟨root.toNat, by omega, by omega⟩
end Go.Proofs.YtbdeclkccchnoaaGreat
namespace Go.Proofs.YtbdeclkccchnoaaGreat
open Go.RowKit
theorem WordsOwn.formC {w : World} {base : Nat} {v : Value} {l : List Nat} (h : WordsOwn w base v l) : ∃ a c, v = .slice a l.length c := by
  rcases h.2 with ⟨h1, h2⟩ | ⟨g, cap, cur, hv, -⟩
  · exact ⟨none, 0, by rw [h1, h2]⟩
  · exact ⟨_, _, hv⟩
theorem run_clone_words {w : World} {ad : Addr} {n c : Nat} {l : List Nat} (h : WordsAt w (.slice (some ad) n c) l) (hn : n = l.length) (hl : n ≤ 1099511627776) :
    ∃ a' c' w', (Builtin.append_ #[49, 49] 49 #[.slice (some ⟨w.heap.size, 0, none⟩) 0 0, .slice (some ad) n c]).run Tryz.prog (w.alloc (.cells #[] 48)) = .ok (.slice a' n c') w' ∧ WordsOwn w' w.heap.size (.slice a' n c') l ∧ Below w.heap.size w w' := by
  have hb0 : Below w.heap.size w (w.alloc (.cells #[] 48)) := (Below.refl _ _).alloc (Nat.le_refl _) _
  have h0 : (w.alloc (.cells #[] 48)).ownsRow w.heap.size 48 1 (.slice (some ⟨w.heap.size, 0, none⟩) 0 0) 0 [] := World.ownsRow_made (base := w.heap.size) (e := 48) (size := 1) w #[] 0 (Nat.le_refl _) (by unfold maxLen; omega) rfl
  have hs : Seg (w.alloc (.cells #[] 48)) (.slice (some ad) n c) 1 n (l.map wordV) := by have := h.1.keep (below_keeps hb0); rw [← hn] at this; exact this
  obtain ⟨v', w', hr, hO, hg, -⟩ := seg_append (P := Tryz.prog) _ w.heap.size 49 49 48 (.int .u64 0) 1 8 under_words info_u64 rfl (by decide) _ _ 0 n [] _ h0 hs
    (by intro u hu; obtain ⟨c, -, rfl⟩ := List.mem_map.1 hu; rfl) (by omega) (by omega) hb0.size
  rw [Nat.zero_add, List.nil_append] at hO
  have hO' : WordsOwn w' w.heap.size v' l := by unfold WordsOwn; rw [← hn]; exact hO
  obtain ⟨a', c', rfl⟩ := hO'.formC
  rw [← hn] at hO' hr
  exact ⟨a', c', w', hr, hO', hb0.grown hg hb0.size (by intro q e; simp [Value.ownBlock] at e; omega)⟩
set_option maxRecDepth 100000 in
set_option maxHeartbeats 4000000 in
theorem clone_words {w : World} {a : Option Addr} {n c : Nat} {l : List Nat} (h : WordsAt w (.slice a n c) l) (hn : n = l.length) (hl : n ≤ 1099511627776) :
    Calls Tryz.prog 31 #[.slice a n c] w fun e w' => ∃ a' c', e = .returned (.slice a' n c') ∧ WordsOwn w' w.heap.size (.slice a' n c') l ∧ Below w.heap.size w w' := by
  cases a with
  | none =>
    have h0 : n = 0 := by
      rcases Nat.eq_zero_or_pos n with h0 | h0
      · exact h0
      · obtain ⟨-, a', c', he, -, hat⟩ := h.open
        obtain ⟨x, hx⟩ : ∃ x, l[0]? = some x := ⟨_, List.getElem?_eq_getElem (by omega)⟩
        obtain ⟨-, b, o, ha, -⟩ := hat 0 x hx
        cases he
        cases ha
    obtain ⟨Q, HQ⟩ : ∃ Q : Ending → World → Prop, Hid (Q = fun e w' => ∃ a' c', e = .returned (.slice a' n c') ∧ WordsOwn w' w.heap.size (.slice a' n c') l ∧ Below w.heap.size w w') := ⟨_, rfl⟩
    rw [← HQ.out]
    have HE : Hid (Q (.returned (.slice none 0 0)) w) := by
      rw [HQ.out]
      subst h0
      refine ⟨none, 0, rfl, ?_, Below.refl _ _⟩
      rw [List.length_eq_zero_iff.1 hn.symm]
      exact World.ownsRow_nil _ _ _ _
    have heq : ∀ w, (binOp .eql 49 (.slice none n c) (.slice none 0 0)).run Tryz.prog w = .ok (.bool true) w := fun w => rfl
    clear h hn hl h0
    go_enter Tryz.func31, Tryz.ntmps31
    go_wp2_with fail
    exact HE.out
  | some ad =>
    obtain ⟨a', c', w', hr, hO, hb⟩ := run_clone_words h hn hl
    obtain ⟨Q, HQ⟩ : ∃ Q : Ending → World → Prop, Hid (Q = fun e w' => ∃ a' c', e = .returned (.slice a' n c') ∧ WordsOwn w' w.heap.size (.slice a' n c') l ∧ Below w.heap.size w w') := ⟨_, rfl⟩
    rw [← HQ.out]
    have HE : Hid (Q (.returned (.slice a' n c')) w') := by rw [HQ.out]; exact ⟨a', c', rfl, hO, hb⟩
    have heq : ∀ w, (binOp .eql 49 (.slice (some ad) n c) (.slice none 0 0)).run Tryz.prog w = .ok (.bool false) w := fun w => rfl
    clear h hn hl hO hb
    go_enter Tryz.func31, Tryz.ntmps31
    go_wp2_with (at_builtin; refine wpList_append_eq rfl _ _ _ rfl _ _ rfl rfl hr ?_)
    exact HE.out
theorem StrsOwn.formC {w : World} {base : Nat} {v : Value} {l : List (List UInt8)} (h : StrsOwn w base v l) : ∃ a c, v = .slice a l.length c := by
  rcases h.2 with ⟨h1, h2⟩ | ⟨g, cap, cur, hv, -⟩
  · exact ⟨none, 0, by rw [h1, h2]⟩
  · exact ⟨_, _, hv⟩
theorem run_clone_strs {w : World} {ad : Addr} {n c : Nat} {l : List (List UInt8)} (h : StrsAt w (.slice (some ad) n c) l) (hn : n = l.length) (hl : n ≤ 1099511627776) :
    ∃ a' c' w', (Builtin.append_ #[25, 25] 25 #[.slice (some ⟨w.heap.size, 0, none⟩) 0 0, .slice (some ad) n c]).run Tryz.prog (w.alloc (.cells #[] 9)) = .ok (.slice a' n c') w' ∧ StrsOwn w' w.heap.size (.slice a' n c') l ∧ Below w.heap.size w w' := by
  have hb0 : Below w.heap.size w (w.alloc (.cells #[] 9)) := (Below.refl _ _).alloc (Nat.le_refl _) _
  have h0 : (w.alloc (.cells #[] 9)).ownsRow w.heap.size 9 1 (.slice (some ⟨w.heap.size, 0, none⟩) 0 0) 0 [] := World.ownsRow_made (base := w.heap.size) (e := 9) (size := 1) w #[] 0 (Nat.le_refl _) (by unfold maxLen; omega) rfl
  have hs : Seg (w.alloc (.cells #[] 9)) (.slice (some ad) n c) 1 n (l.map strV) := by have := h.1.keep (below_keeps hb0); rw [← hn] at this; exact this
  obtain ⟨v', w', hr, hO, hg, -⟩ := seg_append (P := Tryz.prog) _ w.heap.size 25 25 9 (.string ⟨#[]⟩) 1 16 under_strl info_string rfl (by decide) _ _ 0 n [] _ h0 hs
    (by intro u hu; obtain ⟨c, -, rfl⟩ := List.mem_map.1 hu; rfl) (by omega) (by omega) hb0.size
  rw [Nat.zero_add, List.nil_append] at hO
  have hO' : StrsOwn w' w.heap.size v' l := by unfold StrsOwn; rw [← hn]; exact hO
  obtain ⟨a', c', rfl⟩ := hO'.formC
  rw [← hn] at hO' hr
  exact ⟨a', c', w', hr, hO', hb0.grown hg hb0.size (by intro q e; simp [Value.ownBlock] at e; omega)⟩
set_option maxRecDepth 100000 in
set_option maxHeartbeats 4000000 in
theorem clone_strs {w : World} {a : Option Addr} {n c : Nat} {l : List (List UInt8)} (h : StrsAt w (.slice a n c) l) (hn : n = l.length) (hl : n ≤ 1099511627776) :
    Calls Tryz.prog 30 #[.slice a n c] w fun e w' => ∃ a' c', e = .returned (.slice a' n c') ∧ StrsOwn w' w.heap.size (.slice a' n c') l ∧ Below w.heap.size w w' := by
  cases a with
  | none =>
    have h0 : n = 0 := by
      rcases Nat.eq_zero_or_pos n with h0 | h0
      · exact h0
      · obtain ⟨-, a', c', he, -, hat⟩ := h.open
        obtain ⟨x, hx⟩ : ∃ x, l[0]? = some x := ⟨_, List.getElem?_eq_getElem (by omega)⟩
        obtain ⟨-, b, o, ha, -⟩ := hat 0 x hx
        cases he
        cases ha
    obtain ⟨Q, HQ⟩ : ∃ Q : Ending → World → Prop, Hid (Q = fun e w' => ∃ a' c', e = .returned (.slice a' n c') ∧ StrsOwn w' w.heap.size (.slice a' n c') l ∧ Below w.heap.size w w') := ⟨_, rfl⟩
    rw [← HQ.out]
    have HE : Hid (Q (.returned (.slice none 0 0)) w) := by
      rw [HQ.out]
      subst h0
      refine ⟨none, 0, rfl, ?_, Below.refl _ _⟩
      rw [List.length_eq_zero_iff.1 hn.symm]
      exact World.ownsRow_nil _ _ _ _
    have heq : ∀ w, (binOp .eql 25 (.slice none n c) (.slice none 0 0)).run Tryz.prog w = .ok (.bool true) w := fun w => rfl
    clear h hn hl h0
    go_enter Tryz.func30, Tryz.ntmps30
    go_wp2_with fail
    exact HE.out
  | some ad =>
    obtain ⟨a', c', w', hr, hO, hb⟩ := run_clone_strs h hn hl
    obtain ⟨Q, HQ⟩ : ∃ Q : Ending → World → Prop, Hid (Q = fun e w' => ∃ a' c', e = .returned (.slice a' n c') ∧ StrsOwn w' w.heap.size (.slice a' n c') l ∧ Below w.heap.size w w') := ⟨_, rfl⟩
    rw [← HQ.out]
    have HE : Hid (Q (.returned (.slice a' n c')) w') := by rw [HQ.out]; exact ⟨a', c', rfl, hO, hb⟩
    have heq : ∀ w, (binOp .eql 25 (.slice (some ad) n c) (.slice none 0 0)).run Tryz.prog w = .ok (.bool false) w := fun w => rfl
    clear h hn hl hO hb
    go_enter Tryz.func30, Tryz.ntmps30
    go_wp2_with (at_builtin; refine wpList_append_eq rfl _ _ _ rfl _ _ rfl rfl hr ?_)
    exact HE.out
end Go.Proofs.YtbdeclkccchnoaaGreat
namespace Go.Proofs.YtbdeclkccchnoaaGreat
open Go.RowKit
theorem grow_zeros_words (w : World) (n : Nat) (h0 : 0 < n) (hn : n ≤ 2199023255552) (ty : TypeId) :
    ∃ G, n ≤ G ∧ G ≤ 9223372036854775807 ∧ (Builtin.append_ #[49, 3] ty #[.slice none 0 0, .int .i64 (n : Int)]).run Tryz.prog w = .ok (.slice (some ⟨w.heap.size, 0, none⟩) n G) (w.drew.alloc (.cells (Builtin.zeroCells #[.int .u64 0] n ++ Builtin.zeroCells #[.int .u64 0] (G - n)) 48)) ∧ G ≤ maxLen := by
  obtain ⟨i, hi, hz, hsize, hby⟩ := info_parts info_u64
  have h := Lib.run_append_grow_zeros w 49 3 ty 48 i (.int .u64 0) .i64 .i64 under_words Tryz.underlying3 hi hz none 0 0 [] (run_firstCells_none w.drew i.size 0 0 0) n h0 (by omega) (by omega) (by omega) (by rw [hby]; omega)
    (by rw [Nat.zero_add]; exact growslice_fits (by omega) (by rw [hby]; omega))
  rw [Nat.zero_add] at h
  have hm := grownCap_le_maxLen w n 0 48 (by unfold maxLen; omega)
  refine ⟨_, grownCap_ge w n 0 _, by have := hm; unfold maxLen at this; omega, ?_, hm⟩
  simp at h
  exact h
set_option maxRecDepth 100000 in
set_option maxHeartbeats 4000000 in
theorem grow_words (w : World) (n : Nat) (hn : n ≤ 2199023255552) :
    Calls Tryz.prog 91 #[.slice none 0 0, .int .i64 (n : Int)] w fun e w' => ∃ v', e = .returned v' ∧ w'.ownsRow w.heap.size 48 1 v' 0 [] ∧ Below w.heap.size w w' := by
  by_cases h0 : 0 < n
  · obtain ⟨G, h1, h2, h3, h4⟩ := grow_zeros_words w n h0 hn 49
    have hcut : ∀ W, (Instr.slice 49 (.slice (some ⟨w.heap.size, 0, none⟩) n G) none (some (.int .i64 0)) none).run Tryz.prog W = .ok (.slice (some ⟨w.heap.size, 0, none⟩) 0 G) W := by
      intro W
      have := slice_h_run (P := Tryz.prog) under_words size_u64 (some ⟨w.heap.size, 0, none⟩) n G 0 (by omega) W
      rw [show ((0 : Nat) : Int) = 0 from rfl] at this
      rw [this]
      unfold sliced
      by_cases hG : G = 0
      · omega
      · rw [if_neg hG]; rfl
    have HOWN : Hid (World.ownsRow (w.drew.alloc (.cells (Builtin.zeroCells #[.int .u64 0] n ++ Builtin.zeroCells #[.int .u64 0] (G - n)) 48)) w.heap.size 48 1 (.slice (some ⟨w.heap.size, 0, none⟩) 0 G) 0 []) := by
      refine ⟨rfl, .inr ⟨w.heap.size, G, _, rfl, Nat.le_refl _, heap_alloc_new w.drew _, Nat.zero_le _, h4, ?_, by simp⟩⟩
      have e1 := size_zeroCells #[.int .u64 0] n
      have e2 := size_zeroCells #[.int .u64 0] (G - n)
      rw [Array.size_append, e1, e2]
      simp
      omega
    clear h4
    go_enter Tryz.func91, Tryz.ntmps91
    go_wp2_with (at_builtin; refine wpList_append2_eq rfl _ _ _ _ rfl _ _ rfl rfl h3 ?_)
    go_ret
    exact ⟨_, rfl, HOWN.out, ((Below.refl _ _).drew).alloc (Nat.le_refl _) _⟩
  · obtain rfl : n = 0 := by omega
    go_enter Tryz.func91, Tryz.ntmps91
    go_wp2_with fail
    go_ret
    exact ⟨_, rfl, World.ownsRow_nil _ _ _ _, Below.refl _ _⟩
set_option maxRecDepth 100000 in
set_option maxHeartbeats 4000000 in
theorem concat_words {w : World} {b : Nat} {a1 a2 : Option Addr} {n1 n2 k1 k2 : Nat} {xs1 xs2 : List Value} (h1 : Seg w (.slice a1 n1 k1) 1 n1 xs1) (h2 : Seg w (.slice a2 n2 k2) 1 n2 xs2) (o1 : ∀ u ∈ xs1, u.oneCell' = true) (o2 : ∀ u ∈ xs2, u.oneCell' = true)
    (c1 : w.cell? ⟨b, 0, none⟩ = some (.slice a1 n1 k1)) (c2 : w.cell? ⟨b, 1, none⟩ = some (.slice a2 n2 k2)) (hl1 : n1 ≤ 1099511627776) (hl2 : n2 ≤ 1099511627776) :
    Calls Tryz.prog 58 #[.slice (some ⟨b, 0, none⟩) 2 2] w fun e w' => ∃ a c, e = .returned (.slice a (n1 + n2) c) ∧ w'.ownsRow w.heap.size 48 1 (.slice a (n1 + n2) c) (n1 + n2) (xs1 ++ xs2) ∧ Below w.heap.size w w' := by
  have HS1 := hid h1
  have HS2 := hid h2
  have HO1 := hid o1
  have HO2 := hid o2
  have C1 := hid c1
  have C2 := hid c2
  clear h1 h2 o1 o2
  have hi0 : ∀ W, (Instr.indexAt 165 (.slice (some ⟨b, 0, none⟩) 2 2) (.int .i64 0)).run Tryz.prog W = .ok (.pointer (some ⟨b, 0, none⟩)) W := fun W => by kernel_rfl
  have hi1 : ∀ W, (Instr.indexAt 165 (.slice (some ⟨b, 0, none⟩) 2 2) (.int .i64 1)).run Tryz.prog W = .ok (.pointer (some ⟨b, 1, none⟩)) W := fun W => by kernel_rfl
  have HGR := grow_words w (n1 + n2) (by omega)
  rw [show ((n1 + n2 : Nat) : Int) = (n1 : Int) + (n2 : Int) by omega] at HGR
  have HG := hid HGR
  clear HGR
  go_enter Tryz.func58, Tryz.ntmps58
  go_wp2_with fail
  refine wp_loop_rounds 3 ?_
  rw [rounds_succ]
  go_wp2_with fail
  rw [rounds_succ]
  go_wp2_with fail
  rw [rounds_succ]
  go_wp2_with fail
  refine HG.out.mono ?_
  rintro e w1 ⟨v3, rfl, hO, hB⟩
  obtain ⟨v4, w2, hr4, hO4, hg4, -⟩ := seg_append (P := Tryz.prog) w1 w.heap.size 49 49 48 (.int .u64 0) 1 8 under_words info_u64 rfl (by decide) _ _ 0 n1 _ _ hO (HS1.out.keep (below_keeps hB)) HO1.out (by omega) (by omega) hB.size
  have hB2 : Below w.heap.size w w2 := hB.grown hg4 hB.size (fun q e => (World.ownsRow.lt hO q e).1)
  obtain ⟨v5, w3, hr5, hO5, hg5, -⟩ := seg_append (P := Tryz.prog) w2 w.heap.size 49 49 48 (.int .u64 0) 1 8 under_words info_u64 rfl (by decide) _ _ _ n2 _ _ hO4 (HS2.out.keep (below_keeps hB2)) HO2.out (by omega) (by omega) hB2.size
  have hB3 : Below w.heap.size w w3 := hB2.grown hg5 hB2.size (fun q e => (World.ownsRow.lt hO4 q e).1)
  rw [Nat.zero_add, List.nil_append] at hO5
  have k1' := below_keeps hB _ _ C1.out
  have k2' := below_keeps hB2 _ _ C2.out
  obtain ⟨a3, m3, k3, rfl⟩ : ∃ a n c, v3 = .slice a n c := by obtain ⟨-, -, a, c, e, -⟩ := row_seg hO (by omega); exact ⟨_, _, _, e⟩
  obtain ⟨a4, m4, k4, rfl⟩ : ∃ a n c, v4 = .slice a n c := by obtain ⟨-, -, a, c, e, -⟩ := row_seg hO4 (by omega); exact ⟨_, _, _, e⟩
  obtain ⟨a5, k5, rfl⟩ : ∃ a c, v5 = .slice a (n1 + n2) c := by obtain ⟨-, -, a, c, e, -⟩ := row_seg hO5 (by omega); exact ⟨_, _, e⟩
  have HFIN := hid hO5
  have HB3 := hid hB3
  clear hO hB hO4 hg4 hB2 hO5 hg5 hB3
  go_wp2_with fail
  refine wp_loop_rounds 3 ?_
  rw [rounds_succ]
  go_wp2_with (at_builtin; refine wpList_append_eq rfl _ _ _ rfl _ _ rfl rfl hr4 ?_)
  rw [rounds_succ]
  go_wp2_with (at_builtin; refine wpList_append_eq rfl _ _ _ rfl _ _ rfl rfl hr5 ?_)
  rw [rounds_succ]
  go_wp2_with fail
  go_ret
  exact ⟨_, _, rfl, HFIN.out, HB3.out⟩
theorem grow_zeros_strs (w : World) (n : Nat) (h0 : 0 < n) (hn : n ≤ 2199023255552) (ty : TypeId) :
    ∃ G, n ≤ G ∧ G ≤ 9223372036854775807 ∧ (Builtin.append_ #[25, 3] ty #[.slice none 0 0, .int .i64 (n : Int)]).run Tryz.prog w = .ok (.slice (some ⟨w.heap.size, 0, none⟩) n G) (w.drew.alloc (.cells (Builtin.zeroCells #[.string ⟨#[]⟩] n ++ Builtin.zeroCells #[.string ⟨#[]⟩] (G - n)) 9)) ∧ G ≤ maxLen := by
  obtain ⟨i, hi, hz, hsize, hby⟩ := info_parts info_string
  have h := Lib.run_append_grow_zeros w 25 3 ty 9 i (.string ⟨#[]⟩) .i64 .i64 under_strl Tryz.underlying3 hi hz none 0 0 [] (run_firstCells_none w.drew i.size 0 0 0) n h0 (by omega) (by omega) (by omega) (by rw [hby]; omega)
    (by rw [Nat.zero_add]; exact growslice_fits (by omega) (by rw [hby]; omega))
  rw [Nat.zero_add] at h
  have hm := grownCap_le_maxLen w n 0 9 (by unfold maxLen; omega)
  refine ⟨_, grownCap_ge w n 0 _, by have := hm; unfold maxLen at this; omega, ?_, hm⟩
  simp at h
  exact h
set_option maxRecDepth 100000 in
set_option maxHeartbeats 4000000 in
theorem grow_strs (w : World) (n : Nat) (hn : n ≤ 2199023255552) :
    Calls Tryz.prog 62 #[.slice none 0 0, .int .i64 (n : Int)] w fun e w' => ∃ v', e = .returned v' ∧ w'.ownsRow w.heap.size 9 1 v' 0 [] ∧ Below w.heap.size w w' := by
  by_cases h0 : 0 < n
  · obtain ⟨G, h1, h2, h3, h4⟩ := grow_zeros_strs w n h0 hn 25
    have hcut : ∀ W, (Instr.slice 25 (.slice (some ⟨w.heap.size, 0, none⟩) n G) none (some (.int .i64 0)) none).run Tryz.prog W = .ok (.slice (some ⟨w.heap.size, 0, none⟩) 0 G) W := by
      intro W
      have := slice_h_run (P := Tryz.prog) under_strl size_str (some ⟨w.heap.size, 0, none⟩) n G 0 (by omega) W
      rw [show ((0 : Nat) : Int) = 0 from rfl] at this
      rw [this]
      unfold sliced
      by_cases hG : G = 0
      · omega
      · rw [if_neg hG]; rfl
    have HOWN : Hid (World.ownsRow (w.drew.alloc (.cells (Builtin.zeroCells #[.string ⟨#[]⟩] n ++ Builtin.zeroCells #[.string ⟨#[]⟩] (G - n)) 9)) w.heap.size 9 1 (.slice (some ⟨w.heap.size, 0, none⟩) 0 G) 0 []) := by
      refine ⟨rfl, .inr ⟨w.heap.size, G, _, rfl, Nat.le_refl _, heap_alloc_new w.drew _, Nat.zero_le _, h4, ?_, by simp⟩⟩
      have e1 := size_zeroCells #[.string ⟨#[]⟩] n
      have e2 := size_zeroCells #[.string ⟨#[]⟩] (G - n)
      rw [Array.size_append, e1, e2]
      simp
      omega
    clear h4
    go_enter Tryz.func62, Tryz.ntmps62
    go_wp2_with (at_builtin; refine wpList_append2_eq rfl _ _ _ _ rfl _ _ rfl rfl h3 ?_)
    go_ret
    exact ⟨_, rfl, HOWN.out, ((Below.refl _ _).drew).alloc (Nat.le_refl _) _⟩
  · obtain rfl : n = 0 := by omega
    go_enter Tryz.func62, Tryz.ntmps62
    go_wp2_with fail
    go_ret
    exact ⟨_, rfl, World.ownsRow_nil _ _ _ _, Below.refl _ _⟩
set_option maxRecDepth 100000 in
set_option maxHeartbeats 4000000 in
theorem concat_strs {w : World} {b : Nat} {a1 a2 : Option Addr} {n1 n2 k1 k2 : Nat} {xs1 xs2 : List Value} (h1 : Seg w (.slice a1 n1 k1) 1 n1 xs1) (h2 : Seg w (.slice a2 n2 k2) 1 n2 xs2) (o1 : ∀ u ∈ xs1, u.oneCell' = true) (o2 : ∀ u ∈ xs2, u.oneCell' = true)
    (c1 : w.cell? ⟨b, 0, none⟩ = some (.slice a1 n1 k1)) (c2 : w.cell? ⟨b, 1, none⟩ = some (.slice a2 n2 k2)) (hl1 : n1 ≤ 1099511627776) (hl2 : n2 ≤ 1099511627776) :
    Calls Tryz.prog 36 #[.slice (some ⟨b, 0, none⟩) 2 2] w fun e w' => ∃ a c, e = .returned (.slice a (n1 + n2) c) ∧ w'.ownsRow w.heap.size 9 1 (.slice a (n1 + n2) c) (n1 + n2) (xs1 ++ xs2) ∧ Below w.heap.size w w' := by
  have HS1 := hid h1
  have HS2 := hid h2
  have HO1 := hid o1
  have HO2 := hid o2
  have C1 := hid c1
  have C2 := hid c2
  clear h1 h2 o1 o2
  have hi0 : ∀ W, (Instr.indexAt 125 (.slice (some ⟨b, 0, none⟩) 2 2) (.int .i64 0)).run Tryz.prog W = .ok (.pointer (some ⟨b, 0, none⟩)) W := fun W => by kernel_rfl
  have hi1 : ∀ W, (Instr.indexAt 125 (.slice (some ⟨b, 0, none⟩) 2 2) (.int .i64 1)).run Tryz.prog W = .ok (.pointer (some ⟨b, 1, none⟩)) W := fun W => by kernel_rfl
  have HGR := grow_strs w (n1 + n2) (by omega)
  rw [show ((n1 + n2 : Nat) : Int) = (n1 : Int) + (n2 : Int) by omega] at HGR
  have HG := hid HGR
  clear HGR
  go_enter Tryz.func36, Tryz.ntmps36
  go_wp2_with fail
  refine wp_loop_rounds 3 ?_
  rw [rounds_succ]
  go_wp2_with fail
  rw [rounds_succ]
  go_wp2_with fail
  rw [rounds_succ]
  go_wp2_with fail
  refine HG.out.mono ?_
  rintro e w1 ⟨v3, rfl, hO, hB⟩
  obtain ⟨v4, w2, hr4, hO4, hg4, -⟩ := seg_append (P := Tryz.prog) w1 w.heap.size 25 25 9 (.string ⟨#[]⟩) 1 16 under_strl info_string rfl (by decide) _ _ 0 n1 _ _ hO (HS1.out.keep (below_keeps hB)) HO1.out (by omega) (by omega) hB.size
  have hB2 : Below w.heap.size w w2 := hB.grown hg4 hB.size (fun q e => (World.ownsRow.lt hO q e).1)
  obtain ⟨v5, w3, hr5, hO5, hg5, -⟩ := seg_append (P := Tryz.prog) w2 w.heap.size 25 25 9 (.string ⟨#[]⟩) 1 16 under_strl info_string rfl (by decide) _ _ _ n2 _ _ hO4 (HS2.out.keep (below_keeps hB2)) HO2.out (by omega) (by omega) hB2.size
  have hB3 : Below w.heap.size w w3 := hB2.grown hg5 hB2.size (fun q e => (World.ownsRow.lt hO4 q e).1)
  rw [Nat.zero_add, List.nil_append] at hO5
  have k1' := below_keeps hB _ _ C1.out
  have k2' := below_keeps hB2 _ _ C2.out
  obtain ⟨a3, m3, k3, rfl⟩ : ∃ a n c, v3 = .slice a n c := by obtain ⟨-, -, a, c, e, -⟩ := row_seg hO (by omega); exact ⟨_, _, _, e⟩
  obtain ⟨a4, m4, k4, rfl⟩ : ∃ a n c, v4 = .slice a n c := by obtain ⟨-, -, a, c, e, -⟩ := row_seg hO4 (by omega); exact ⟨_, _, _, e⟩
  obtain ⟨a5, k5, rfl⟩ : ∃ a c, v5 = .slice a (n1 + n2) c := by obtain ⟨-, -, a, c, e, -⟩ := row_seg hO5 (by omega); exact ⟨_, _, e⟩
  have HFIN := hid hO5
  have HB3 := hid hB3
  clear hO hB hO4 hg4 hB2 hO5 hg5 hB3
  go_wp2_with fail
  refine wp_loop_rounds 3 ?_
  rw [rounds_succ]
  go_wp2_with (at_builtin; refine wpList_append_eq rfl _ _ _ rfl _ _ rfl rfl hr4 ?_)
  rw [rounds_succ]
  go_wp2_with (at_builtin; refine wpList_append_eq rfl _ _ _ rfl _ _ rfl rfl hr5 ?_)
  rw [rounds_succ]
  go_wp2_with fail
  go_ret
  exact ⟨_, _, rfl, HFIN.out, HB3.out⟩
theorem info_kmsg : (Tryz.prog.info? 27).map (fun i => (i.zero, i.size, i.bytes)) = some (some (.agg #[.slice none 0 0, .slice none 0 0]), 2, 48) := by kernel_rfl
theorem under_kmsgs : Tryz.prog.underlying 50 = some (.slice 27) := Tryz.underlying50
theorem grow_zeros_msgs (w : World) (n : Nat) (h0 : 0 < n) (hn : n ≤ 2199023255552) (ty : TypeId) :
    ∃ G, n ≤ G ∧ G ≤ 9223372036854775807 ∧ (Builtin.append_ #[50, 3] ty #[.slice none 0 0, .int .i64 (n : Int)]).run Tryz.prog w = .ok (.slice (some ⟨w.heap.size, 0, none⟩) n G) (w.drew.alloc (.cells (Builtin.zeroCells #[.slice none 0 0, .slice none 0 0] n ++ Builtin.zeroCells #[.slice none 0 0, .slice none 0 0] (G - n)) 27)) ∧ G ≤ maxLen := by
  obtain ⟨i, hi, hz, hsize, hby⟩ := info_parts info_kmsg
  have h := Lib.run_append_grow_zeros w 50 3 ty 27 i (.agg #[.slice none 0 0, .slice none 0 0]) .i64 .i64 under_kmsgs Tryz.underlying3 hi hz none 0 0 [] (run_firstCells_none w.drew i.size 0 0 0) n h0 (by omega) (by omega) (by omega) (by rw [hby]; omega)
    (by rw [Nat.zero_add]; exact growslice_fits (by omega) (by rw [hby]; omega))
  rw [Nat.zero_add] at h
  have hm := grownCap_le_maxLen w n 0 27 (by unfold maxLen; omega)
  refine ⟨_, grownCap_ge w n 0 _, by have := hm; unfold maxLen at this; omega, ?_, hm⟩
  simp at h
  exact h
set_option maxRecDepth 100000 in
set_option maxHeartbeats 4000000 in
theorem grow_msgs (w : World) (n : Nat) (hn : n ≤ 2199023255552) :
    Calls Tryz.prog 92 #[.slice none 0 0, .int .i64 (n : Int)] w fun e w' => ∃ v', e = .returned v' ∧ w'.ownsRow w.heap.size 27 2 v' 0 [] ∧ Below w.heap.size w w' := by
  by_cases h0 : 0 < n
  · obtain ⟨G, h1, h2, h3, h4⟩ := grow_zeros_msgs w n h0 hn 50
    have hcut : ∀ W, (Instr.slice 50 (.slice (some ⟨w.heap.size, 0, none⟩) n G) none (some (.int .i64 0)) none).run Tryz.prog W = .ok (.slice (some ⟨w.heap.size, 0, none⟩) 0 G) W := by
      intro W
      have := slice_h_run (P := Tryz.prog) under_kmsgs size_msg (some ⟨w.heap.size, 0, none⟩) n G 0 (by omega) W
      rw [show ((0 : Nat) : Int) = 0 from rfl] at this
      rw [this]
      unfold sliced
      by_cases hG : G = 0
      · omega
      · rw [if_neg hG]; rfl
    have HOWN : Hid (World.ownsRow (w.drew.alloc (.cells (Builtin.zeroCells #[.slice none 0 0, .slice none 0 0] n ++ Builtin.zeroCells #[.slice none 0 0, .slice none 0 0] (G - n)) 27)) w.heap.size 27 2 (.slice (some ⟨w.heap.size, 0, none⟩) 0 G) 0 []) := by
      refine ⟨rfl, .inr ⟨w.heap.size, G, _, rfl, Nat.le_refl _, heap_alloc_new w.drew _, Nat.zero_le _, h4, ?_, by simp⟩⟩
      have e1 := size_zeroCells #[.slice none 0 0, .slice none 0 0] n
      have e2 := size_zeroCells #[.slice none 0 0, .slice none 0 0] (G - n)
      rw [Array.size_append, e1, e2]
      simp
      omega
    clear h4
    go_enter Tryz.func92, Tryz.ntmps92
    go_wp2_with (at_builtin; refine wpList_append2_eq rfl _ _ _ _ rfl _ _ rfl rfl h3 ?_)
    go_ret
    exact ⟨_, rfl, HOWN.out, ((Below.refl _ _).drew).alloc (Nat.le_refl _) _⟩
  · obtain rfl : n = 0 := by omega
    go_enter Tryz.func92, Tryz.ntmps92
    go_wp2_with fail
    go_ret
    exact ⟨_, rfl, World.ownsRow_nil _ _ _ _, Below.refl _ _⟩
set_option maxRecDepth 100000 in
set_option maxHeartbeats 4000000 in
theorem concat_msgs {w : World} {b : Nat} {a1 a2 : Option Addr} {n1 n2 k1 k2 : Nat} {xs1 xs2 : List Value} (h1 : Seg w (.slice a1 n1 k1) 2 n1 xs1) (h2 : Seg w (.slice a2 n2 k2) 2 n2 xs2) (o1 : ∀ u ∈ xs1, u.oneCell' = true) (o2 : ∀ u ∈ xs2, u.oneCell' = true)
    (c1 : w.cell? ⟨b, 0, none⟩ = some (.slice a1 n1 k1)) (c2 : w.cell? ⟨b, 1, none⟩ = some (.slice a2 n2 k2)) (hl1 : n1 ≤ 1099511627776) (hl2 : n2 ≤ 1099511627776) :
    Calls Tryz.prog 59 #[.slice (some ⟨b, 0, none⟩) 2 2] w fun e w' => ∃ a c, e = .returned (.slice a (n1 + n2) c) ∧ w'.ownsRow w.heap.size 27 2 (.slice a (n1 + n2) c) (n1 + n2) (xs1 ++ xs2) ∧ Below w.heap.size w w' := by
  have HS1 := hid h1
  have HS2 := hid h2
  have HO1 := hid o1
  have HO2 := hid o2
  have C1 := hid c1
  have C2 := hid c2
  clear h1 h2 o1 o2
  have hi0 : ∀ W, (Instr.indexAt 167 (.slice (some ⟨b, 0, none⟩) 2 2) (.int .i64 0)).run Tryz.prog W = .ok (.pointer (some ⟨b, 0, none⟩)) W := fun W => by kernel_rfl
  have hi1 : ∀ W, (Instr.indexAt 167 (.slice (some ⟨b, 0, none⟩) 2 2) (.int .i64 1)).run Tryz.prog W = .ok (.pointer (some ⟨b, 1, none⟩)) W := fun W => by kernel_rfl
  have HGR := grow_msgs w (n1 + n2) (by omega)
  rw [show ((n1 + n2 : Nat) : Int) = (n1 : Int) + (n2 : Int) by omega] at HGR
  have HG := hid HGR
  clear HGR
  go_enter Tryz.func59, Tryz.ntmps59
  go_wp2_with fail
  refine wp_loop_rounds 3 ?_
  rw [rounds_succ]
  go_wp2_with fail
  rw [rounds_succ]
  go_wp2_with fail
  rw [rounds_succ]
  go_wp2_with fail
  refine HG.out.mono ?_
  rintro e w1 ⟨v3, rfl, hO, hB⟩
  obtain ⟨v4, w2, hr4, hO4, hg4, -⟩ := seg_append (P := Tryz.prog) w1 w.heap.size 50 50 27 (.agg #[.slice none 0 0, .slice none 0 0]) 2 48 under_kmsgs info_kmsg rfl (by decide) _ _ 0 n1 _ _ hO (HS1.out.keep (below_keeps hB)) HO1.out (by omega) (by omega) hB.size
  have hB2 : Below w.heap.size w w2 := hB.grown hg4 hB.size (fun q e => (World.ownsRow.lt hO q e).1)
  obtain ⟨v5, w3, hr5, hO5, hg5, -⟩ := seg_append (P := Tryz.prog) w2 w.heap.size 50 50 27 (.agg #[.slice none 0 0, .slice none 0 0]) 2 48 under_kmsgs info_kmsg rfl (by decide) _ _ _ n2 _ _ hO4 (HS2.out.keep (below_keeps hB2)) HO2.out (by omega) (by omega) hB2.size
  have hB3 : Below w.heap.size w w3 := hB2.grown hg5 hB2.size (fun q e => (World.ownsRow.lt hO4 q e).1)
  rw [Nat.zero_add, List.nil_append] at hO5
  have k1' := below_keeps hB _ _ C1.out
  have k2' := below_keeps hB2 _ _ C2.out
  obtain ⟨a3, m3, k3, rfl⟩ : ∃ a n c, v3 = .slice a n c := by obtain ⟨-, -, a, c, e, -⟩ := row_seg hO (by omega); exact ⟨_, _, _, e⟩
  obtain ⟨a4, m4, k4, rfl⟩ : ∃ a n c, v4 = .slice a n c := by obtain ⟨-, -, a, c, e, -⟩ := row_seg hO4 (by omega); exact ⟨_, _, _, e⟩
  obtain ⟨a5, k5, rfl⟩ : ∃ a c, v5 = .slice a (n1 + n2) c := by obtain ⟨-, -, a, c, e, -⟩ := row_seg hO5 (by omega); exact ⟨_, _, e⟩
  have HFIN := hid hO5
  have HB3 := hid hB3
  clear hO hB hO4 hg4 hB2 hO5 hg5 hB3
  go_wp2_with fail
  refine wp_loop_rounds 3 ?_
  rw [rounds_succ]
  go_wp2_with (at_builtin; refine wpList_append_eq rfl _ _ _ rfl _ _ rfl rfl hr4 ?_)
  rw [rounds_succ]
  go_wp2_with (at_builtin; refine wpList_append_eq rfl _ _ _ rfl _ _ rfl rfl hr5 ?_)
  rw [rounds_succ]
  go_wp2_with fail
  go_ret
  exact ⟨_, _, rfl, HFIN.out, HB3.out⟩
end Go.Proofs.YtbdeclkccchnoaaGreat
namespace Go.Proofs.YtbdeclkccchnoaaGreat
open Go.RowKit
variable {P : Program} {ops : Array Oper} {md : Region.Mode} {w : World}
def laterB (md : Region.Mode) (ops : Array Oper) : Nat → Nat → Nat → Bool
  | 0, _, _ => false
  | f + 1, i, t => match ops[t]? with
    | some o => o.after.toList.any fun e => Region.binds md e && (e.on == i || laterB md ops f i e.on)
    | none => false
def ClosedL (md : Region.Mode) (ops : Array Oper) (listed : Array Bool) : Prop := ∀ (j : Nat) (oj : Oper), ops[j]? = some oj → listed.getD j false = true → ∀ e ∈ oj.after, Region.binds md e = true → listed.getD e.on false = true
theorem later_spec {listed : Array Bool} (hc : ClosedL md ops listed) : ∀ (f i t : Nat), laterB md ops f i t = true → listed.getD i false = false → t ∉ Region.ready md ops listed ∧ listed.getD t false = false
  | 0, _, _, h, _ => by cases h
  | f + 1, i, t, h, hi => by
    rw [laterB] at h
    cases ho : ops[t]? with
    | none => rw [ho] at h; cases h
    | some o =>
      rw [ho] at h
      obtain ⟨e, he0, hb⟩ := List.any_eq_true.1 h
      have he : e ∈ o.after := Array.mem_toList_iff.1 he0
      simp only [Bool.and_eq_true, Bool.or_eq_true, beq_iff_eq] at hb
      obtain ⟨hbi, hon⟩ := hb
      have hun : listed.getD e.on false = false := by
        rcases hon with hon | hon
        · rw [hon]; exact hi
        · exact (later_spec hc f i e.on hon hi).2
      constructor
      · intro hr
        obtain ⟨-, o', ho', hall⟩ := mem_ready.1 hr
        rw [ho] at ho'
        cases ho'
        rw [hall e he hbi] at hun
        cases hun
      · cases hl : listed.getD t false with
        | false => rfl
        | true =>
          rw [hc t o ho hl e he hbi] at hun
          cases hun
theorem ClosedL.set {listed : Array Bool} (hc : ClosedL md ops listed) {i : Nat} (hi : i ∈ Region.ready md ops listed) : ClosedL md ops (listed.setIfInBounds i true) := by
  intro j oj hj hl e he hb
  obtain ⟨-, oi, hoi, hall⟩ := mem_ready.1 hi
  by_cases hij : i = j
  · subst hij
    rw [hj] at hoi
    cases hoi
    exact getD_set_true (hall e he hb)
  · rw [getD_set_ne false hij] at hl
    exact getD_set_true (hc j oj hj hl e he hb)
theorem unlisted_of_ready {listed : Array Bool} {i : Nat} (h : i ∈ Region.ready md ops listed) : listed.getD i false = false := by
  have h0 := (mem_ready.1 h).1
  rcases Nat.lt_or_ge i listed.size with h' | h'
  · simp [h'] at h0 ⊢; exact h0
  · simp [Array.getElem?_eq_none h'] at h0
variable {V X : World → Prop} {g : Nat} {Q : Exit → Act → World → Prop}
def AtG (V X : World → Prop) (g : Nat) (listed : Array Bool) (w : World) : Prop := V w ∧ (listed.getD g false = false → X w)
def wpAnyG (P : Program) (md : Region.Mode) (ops : Array Oper) (Q : Exit → Act → World → Prop) (V X : World → Prop) (g : Nat) : Nat → Array Bool → Act → World → Prop
  | 0, listed, a, w => Region.ready md ops listed = [] ∧ Q .normal a w
  | fuel + 1, listed, a, w => (Region.ready md ops listed = [] → Q .normal a w) ∧
    ∀ i ∈ Region.ready md ops listed, wpOp P ops Q i (fun a' w' => AtG V X g (listed.setIfInBounds i true) w' ∧ wpAnyG P md ops Q V X g fuel (listed.setIfInBounds i true) a' w') a w
theorem wpAny_of_G : ∀ (fuel : Nat) (listed : Array Bool) (a : Act) (w : World), wpAnyG P md ops Q V X g fuel listed a w → wpAny P md ops Q fuel listed a w
  | 0, _, _, _, h => h
  | fuel + 1, _, _, _, h => ⟨h.1, fun i hi => wpOp_mono (fun a' w' h' => wpAny_of_G fuel _ a' w' h'.2) (h.2 i hi)⟩
theorem AtG.back {i : Nat} {listed : Array Bool} {w : World} (hig : i ≠ g) (h : AtG V X g (listed.setIfInBounds i true) w) : AtG V X g listed w :=
  ⟨h.1, fun hl => h.2 (by rw [getD_set_ne false hig]; exact hl)⟩
theorem wpAnyG_first {i : Nat} {oi : Oper} {v : Value} (hi : ops[i]? = some oi) (hsel : ∀ (j : Nat) (o : Oper) cs b, ops[j]? = some o → o.op ≠ .select cs b)
    (hQ : ∀ c a w, Q (.panic c) (a.put oi.dst v) w → Q (.panic c) a w) (hig : i ≠ g) (S : World → Prop) (hS : ∀ (listed : Array Bool) w, ClosedL md ops listed → listed.getD i false = false → AtG V X g listed w → S w) :
    ∀ (fuel : Nat) (listed : Array Bool) (a : Act) (w : World), ClosedL md ops listed →
      (∀ j oj, ops[j]? = some oj → j ≠ i → listed.getD j true = false → (∀ e ∈ oj.after, Region.binds md e = true → e.on ≠ i) → oi.apart ops oj = true) →
      i ∈ Region.ready md ops listed → YieldsIf P ops S oi v a → AtG V X g listed w →
      wpAnyG P md ops Q V X g fuel (listed.setIfInBounds i true) (a.put oi.dst v) w → wpAnyG P md ops Q V X g (fuel + 1) listed a w := by
  have hput : ∀ (listed : Array Bool) (w : World), AtG V X g listed w → AtG V X g (listed.setIfInBounds i true) w := fun listed w h =>
    ⟨h.1, fun hl => h.2 (by rw [getD_set_ne false hig] at hl; exact hl)⟩
  intro fuel
  induction fuel with
  | zero =>
    intro listed a w hc _ hr hy hA H
    refine ⟨fun h => (by rw [h] at hr; cases hr), fun j hj => ?_⟩
    by_cases hji : j = i
    · subst hji; exact hy.wpOp hi (hS listed w hc (unlisted_of_ready hr) hA) ⟨hput _ _ hA, H⟩
    · have := ready_mono hj hji
      rw [H.1] at this
      cases this
  | succ fuel ih =>
    intro listed a w hc hfree hr hy hA H
    refine ⟨fun h => (by rw [h] at hr; cases hr), fun j hj => ?_⟩
    by_cases hji : j = i
    · subst hji; exact hy.wpOp hi (hS listed w hc (unlisted_of_ready hr) hA) ⟨hput _ _ hA, H⟩
    · have h1 := H.2 j (ready_mono hj hji)
      obtain ⟨hjun, oj, hoj, hall⟩ := mem_ready.1 hj
      have hnot : ∀ e ∈ oj.after, Region.binds md e = true → e.on ≠ i := fun e he hb heq => by
        have h2 := hall e he hb
        rw [heq, unlisted_of_ready hr] at h2
        cases h2
      have h2 := wpOp_putIf hoj (hfree j oj hoj hji hjun hnot) (fun cs b => hsel i oi cs b hi) (fun cs b => hsel j oj cs b hoj) hQ hy h1
      have hfree' : ∀ k ok, ops[k]? = some ok → k ≠ i → (listed.setIfInBounds j true).getD k true = false →
          (∀ e ∈ ok.after, Region.binds md e = true → e.on ≠ i) → oi.apart ops ok = true := fun k ok hk hki hun hno => by
        refine hfree k ok hk hki ?_ hno
        by_cases hjk : j = k
        · subst hjk; exact hjun
        · rw [getD_set_ne true hjk] at hun; exact hun
      refine wpOp_mono (fun a' w' h3 => ?_) h2
      obtain ⟨h4, h5, h6⟩ := h3
      rw [Array.setIfInBounds_comm _ _ (Ne.symm hji)] at h5 h6
      exact ⟨h5.back hig, ih (listed.setIfInBounds j true) a' w' (hc.set hj) hfree' (ready_mono hr (Ne.symm hji)) h4 (h5.back hig) h6⟩
theorem wp_swap {o : Oper} {a : Act} {w : World} {K K' : Act → World → Prop} {Q' : Exit → Act → World → Prop} (hK : ∀ a w, K a w → K' a w) (hP : ∀ c a w, Q (.panic c) a w → Q' (.panic c) a w) (hL : LetsOut Q → LetsOut Q') (h : o.wp P a w K Q) : o.wp P a w K' Q' := by
  unfold Oper.wp at *
  generalize (execOp a.eval o).run P w = r at *
  cases r with
  | ok n w' =>
    cases n <;> simp only [Oper.upon] at h ⊢
    case value u => exact hK _ _ h
    case skip => exact hK _ _ h
    case defer d => exact hK _ _ h
    case enter f args =>
      refine Calls.mono h fun e w'' he => ?_
      cases e with
      | returned u => exact hK _ _ he
      | panicked c => exact hP _ _ _ he
      | outgrown => exact hL he
    case row row args => exact Go.Rows.mono h fun u w'' he => hK _ _ he
  | halt x w' =>
    cases x <;> simp only [Oper.upon] at h ⊢
    case panic u => exact hP _ _ _ h
theorem wpAnyG_one {k : Nat} {o : Oper} {fuel : Nat} {listed : Array Bool} {a : Act} {w : World} (hr : Region.ready md ops listed = [k]) (hk : ops[k]? = some o)
    (hg : (listed.setIfInBounds k true).getD g false = true)
    (h : ∀ K : Exit → Act → World → Prop, Hid (∀ a' w', V w' → (V w' → wpAnyG P md ops Q V X g fuel (listed.setIfInBounds k true) a' w') → K .normal a' w') → wpList P ops K [o] a w) :
    wpAnyG P md ops Q V X g (fuel + 1) listed a w := by
  refine ⟨fun h1 => (by rw [hr] at h1; cases h1), fun i hi => ?_⟩
  rw [hr] at hi
  have hik : i = k := by simpa using hi
  subst hik
  have h2 := h (fun e a' w' => match e with
    | .normal => AtG V X g (listed.setIfInBounds i true) w' ∧ wpAnyG P md ops Q V X g fuel (listed.setIfInBounds i true) a' w'
    | e => Q e a' w') (hid fun a' w' hV hK => ⟨⟨hV, fun hl => by rw [hg] at hl; cases hl⟩, hK hV⟩)
  unfold wpOp
  simp only [hk]
  rw [wpList] at h2
  split at h2
  · rename_i hw
    simp only [hw, if_true]
    exact h2.imp (wp_swap (fun _ _ h => h) (fun _ _ _ h => h) (fun h => h)) (fun h => ⟨h.1, h.2⟩)
  · rename_i hw
    simp only [hw]
    exact h2
def seqG (P : Program) (ops : Array Oper) (Q : Exit → Act → World → Prop) (V X : World → Prop) : List Nat → List Oper → Act → World → Prop
  | 0 :: ts, o :: os, a, w => ∃ v, (∀ w, V w → (execOp a.eval o).run P w = .ok (.value v) w) ∧ seqG P ops Q V X ts os (a.put o.dst v) w
  | 1 :: ts, o :: os, a, w => ∃ v, (∀ w, X w → (execOp a.eval o).run P w = .ok (.value v) w) ∧ seqG P ops Q V X ts os (a.put o.dst v) w
  | _ :: ts, o :: os, a, w => ∀ K : Exit → Act → World → Prop, Hid (∀ a' w', V w' → (V w' → seqG P ops Q V X ts os a' w') → K .normal a' w') → wpList P ops K [o] a w
  | _, _, a, w => Q .normal a w
theorem wanted_none {o : Oper} {y : Nat → Option Bool} (h : o.guard.isNone = true) : Region.wanted o y = true := by
  have h' : o.guard = none := by simpa using h
  simp [Region.wanted, h']
theorem seqG0 {ts : List Nat} {o : Oper} {os : List Oper} {a : Act} {w : World} {v : Value} (hy : ∀ w, V w → (execOp a.eval o).run P w = .ok (.value v) w) (h : seqG P ops Q V X ts os (a.put o.dst v) w) : seqG P ops Q V X (0 :: ts) (o :: os) a w := ⟨v, hy, h⟩
theorem seqG1 {ts : List Nat} {o : Oper} {os : List Oper} {a : Act} {w : World} {v : Value} (hy : ∀ w, X w → (execOp a.eval o).run P w = .ok (.value v) w) (h : seqG P ops Q V X ts os (a.put o.dst v) w) : seqG P ops Q V X (1 :: ts) (o :: os) a w := ⟨v, hy, h⟩
theorem seqG2 {ts : List Nat} {o : Oper} {os : List Oper} {a : Act} {w : World} (h : ∀ K : Exit → Act → World → Prop, Hid (∀ a' w', V w' → (V w' → seqG P ops Q V X ts os a' w') → K .normal a' w') → wpList P ops K [o] a w) : seqG P ops Q V X (2 :: ts) (o :: os) a w := h
theorem seqG_end {a : Act} {w : World} (h : Q .normal a w) : seqG P ops Q V X [] [] a w := h
end Go.Proofs.YtbdeclkccchnoaaGreat
namespace Go.Proofs.YtbdeclkccchnoaaGreat
open Go.RowKit
variable {P : Program} {ops : Array Oper} {md : Region.Mode} {w : World} {V X : World → Prop} {g : Nat} {Q : Exit → Act → World → Prop}
def planP (md : Region.Mode) (ops : Array Oper) (g : Nat) : List (Nat × Nat) → Array Bool → Bool
  | [], listed => (Region.ready md ops listed).isEmpty
  | t :: ts, listed => (match t.2 with
      | 0 => Region.free md ops listed t.1 && (Region.ready md ops listed).contains t.1 && !(t.1 == g) && ((ops[t.1]?).map fun o => o.guard.isNone).getD false
      | 1 => Region.free md ops listed t.1 && (Region.ready md ops listed).contains t.1 && !(t.1 == g) && ((ops[t.1]?).map fun o => o.guard.isNone).getD false && laterB md ops 60 t.1 g
      | _ => decide (Region.ready md ops listed = [t.1]) && (listed.setIfInBounds t.1 true).getD g false) && planP md ops g ts (listed.setIfInBounds t.1 true)
theorem wpAnyG_perm (hsel : Region.noSelect ops = true) (hQ : ∀ c (a : Act) dst v w, Q (.panic c) (a.put dst v) w → Q (.panic c) a w) (ts : List (Nat × Nat)) : ∀ (os : List Oper) (listed : Array Bool) (a : Act) (w : World),
    os.map some = ts.map (fun t => ops[t.1]?) → ClosedL md ops listed → planP md ops g ts listed = true → V w → (listed.getD g false = false → X w) → seqG P ops Q V X (ts.map (·.2)) os a w →
    wpAnyG P md ops Q V X g ts.length listed a w := by
  induction ts with
  | nil =>
    intro os listed a w hl _ hB _ _ h
    cases os with
    | nil => exact ⟨by simpa [planP] using hB, h⟩
    | cons o os => simp at hl
  | cons t ts ih =>
    intro os listed a w hl hc hB hV hX h
    cases os with
    | nil => simp at hl
    | cons o os =>
      rw [List.map_cons, List.map_cons] at hl
      obtain ⟨hi0, hl'⟩ := List.cons.inj hl
      clear hl
      obtain ⟨k, tag⟩ := t
      have hi : ops[k]? = some o := hi0.symm
      clear hi0
      rw [List.length_cons]
      rw [List.map_cons] at h
      simp only at h
      rcases tag with _ | _ | n
      · obtain ⟨v, hy, h⟩ := h
        unfold planP at hB
        obtain ⟨hB1, hB2⟩ := (Bool.and_eq_true _ _).mp hB
        simp only [Bool.and_eq_true, Bool.not_eq_true', beq_eq_false_iff_ne] at hB1
        obtain ⟨⟨⟨h3, h4⟩, h5⟩, h6⟩ := hB1
        have h4' : k ∈ Region.ready md ops listed := List.contains_iff_mem.1 h4
        rw [hi] at h6
        refine wpAnyG_first hi (Region.noSelect_spec hsel) (fun c a w h => hQ c _ _ _ w h) h5 V (fun _ _ _ _ hA => hA.1) ts.length listed a w hc (Region.free_spec hi h3) h4' (Or.inl ⟨wanted_none h6, hy⟩) ⟨hV, hX⟩ ?_
        exact ih os _ _ w hl' (hc.set h4') hB2 hV (fun h0 => hX (by rw [getD_set_ne false h5] at h0; exact h0)) h
      · obtain ⟨v, hy, h⟩ := h
        unfold planP at hB
        obtain ⟨hB1, hB2⟩ := (Bool.and_eq_true _ _).mp hB
        simp only [Bool.and_eq_true, Bool.not_eq_true', beq_eq_false_iff_ne] at hB1
        obtain ⟨⟨⟨⟨h3, h4⟩, h5⟩, h6⟩, h8⟩ := hB1
        have h4' : k ∈ Region.ready md ops listed := List.contains_iff_mem.1 h4
        rw [hi] at h6
        refine wpAnyG_first hi (Region.noSelect_spec hsel) (fun c a w h => hQ c _ _ _ w h) h5 X (fun _ _ hc hl hA => hA.2 (later_spec hc 60 k g h8 hl).2) ts.length listed a w hc (Region.free_spec hi h3) h4' (Or.inl ⟨wanted_none h6, hy⟩) ⟨hV, hX⟩ ?_
        exact ih os _ _ w hl' (hc.set h4') hB2 hV (fun h0 => hX (by rw [getD_set_ne false h5] at h0; exact h0)) h
      · unfold planP at hB
        obtain ⟨hB1, hB2⟩ := (Bool.and_eq_true _ _).mp hB
        obtain ⟨h3, h4⟩ := (Bool.and_eq_true _ _).mp hB1
        replace h3 := of_decide_eq_true h3
        have h4' : k ∈ Region.ready md ops listed := by rw [h3]; exact List.mem_singleton.2 rfl
        refine wpAnyG_one h3 hi h4 fun K HK => h K (hid fun a' w' hV' hK => HK.out a' w' hV' fun hV'' => ?_)
        exact ih os _ a' w' hl' (hc.set h4') hB2 hV'' (fun h0 => by rw [h4] at h0; cases h0) (hK hV'')
theorem picks {l : List Oper} : ∀ ts : List (Nat × Nat), (ts.all fun t => decide (t.1 < l.length)) = true → (ts.filterMap fun t => l[t.1]?).map some = ts.map fun t => l.toArray[t.1]?
  | [], _ => rfl
  | t :: ts, h => by
    rw [List.all_cons, Bool.and_eq_true] at h
    have h1 : t.1 < l.length := of_decide_eq_true h.1
    have h2 : l[t.1]? = some (l[t.1]'h1) := List.getElem?_eq_getElem h1
    rw [List.filterMap_cons, h2]
    simp only [List.map_cons]
    rw [picks ts h.2, List.getElem?_toArray, h2]
theorem wp_region_perm {id : Nat} {l : List Oper} {a : Act} {w : World} (V X : World → Prop) (g : Nat) (ts : List (Nat × Nat)) (hm : P.follows .mixedOrders = true) (hlen : ts.length = l.length)
    (hin : (ts.all fun t => decide (t.1 < l.length)) = true) (hB : (Region.noSelect l.toArray && planP .any l.toArray g ts (Array.replicate l.length false)) = true) (hQ : ∀ c (a : Act) dst v w, Q (.panic c) (a.put dst v) w → Q (.panic c) a w)
    (hV : V w.drew) (hX : X w.drew) (h0 : ∀ ops', Hid (ops' = l.toArray) → seqG P ops' Q V X (ts.map (·.2)) (ts.filterMap fun t => l[t.1]?) a w.drew) : (Code.region id l.toArray true).wp P Q a w := by
  have h := h0 l.toArray (hid rfl)
  rw [Bool.and_eq_true] at hB
  refine wp_region_any hm (wpAny_of_G (V := V) (X := X) (g := g) _ _ _ _ ?_)
  have := wpAnyG_perm (md := .any) (Q := Q) (V := V) (X := X) (P := P) (g := g) hB.1 hQ ts _ (Array.replicate l.length false) a w.drew (picks ts hin) (fun j oj _ hl => by
    rw [Array.getD_eq_getD_getElem?, Array.getElem?_replicate] at hl
    split at hl <;> cases hl) hB.2 hV (fun _ => hX) h
  rw [hlen] at this
  have e : l.toArray.size = l.length := by simp
  rw [e]
  exact this
end Go.Proofs.YtbdeclkccchnoaaGreat
