/- darninglaw15.AlgebraJoins: true. Meanings of at most 2^40 things. -/
import Derived.Test.YtaefpjecalnbcaaGreatZ10
import Derived.Test.YtaefpjecalnbcaaGreatZ13
import Derived.Test.YtaefpjecalnbcaaGreatZ16
import Derived.Test.YtaefpjecalnbcaaGreatZ17
import Derived.Test.YtaefpjecalnbcaaGreatZ24
import Derived.Test.YtaefpjecalnbcaaGreatZ27
import Derived.Test.YtaefpjecalnbcaaGreatZ29
import Derived.Test.YtaefpjecalnbcaaGreatZ30
import Derived.Test.YtaefpjecalnbcaaGreatZ37
import Derived.Test.YtaefpjecalnbcaaGreatZ38
import Derived.Test.YtaefpjecalnbcaaGreatZ40
import Derived.Test.YtaefpjecalnbcaaGreatZ43
namespace Go.Proofs.YtaefpjecalnbcaaGreat
open Go.RowKit
theorem may_pair (s : List Mes) (root : Int) (d : Nat) (x y : M d) : mayAll s root [rightB s d root x, rightB s d root y] = mayCode2 s root d d x y := by
  unfold mayAll mayCode2
  cases rightB s d root x <;> cases rightB s d root y <;> rfl
theorem may_single (s : List Mes) (root : Int) (d : Nat) (x : M d) : mayAll s root [rightB s d root x] = mayCode s root d x := by
  unfold mayAll mayCode
  cases rightB s d root x <;> rfl
def joinA (s : List Mes) (d : Nat) (root : Int) (a b : M (d + 1)) : M (d + 1) := if mayCode2 s root (d + 1) (d + 1) a b = 0 then joinM s (d + 1) root a b else emptyMs d
def plainA (s : List Mes) (d : Nat) (root : Int) (a : M (d + 1)) : M (d + 1) := if mayCode s root (d + 1) a = 0 then plainM (d + 1) a else emptyMs d
def ResC (W : World) (d c : Nat) (z : M d) (e : Ending) (w' : World) : Prop := ∃ a n k b m j, e = .returned (.tuple #[.agg #[.slice a n k, .slice b m j], .int .u8 (c : Int)]) ∧ Below W.heap.size W w' ∧ MsgAt d w' (.agg #[.slice a n k, .slice b m j]) z
theorem join_any {W : World} {sv vx vy : Value} {s : List Mes} {d : Nat} {root : Int} {x y : M (d + 1)} (hS : SchemaAt W sv s) (hx : MsgAt (d + 1) W vx x) (hy : MsgAt (d + 1) W vy y) (hwx : mwt (d + 1) x ≤ 2000) (hwy : mwt (d + 1) y ≤ 2000) :
    Calls Tryz.prog 17 #[sv, .int .i64 root, vx, vy] W (ResC W (d + 1) (mayCode2 s root (d + 1) (d + 1) x y) (joinA s d root x y)) := by
  refine (alg_Join hS root hx hy (by omega) (by omega)).mono ?_
  rw [may_pair]
  unfold joinA
  rintro e w' ⟨hb, h1, h0⟩
  by_cases hc : mayCode2 s root (d + 1) (d + 1) x y = 0
  · rw [if_pos hc, hc]
    obtain ⟨a, n, c, b, m, k, he, hap⟩ := h0 hc
    exact ⟨a, n, c, b, m, k, he, hb, hap.here⟩
  · rw [if_neg hc]
    exact ⟨_, _, _, _, _, _, h1 hc, hb, empty_msg _ _⟩
theorem plain_any {W : World} {sv vx : Value} {s : List Mes} {d : Nat} {root : Int} {x : M (d + 1)} (hS : SchemaAt W sv s) (hx : MsgAt (d + 1) W vx x) (hwx : mwt (d + 1) x ≤ 2000) :
    Calls Tryz.prog 18 #[sv, .int .i64 root, vx] W (ResC W (d + 1) (mayCode s root (d + 1) x) (plainA s d root x)) := by
  refine (alg_Plain hS root hx (by omega)).mono ?_
  rw [may_single]
  unfold plainA
  rintro e w' ⟨hb, h1, h0⟩
  by_cases hc : mayCode s root (d + 1) x = 0
  · rw [if_pos hc, hc]
    obtain ⟨a, n, c, he, hap⟩ := h0 hc
    exact ⟨a, n, c, none, 0, 0, he, hb, hap⟩
  · rw [if_neg hc]
    exact ⟨_, _, _, _, _, _, h1 hc, hb, empty_msg _ _⟩
theorem same_any {W : World} {vx vy : Value} {d : Nat} {x : M d} (hx : MsgAt d W vx x) (hy : MsgAt d W vy x) : Calls Tryz.prog 14 #[vx, vy] W fun e w' => e = .returned (.bool true) ∧ Below W.heap.size W w' := ref14_Same d W _ _ x hx hy
theorem mwt_plain : ∀ (d : Nat) (x : M d), mwt d (plainM d x) ≤ mwt d x
  | 0, x => x.elim
  | d + 1, x => by
    have h2 : ∀ l : List (M d), ((l.map (plainM d)).map (mwt d)).sum ≤ (l.map (mwt d)).sum := fun l => by
      induction l with
      | nil => simp
      | cons t r ih => have := mwt_plain d t; simp only [List.map_cons, List.sum_cons]; omega
    have h3 : ∀ l : List (Val (M d)), ((l.map fun v => (⟨v.num, v.words, v.texts, v.subs.map (plainM d)⟩ : Val (M d))).map (vwt (mwt d))).sum ≤ (l.map (vwt (mwt d))).sum := fun l => by
      induction l with
      | nil => simp
      | cons t r ih =>
        have e1 : vwt (mwt d) (⟨t.num, t.words, t.texts, t.subs.map (plainM d)⟩ : Val (M d)) ≤ vwt (mwt d) t := by
          unfold vwt
          have := h2 t.subs
          show 1 + t.words.length + twt t.texts + ((t.subs.map (plainM d)).map (mwt d)).sum ≤ _
          omega
        simp only [List.map_cons, List.sum_cons]
        omega
    have h5 := h3 (M.vals x)
    have h6 : mwt (d + 1) (plainM (d + 1) x) = 1 + 0 + (((M.vals x).map fun v => (⟨v.num, v.words, v.texts, v.subs.map (plainM d)⟩ : Val (M d))).map (vwt (mwt d))).sum := rfl
    have h7 : mwt (d + 1) x = 1 + twt (M.unk x) + ((M.vals x).map (vwt (mwt d))).sum := rfl
    omega
theorem joinA_wt {s : List Mes} {d : Nat} {root : Int} {a b : M (d + 1)} (ha : mwt (d + 1) a ≤ 2000) (hb : mwt (d + 1) b ≤ 2000) : mwt (d + 1) (joinA s d root a b) ≤ 1099511627776 := by
  unfold joinA
  split
  · rename_i h
    rw [← may_pair] at h
    obtain ⟨-, -, -, h4⟩ := may_zero h
    simp only [List.all_cons, List.all_nil, Bool.and_true, Bool.and_eq_true, id] at h4
    have := mwt_join s (d + 1) root a b h4.1 h4.2
    omega
  · show 1 + 0 + 0 ≤ _
    omega
theorem plainA_wt {s : List Mes} {d : Nat} {root : Int} {a : M (d + 1)} (ha : mwt (d + 1) a ≤ 2000) : mwt (d + 1) (plainA s d root a) ≤ 1099511627776 := by
  unfold plainA
  split
  · have := mwt_plain (d + 1) a
    omega
  · show 1 + 0 + 0 ≤ _
    omega
set_option maxRecDepth 100000 in
set_option maxHeartbeats 16000000 in
theorem law15_AlgebraJoins {w : World} {sv va vb : Value} {s : List Mes} {d : Nat} {a b : M (d + 1)} (hS : SchemaAt w sv s) (root : Int) (ha : MsgAt (d + 1) w va a) (hb : MsgAt (d + 1) w vb b) (hwa : mwt (d + 1) a ≤ 1099511627776) (hwb : mwt (d + 1) b ≤ 1099511627776) :
    Calls Tryz.prog 4 #[sv, .int .i64 root, va, vb] w fun e w' => e = .returned (.bool true) ∧ Below w.heap.size w w' := by
  obtain ⟨a1, a2, a3, a4, a5, a6, rfl⟩ := ha.form
  obtain ⟨b1, b2, b3, b4, b5, b6, rfl⟩ := hb.form
  obtain ⟨X, HX⟩ : ∃ X, Hid (X = w.heap.size) := ⟨_, rfl⟩
  have HS := hid hS
  have HWT := hid (And.intro hwa hwb)
  obtain ⟨-, sa, sc, rfl, -⟩ := hS.open
  obtain ⟨sn, HSN⟩ : ∃ n, Hid (n = s.length) := ⟨_, rfl⟩
  rw [← HSN.out] at HS ⊢
  obtain ⟨W1, HW1⟩ : ∃ W, Hid (W = (w.alloc (.cells #[.slice a1 a2 a3, .slice a4 a5 a6] 27)).alloc (.cells #[.slice b1 b2 b3, .slice b4 b5 b6] 27)) := ⟨_, rfl⟩
  have hb1 : Below w.heap.size w W1 := by rw [HW1.out]; (repeat (first | with_reducible exact Below.refl _ _ | with_reducible refine Below.setCell ?_ (by first | omega | (simp; omega) | (simp; done)) _ | with_reducible refine Below.alloc ?_ (by first | omega | (simp; omega) | (simp; done)) _ | with_reducible refine below_drewN ?_ _ | with_reducible refine Below.drew ?_))
  have hx1 : Blk W1 X [.slice a1 a2 a3, .slice a4 a5 a6] 27 := by rw [HW1.out, HX.out]; exact (Blk.new w [.slice a1 a2 a3, .slice a4 a5 a6] _).alloc _
  have hy1 : Blk W1 (X + 1) [.slice b1 b2 b3, .slice b4 b5 b6] 27 := by rw [HW1.out, HX.out]; exact Blk.new' _ [.slice b1 b2 b3, .slice b4 b5 b6] _ _ (by simp)
  have HB := hid hb1
  have HA := hid (show MB (d + 1) 27 W1 X a1 a2 a3 a4 a5 a6 a from ⟨hx1, ha.below hb1⟩)
  have HC := hid (show MB (d + 1) 27 W1 (X + 1) b1 b2 b3 b4 b5 b6 b from ⟨hy1, hb.below hb1⟩)
  clear hS ha hb hwa hwb hb1 hx1 hy1
  go_enter Tryz.func4, Tryz.ntmps4
  go_upto_region 1 with fail
  rw [← HW1.out, ← HX.out]
  go_wp2_with fail
  refine (law15_alive W1).mono ?_
  rintro e w2 ⟨rfl, hb2⟩
  have HB := hid (HB.out.trans (hb2.mono HB.out.size))
  have HA := hid (HA.out.below hb2)
  have HC := hid (HC.out.below hb2)
  clear hb2
  go_wp2_with fail
  refine (law07_Few (HS.out.below HB.out)).mono ?_
  rintro e w3 ⟨⟨few, rfl⟩, hb3⟩
  have HB := hid (HB.out.trans (hb3.mono HB.out.size))
  have HA := hid (HA.out.below hb3)
  have HC := hid (HC.out.below hb3)
  clear hb3
  cases few with
  | false =>
    go_wp2_with fail
    go_ret
    exact ⟨rfl, HB.out⟩
  | true =>
    obtain ⟨W4, HW4⟩ : ∃ W, Hid (W = w3.alloc (.cells #[.slice a1 a2 a3, .slice a4 a5 a6, .slice b1 b2 b3, .slice b4 b5 b6] 27)) := ⟨_, rfl⟩
    have hb4 : Below w3.heap.size w3 W4 := by rw [HW4.out]; exact (Below.refl _ _).alloc (Nat.le_refl _) _
    have hg4 : Blk W4 w3.heap.size [.slice a1 a2 a3, .slice a4 a5 a6, .slice b1 b2 b3, .slice b4 b5 b6] 27 := by rw [HW4.out]; exact Blk.new w3 [.slice a1 a2 a3, .slice a4 a5 a6, .slice b1 b2 b3, .slice b4 b5 b6] _
    have HBIG := hid (law15_bigW (w := W4) (g := w3.heap.size) (n := 2) (c := 2) (wt := fun i => if i = 0 then mwt (d + 1) a else mwt (d + 1) b) (fun i hi => by
      have h3 : i = 0 ∨ i = 1 := by omega
      rcases h3 with rfl | rfl
      · exact ⟨_, _, d + 1, a, by simpa using hg4.cell 0 _ rfl, by simpa using hg4.cell 1 _ rfl, HA.out.msg.below hb4, HWT.out.1, rfl⟩
      · exact ⟨_, _, d + 1, b, by simpa using hg4.cell 2 _ rfl, by simpa using hg4.cell 3 _ rfl, HC.out.msg.below hb4, HWT.out.2, rfl⟩) (by decide))
    have p00 := HA.out.c0
    have p01 := HA.out.c1
    have p0l := HA.out.lt
    have p10 := HC.out.c0
    have p11 := HC.out.c1
    have p1l := HC.out.lt
    clear hg4
    go_wp2_with fail
    rw [← HW4.out]
    refine HBIG.out.mono ?_
    rintro e w5 ⟨⟨big, rfl, hbig⟩, hb5⟩
    have hb35 := hb4.trans (hb5.mono hb4.size)
    have HB := hid (HB.out.trans (hb35.mono HB.out.size))
    have HA := hid (HA.out.below hb35)
    have HC := hid (HC.out.below hb35)
    have HBG := hid hbig
    clear hb4 hb5 hb35 hbig p00 p01 p0l p10 p11 p1l HBIG HW4
    cases big with
    | true =>
      go_wp2_with fail
      go_ret
      exact ⟨rfl, HB.out⟩
    | false =>
      have HW2 : Hid (mwt (d + 1) a ≤ 2000 ∧ mwt (d + 1) b ≤ 2000) := ⟨HBG.out rfl 0 (by decide), HBG.out rfl 1 (by decide)⟩
      clear HBG
      go_upto_region 5 with fail
      refine wp_region_float (fun w' => Below w5.heap.size w5 w') 6 ⟨4, 9, [.slice none 0 0, .slice none 0 0], 35⟩ ⟨5, 10, [.slice none 0 0, .slice none 0 0], 35⟩ [(0, 0), (2, 0), (1, 1), (3, 1)] [(6, 2, 0), (7, 2, 0)] (by kernel_rfl) rfl rfl rfl (by kernel_rfl) (fun _ _ dst _ _ h => by cases dst <;> exact h) ⟨_, rfl, rfl, rfl, fun a w => by kernel_rfl⟩ ⟨_, rfl, rfl, rfl, fun a w => by kernel_rfl⟩ (by decide) (fun w w' h hb => h.trans (hb.mono h.size)) w5.heap.size (fun w h => h.size) (Below.refl _ _).drew (fun OPS _ => ?_)
      simp only [List.map_cons, List.map_nil, List.filterMap_cons, List.filterMap_nil, List.getElem?_cons_succ, List.getElem?_cons_zero]
      refine ⟨.agg #[.slice a1 a2 a3, .slice a4 a5 a6], fun u u2 w hw => ?_, ?_⟩
      · have h1 := HA.out.below hw
        have c0 := h1.c0
        have c1 := h1.c1
        have cl := h1.lt
        unfold actF
        simp only [Act.put, List.setIfInBounds_toArray, List.set_cons_zero, List.set_cons_succ]
        go_simp
        all_goals rfl
      simp only [Act.put, List.setIfInBounds_toArray, List.set_cons_zero, List.set_cons_succ]
      refine ⟨.agg #[.slice b1 b2 b3, .slice b4 b5 b6], fun u u2 w hw => ?_, ?_⟩
      · have h1 := HC.out.below hw
        have c0 := h1.c0
        have c1 := h1.c1
        have cl := h1.lt
        unfold actF
        simp only [Act.put, List.setIfInBounds_toArray, List.set_cons_zero, List.set_cons_succ]
        go_simp
        all_goals rfl
      simp only [Act.put, List.setIfInBounds_toArray, List.set_cons_zero, List.set_cons_succ]
      intro u u2 w6 hV6 K HKK
      have HOF1 := hid (law14_OfOk w5 (d + 1) w6 _ a HA.out.msg hV6 (Nat.le_trans HW2.out.1 (by decide)))
      have HV6 := hid hV6
      clear hV6
      unfold actF
      simp only [Act.put, List.setIfInBounds_toArray, List.set_cons_zero, List.set_cons_succ]
      go_wp2_with fail
      refine HOF1.out.mono ?_
      rintro e' w7 ⟨v7, rfl, hb7, hm7⟩
      obtain ⟨p1, q1, r1, p2, q2, r2, rfl⟩ := hm7.here.form
      go_wp2_with fail
      refine HKK.out (.agg #[.slice p1 q1 r1, .slice p2 q2 r2]) w7 (fun W => Below w5.heap.size w5 W ∧ w7.heap.size ≤ W.heap.size ∧ Kept2 w5.heap.size w6.heap.size w7.heap.size W (fun W2 => MsgAt (d + 1) W2 (.agg #[.slice p1 q1 r1, .slice p2 q2 r2]) a)) (fun W W' h hb => ⟨h.1.trans (hb.mono h.1.size), Nat.le_trans h.2.1 hb.size, h.2.2.below h.1.size h.2.1 hb⟩) (fun W h => h.1) (fun W h => h.2.1) ⟨HV6.out.trans (hb7.mono HV6.out.size), Nat.le_refl _, kept2_of hm7⟩ hb7 ?_
      simp only [Act.put, List.setIfInBounds_toArray, List.set_cons_zero, List.set_cons_succ]
      clear HOF1 HV6 hb7 hm7 HKK
      intro u u2 w8 hV8 K HKK
      have HV8 := hid hV8
      have HOF2 := hid (law14_OfOk w5 (d + 1) w8 _ b HC.out.msg hV8.1 (Nat.le_trans HW2.out.2 (by decide)))
      clear hV8
      unfold actF
      simp only [Act.put, List.setIfInBounds_toArray, List.set_cons_zero, List.set_cons_succ]
      go_wp2_with fail
      refine HOF2.out.mono ?_
      rintro e' w9 ⟨v9, rfl, hb9, hm9⟩
      obtain ⟨p3, q3, r3, p4, q4, r4, rfl⟩ := hm9.here.form
      go_wp2_with fail
      obtain ⟨VV, HVV⟩ : ∃ V : World → Prop, V = fun W => Below w5.heap.size w5 W ∧ w9.heap.size ≤ W.heap.size ∧ w7.heap.size ≤ W.heap.size ∧ Kept2 w5.heap.size w6.heap.size w7.heap.size W (fun W2 => MsgAt (d + 1) W2 (.agg #[.slice p1 q1 r1, .slice p2 q2 r2]) a) ∧ Kept2 w5.heap.size w8.heap.size w9.heap.size W (fun W2 => MsgAt (d + 1) W2 (.agg #[.slice p3 q3 r3, .slice p4 q4 r4]) b) := ⟨_, rfl⟩
      refine HKK.out (.agg #[.slice p3 q3 r3, .slice p4 q4 r4]) w9 VV (fun W W' h hb => by rw [HVV] at h ⊢; exact ⟨h.1.trans (hb.mono h.1.size), Nat.le_trans h.2.1 hb.size, Nat.le_trans h.2.2.1 hb.size, h.2.2.2.1.below h.1.size h.2.2.1 hb, h.2.2.2.2.below h.1.size h.2.1 hb⟩) (fun W h => by rw [HVV] at h; exact ⟨h.1, h.2.2.1, h.2.2.2.1⟩) (fun W h => by rw [HVV] at h; exact h.2.1) (by rw [HVV]; exact ⟨HV8.out.1.trans (hb9.mono HV8.out.1.size), Nat.le_refl _, Nat.le_trans HV8.out.2.1 hb9.size, HV8.out.2.2.below HV8.out.1.size HV8.out.2.1 hb9, kept2_of hm9⟩) hb9 ?_
      simp only [Act.put, List.setIfInBounds_toArray, List.set_cons_zero, List.set_cons_succ]
      clear HOF2 HV8 hb9 hm9 HKK
      intro P1 P2 w10 hV10 hne hP1 hP2 hR1 hR2 hk1 hk2
      unfold actF ptrF
      simp only [Act.put, List.setIfInBounds_toArray, List.set_cons_zero, List.set_cons_succ]
      have hV11 : VV ((w10.setCell ⟨P1, 0, none⟩ (.slice p1 q1 r1)).setCell ⟨P1, 1, none⟩ (.slice p2 q2 r2)) := by
        rw [HVV] at hV10 ⊢
        exact ⟨(hV10.1.setCell hP1 _).setCell hP1 _, by simpa using hV10.2.1, by simpa using hV10.2.2.1, (hV10.2.2.2.1.set hP1 (hR1 (w6.heap.size, w7.heap.size) (by simp)) _).set hP1 (hR1 (w6.heap.size, w7.heap.size) (by simp)) _, (hV10.2.2.2.2.set hP1 (hR1 (w8.heap.size, w9.heap.size) (by simp)) _).set hP1 (hR1 (w8.heap.size, w9.heap.size) (by simp)) _⟩
      have HV11 := hid hV11
      have c0 := hk1.cell 0 _ rfl
      have c1 := hk1.cell 1 _ rfl
      have f0 := hk1.free 0
      have f1 := hk1.free 1
      have l1 := hk1.lt
      obtain ⟨W11, HW11⟩ : ∃ W, Hid (W = (w10.setCell ⟨P1, 0, none⟩ (.slice p1 q1 r1)).setCell ⟨P1, 1, none⟩ (.slice p2 q2 r2)) := ⟨_, rfl⟩
      have hk1' : Blk W11 P1 [.slice p1 q1 r1, .slice p2 q2 r2] 35 := by rw [HW11.out]; exact (hk1.set 0 (.slice p1 q1 r1)).set 1 (.slice p2 q2 r2)
      have hk2' : Blk W11 P2 [.slice none 0 0, .slice none 0 0] 35 := by rw [HW11.out]; exact Blk.set_other (Blk.set_other hk2 _ _ (fun h => hne h.symm)) _ _ (fun h => hne h.symm)
      rw [← HW11.out] at HV11
      obtain ⟨W12, HW12⟩ : ∃ W, Hid (W = (W11.setCell ⟨P2, 0, none⟩ (.slice p3 q3 r3)).setCell ⟨P2, 1, none⟩ (.slice p4 q4 r4)) := ⟨_, rfl⟩
      have hk3 : Blk W12 P2 [.slice p3 q3 r3, .slice p4 q4 r4] 35 := by rw [HW12.out]; exact (hk2'.set 0 (.slice p3 q3 r3)).set 1 (.slice p4 q4 r4)
      have hk4 : Blk W12 P1 [.slice p1 q1 r1, .slice p2 q2 r2] 35 := by rw [HW12.out]; exact Blk.set_other (Blk.set_other hk1' _ _ hne) _ _ hne
      have hV12 : VV W12 := by
        have h := HV11.out
        rw [HVV] at h ⊢
        rw [HW12.out]
        exact ⟨(h.1.setCell hP2 _).setCell hP2 _, by simpa using h.2.1, by simpa using h.2.2.1, (h.2.2.2.1.set hP2 (hR2 (w6.heap.size, w7.heap.size) (by simp)) _).set hP2 (hR2 (w6.heap.size, w7.heap.size) (by simp)) _, (h.2.2.2.2.set hP2 (hR2 (w8.heap.size, w9.heap.size) (by simp)) _).set hP2 (hR2 (w8.heap.size, w9.heap.size) (by simp)) _⟩
      have HV12 := hid hV12
      have HK34 := hid (And.intro hk4 hk3)
      have HK2' := hid hk2'
      clear hV11 hV12 hk1 hk2 hk1' hk2' hk3 hk4 hR1 hR2 hV10 hP1 hP2 hne
      refine seqH2 (fun K12 HK12 => ?_)
      go_wp2_with fail
      rw [← HW11.out]
      refine HK12.out _ _ HV11.out ?_
      clear HK12 K12 c0 c1 f0 f1 l1
      intro _
      have c0 := HK2'.out.cell 0 _ rfl
      have c1 := HK2'.out.cell 1 _ rfl
      have f0 := HK2'.out.free 0
      have f1 := HK2'.out.free 1
      have l1 := HK2'.out.lt
      refine seqH2 (fun K12 HK12 => ?_)
      go_wp2_with fail
      rw [← HW12.out]
      refine HK12.out _ _ HV12.out ?_
      clear HK12 K12 c0 c1 f0 f1 l1
      intro _
      refine seqH_end ?_
      have HV12 := HV12.out
      rw [HVV] at HV12
      obtain ⟨hb, -, -, hKX, hKY⟩ := HV12
      have HP := hid (show MB (d + 1) 35 W12 P1 p1 q1 r1 p2 q2 r2 a from ⟨HK34.out.1, hKX.here⟩)
      have HQ := hid (show MB (d + 1) 35 W12 P2 p3 q3 r3 p4 q4 r4 b from ⟨HK34.out.2, hKY.here⟩)
      have HB := hid (HB.out.trans (hb.mono HB.out.size))
      have HA := hid (HA.out.below hb)
      have HC := hid (HC.out.below hb)
      clear hb hKX hKY HV11 HK2' HK34 HW12 HW11
      have p00 := HA.out.c0
      have p01 := HA.out.c1
      have p0l := HA.out.lt
      have p10 := HC.out.c0
      have p11 := HC.out.c1
      have p1l := HC.out.lt
      have HCALL := hid (join_any (root := root) (HS.out.below HB.out) HA.out.msg HC.out.msg HW2.out.1 HW2.out.2)
      go_wp2_with fail
      refine HCALL.out.mono ?_
      rintro e v1 ⟨q1a, q1b, q1c, q1d, q1e, q1f, rfl, hb, hM⟩
      obtain ⟨c1, HC1⟩ : ∃ c, Hid (c = mayCode2 s root (d + 1) (d + 1) a b) := ⟨_, rfl⟩
      rw [← HC1.out]
      obtain ⟨BJ, HNBJ⟩ : ∃ b, Hid (b = v1.heap.size) := ⟨_, rfl⟩
      obtain ⟨V1, HVV1⟩ : ∃ W, Hid (W = v1.alloc (.cells #[.slice q1a q1b q1c, .slice q1d q1e q1f] 27)) := ⟨_, rfl⟩
      obtain ⟨hk, hb2⟩ := MB.new v1 hM 27
      rw [← HVV1.out] at hk hb2
      rw [← HNBJ.out] at hk
      have hbb := hb.trans (hb2.mono hb.size)
      have HB := hid (HB.out.trans (hbb.mono HB.out.size))
      have HA := hid (HA.out.below hbb)
      have HC := hid (HC.out.below hbb)
      have HP := hid (HP.out.below hbb)
      have HQ := hid (HQ.out.below hbb)
      have HJ := hid hk
      clear hb hb2 hk hbb hM HCALL p00 p01 p0l p10 p11 p1l
      go_upto_region 7 with fail
      rw [← HVV1.out, ← HNBJ.out]
      have p00 := HA.out.c0
      have p01 := HA.out.c1
      have p0l := HA.out.lt
      have HCALL := hid (plain_any (root := root) (HS.out.below HB.out) HA.out.msg HW2.out.1)
      go_wp2_with fail
      refine HCALL.out.mono ?_
      rintro e v2 ⟨q2a, q2b, q2c, q2d, q2e, q2f, rfl, hb, hM⟩
      obtain ⟨c2, HC2⟩ : ∃ c, Hid (c = mayCode s root (d + 1) a) := ⟨_, rfl⟩
      rw [← HC2.out]
      obtain ⟨BL, HNBL⟩ : ∃ b, Hid (b = v2.heap.size) := ⟨_, rfl⟩
      obtain ⟨V2, HVV2⟩ : ∃ W, Hid (W = v2.alloc (.cells #[.slice q2a q2b q2c, .slice q2d q2e q2f] 27)) := ⟨_, rfl⟩
      obtain ⟨hk, hb2⟩ := MB.new v2 hM 27
      rw [← HVV2.out] at hk hb2
      rw [← HNBL.out] at hk
      have hbb := hb.trans (hb2.mono hb.size)
      have HB := hid (HB.out.trans (hbb.mono HB.out.size))
      have HA := hid (HA.out.below hbb)
      have HC := hid (HC.out.below hbb)
      have HP := hid (HP.out.below hbb)
      have HQ := hid (HQ.out.below hbb)
      have HJ := hid (HJ.out.below hbb)
      have HL := hid hk
      clear hb hb2 hk hbb hM HCALL p00 p01 p0l
      go_upto_region 8 with fail
      rw [← HVV2.out, ← HNBL.out]
      obtain ⟨BW, HBW⟩ : ∃ b, Hid (b = V2.heap.size) := ⟨_, rfl⟩
      obtain ⟨V3, HV3⟩ : ∃ W, Hid (W = (V2.alloc (.cells #[.slice none 0 0, .slice none 0 0] 35)).alloc (.cells #[.slice none 0 0, .slice none 0 0] 35)) := ⟨_, rfl⟩
      have hb : Below V2.heap.size V2 V3 := by rw [HV3.out]; (repeat (first | with_reducible exact Below.refl _ _ | with_reducible refine Below.setCell ?_ (by first | omega | (simp; omega) | (simp; done)) _ | with_reducible refine Below.alloc ?_ (by first | omega | (simp; omega) | (simp; done)) _ | with_reducible refine below_drewN ?_ _ | with_reducible refine Below.drew ?_))
      have hk1 : Blk V3 BW [.slice none 0 0, .slice none 0 0] 35 := by rw [HV3.out, HBW.out]; exact (Blk.new V2 [.slice none 0 0, .slice none 0 0] _).alloc _
      have hk2 : Blk V3 (BW + 1) [.slice none 0 0, .slice none 0 0] 35 := by rw [HV3.out, HBW.out]; exact Blk.new' _ [.slice none 0 0, .slice none 0 0] _ _ (by simp)
      have HB2 := hid hb
      have HWA := hid (show WB V2 (BW + 1 + 1) (d + 1) 35 V3 BW none 0 0 none 0 0 (emptyMs d) from ⟨hk1, fun _ _ => empty_msg _ _⟩)
      have HWP := hid (show WB V2 (BW + 1 + 1) (d + 1) 35 V3 (BW + 1) none 0 0 none 0 0 (emptyMs d) from ⟨hk2, fun _ _ => empty_msg _ _⟩)
      clear hb hk1 hk2
      go_upto_region 9 with fail
      rw [← HV3.out, ← HBW.out]
      have p0h := HP.out.below HB2.out
      have p00 := p0h.c0
      have p01 := p0h.c1
      have p0l := p0h.lt
      clear p0h
      have p1h := HQ.out.below HB2.out
      have p10 := p1h.c0
      have p11 := p1h.c1
      have p1l := p1h.lt
      clear p1h
      obtain ⟨V4, HV4⟩ : ∃ W, Hid (W = V3.alloc (.cells #[.slice p1 q1 r1, .slice p2 q2 r2, .slice p3 q3 r3, .slice p4 q4 r4] 35)) := ⟨_, rfl⟩
      obtain ⟨G, HG⟩ : ∃ G, Hid (G = V3.heap.size) := ⟨_, rfl⟩
      have hb4 : Below V3.heap.size V3 V4 := by rw [HV4.out]; exact (Below.refl _ _).alloc (Nat.le_refl _) _
      have hg : Blk V4 G [.slice p1 q1 r1, .slice p2 q2 r2, .slice p3 q3 r3, .slice p4 q4 r4] 35 := by rw [HV4.out, HG.out]; exact Blk.new V3 [.slice p1 q1 r1, .slice p2 q2 r2, .slice p3 q3 r3, .slice p4 q4 r4] _
      have hb24 := HB2.out.trans (hb4.mono HB2.out.size)
      have HMAY := hid (ref15_May2 (HS.out.below (HB.out.trans (hb24.mono HB.out.size))) root (HP.out.msg.below hb24) (HQ.out.msg.below hb24) (Nat.le_trans HW2.out.1 (by decide)) (Nat.le_trans HW2.out.2 (by decide)) (hg.cell 0 _ rfl) (hg.cell 1 _ rfl) (hg.cell 2 _ rfl) (hg.cell 3 _ rfl))
      rw [← HC1.out] at HMAY
      clear hg hb24
      go_wp2_with fail
      rw [← HV4.out, ← HG.out]
      refine HMAY.out.mono ?_
      rintro e V5 ⟨rfl, hb5⟩
      have hb := hb4.trans (hb5.mono hb4.size)
      have HB2 := hid (HB2.out.trans (hb.mono HB2.out.size))
      have HWA := hid (HWA.out.below hb)
      have HWP := hid (HWP.out.below hb)
      clear hb4 hb5 hb p00 p01 p0l p10 p11 p1l HMAY HV4 HG
      go_upto_if 58 with fail
      go_cut [] from 59 to 63 (fun wx => ∃ z1 z2 z3 z4 z5 z6, Hid (Below V2.heap.size V2 wx ∧ WB V2 (BW + 1 + 1) (d + 1) 35 wx BW z1 z2 z3 z4 z5 z6 (joinA s d root a b) ∧ WB V2 (BW + 1 + 1) (d + 1) 35 wx (BW + 1) none 0 0 none 0 0 (emptyMs d)))
      case first =>
        by_cases h0 : c1 = 0
        · have hz := HC1.out
          rw [h0, ← may_pair] at hz
          obtain ⟨g1, g2, g3, g4⟩ := may_zero hz.symm
          obtain ⟨r, rfl⟩ : ∃ r : Nat, root = r := ⟨root.toNat, by omega⟩
          simp only [List.all_cons, List.all_nil, Bool.and_true, Bool.and_eq_true, id] at g4
          have p0h := HP.out.below HB2.out
          have p00 := p0h.c0
          have p01 := p0h.c1
          have p0l := p0h.lt
          clear p0h
          have p1h := HQ.out.below HB2.out
          have p10 := p1h.c0
          have p11 := p1h.c1
          have p1l := p1h.lt
          clear p1h
          have HCALL := hid (ref15_Join (w0 := V2) (HS.out.below HB.out) (d + 1) r V5 _ _ a b (by omega) HB2.out HP.out.msg HQ.out.msg g4.1 g4.2 (Nat.le_trans HW2.out.1 (by decide)) (Nat.le_trans HW2.out.2 (by decide)))
          have hmc := HC1.out
          rw [h0] at hmc
          have HMC := hid hmc
          subst h0
          clear hmc hz g1 g2 g3 g4
          go_wp2_with fail
          refine HCALL.out.mono ?_
          rintro e V6 ⟨v6, rfl, hb6, hap⟩
          obtain ⟨x1, x2, x3, x4, x5, x6, rfl⟩ := hap.here.form
          have hk := HWA.out.blk.below hb6
          have k0 := hk.cell 0 _ rfl
          have k1 := hk.cell 1 _ rfl
          have f0 := hk.free 0
          have f1 := hk.free 1
          have kl := hk.lt
          have hbx : V2.heap.size ≤ BW ∧ BW < BW + 1 + 1 := by have := HBW.out; omega
          have HREL : Hid (Below V2.heap.size V2 ((V6.setCell ⟨BW, 0, none⟩ (.slice x1 x2 x3)).setCell ⟨BW, 1, none⟩ (.slice x4 x5 x6)) ∧ WB V2 (BW + 1 + 1) (d + 1) 35 ((V6.setCell ⟨BW, 0, none⟩ (.slice x1 x2 x3)).setCell ⟨BW, 1, none⟩ (.slice x4 x5 x6)) BW x1 x2 x3 x4 x5 x6 (joinA s d (r : Int) a b) ∧ WB V2 (BW + 1 + 1) (d + 1) 35 ((V6.setCell ⟨BW, 0, none⟩ (.slice x1 x2 x3)).setCell ⟨BW, 1, none⟩ (.slice x4 x5 x6)) (BW + 1) none 0 0 none 0 0 (emptyMs d)) := by
            refine ⟨((HB2.out.trans (hb6.mono HB2.out.size)).setCell hbx.1 _).setCell hbx.1 _, WB.fill hk ?_ hbx, (HWP.out.below hb6).other hbx (by omega)⟩
            unfold joinA
            rw [if_pos HMC.out.symm]
            exact hap.mono (by have := HWP.out.lt; omega)
          clear hap hb6 hk HCALL hbx p00 p01 p0l p10 p11 p1l
          go_wp2_with fail
          go_meet
          case rel => exact ⟨_, _, _, _, _, _, HREL.out⟩
        · have e0 : ((c1 : Int) == 0) = false := by simpa using h0
          have HREL : Hid (Below V2.heap.size V2 V5 ∧ WB V2 (BW + 1 + 1) (d + 1) 35 V5 BW none 0 0 none 0 0 (joinA s d root a b) ∧ WB V2 (BW + 1 + 1) (d + 1) 35 V5 (BW + 1) none 0 0 none 0 0 (emptyMs d)) := by
            refine ⟨HB2.out, ?_, HWP.out⟩
            unfold joinA
            rw [if_neg (by rw [← HC1.out]; exact h0)]
            exact HWA.out
          clear h0
          go_wp2_with fail
          go_meet
          case rel => exact ⟨_, _, _, _, _, _, HREL.out⟩
      case rest =>
        obtain ⟨y1, y2, y3, y4, y5, y6, HCUT⟩ := hcut
        have HB2 := hid HCUT.out.1
        have HWA := hid HCUT.out.2.1
        have HWP := hid HCUT.out.2.2
        clear HCUT
        have p0h := HP.out.below HB2.out
        have p00 := p0h.c0
        have p01 := p0h.c1
        have p0l := p0h.lt
        clear p0h
        obtain ⟨V7, HV7⟩ : ∃ W, Hid (W = wc.alloc (.cells #[.slice p1 q1 r1, .slice p2 q2 r2] 35)) := ⟨_, rfl⟩
        obtain ⟨G, HG⟩ : ∃ G, Hid (G = wc.heap.size) := ⟨_, rfl⟩
        have hb4 : Below wc.heap.size wc V7 := by rw [HV7.out]; exact (Below.refl _ _).alloc (Nat.le_refl _) _
        have hg : Blk V7 G [.slice p1 q1 r1, .slice p2 q2 r2] 35 := by rw [HV7.out, HG.out]; exact Blk.new wc [.slice p1 q1 r1, .slice p2 q2 r2] _
        have hb24 := HB2.out.trans (hb4.mono HB2.out.size)
        have HMAY := hid (ref15_May (HS.out.below (HB.out.trans (hb24.mono HB.out.size))) root (HP.out.msg.below hb24) (Nat.le_trans HW2.out.1 (by decide)) (hg.cell 0 _ rfl) (hg.cell 1 _ rfl))
        rw [← HC2.out] at HMAY
        clear hg hb24
        go_wp2_with fail
        rw [← HV7.out, ← HG.out]
        refine HMAY.out.mono ?_
        rintro e V8 ⟨rfl, hb5⟩
        have hb := hb4.trans (hb5.mono hb4.size)
        have HB2 := hid (HB2.out.trans (hb.mono HB2.out.size))
        have HWA := hid (HWA.out.below hb)
        have HWP := hid (HWP.out.below hb)
        clear hb4 hb5 hb p00 p01 p0l HMAY HV7 HG
        go_upto_if 70 with fail
        go_cut [] from 71 to 72 (fun wx => ∃ z1 z2 z3 z4 z5 z6, Hid (Below V2.heap.size V2 wx ∧ WB V2 (BW + 1 + 1) (d + 1) 35 wx (BW + 1) z1 z2 z3 z4 z5 z6 (plainA s d root a) ∧ WB V2 (BW + 1 + 1) (d + 1) 35 wx BW y1 y2 y3 y4 y5 y6 (joinA s d root a b)))
        case first =>
          by_cases h0 : c2 = 0
          · have hz := HC2.out
            rw [h0, ← may_single] at hz
            obtain ⟨g1, g2, g3, g4⟩ := may_zero hz.symm
            obtain ⟨r, rfl⟩ : ∃ r : Nat, root = r := ⟨root.toNat, by omega⟩
            have p0h := HP.out.below HB2.out
            have p00 := p0h.c0
            have p01 := p0h.c1
            have p0l := p0h.lt
            clear p0h
            have HCALL := hid (ref15_Plain (w0 := V2) (d + 1) V8 _ a HB2.out HP.out.msg (Nat.le_trans HW2.out.1 (by decide)))
            have hmc := HC2.out
            rw [h0] at hmc
            have HMC := hid hmc
            subst h0
            clear hmc hz g1 g2 g3 g4
            go_wp2_with fail
            refine HCALL.out.mono ?_
            rintro e V6 ⟨v6, rfl, hb6, hap⟩
            obtain ⟨x1, x2, x3, x4, x5, x6, rfl⟩ := hap.here.form
            have hk := HWP.out.blk.below hb6
            have k0 := hk.cell 0 _ rfl
            have k1 := hk.cell 1 _ rfl
            have f0 := hk.free 0
            have f1 := hk.free 1
            have kl := hk.lt
            have hbx : V2.heap.size ≤ (BW + 1) ∧ (BW + 1) < BW + 1 + 1 := by have := HBW.out; omega
            have HREL : Hid (Below V2.heap.size V2 ((V6.setCell ⟨(BW + 1), 0, none⟩ (.slice x1 x2 x3)).setCell ⟨(BW + 1), 1, none⟩ (.slice x4 x5 x6)) ∧ WB V2 (BW + 1 + 1) (d + 1) 35 ((V6.setCell ⟨(BW + 1), 0, none⟩ (.slice x1 x2 x3)).setCell ⟨(BW + 1), 1, none⟩ (.slice x4 x5 x6)) (BW + 1) x1 x2 x3 x4 x5 x6 (plainA s d (r : Int) a) ∧ WB V2 (BW + 1 + 1) (d + 1) 35 ((V6.setCell ⟨(BW + 1), 0, none⟩ (.slice x1 x2 x3)).setCell ⟨(BW + 1), 1, none⟩ (.slice x4 x5 x6)) BW y1 y2 y3 y4 y5 y6 (joinA s d (r : Int) a b)) := by
              refine ⟨((HB2.out.trans (hb6.mono HB2.out.size)).setCell hbx.1 _).setCell hbx.1 _, WB.fill hk ?_ hbx, (HWA.out.below hb6).other hbx (by omega)⟩
              unfold plainA
              rw [if_pos HMC.out.symm]
              exact hap.mono (by have := HWP.out.lt; omega)
            clear hap hb6 hk HCALL hbx p00 p01 p0l
            go_wp2_with fail
            go_meet
            case rel => exact ⟨_, _, _, _, _, _, HREL.out⟩
          · have e0 : ((c2 : Int) == 0) = false := by simpa using h0
            have HREL : Hid (Below V2.heap.size V2 V8 ∧ WB V2 (BW + 1 + 1) (d + 1) 35 V8 (BW + 1) none 0 0 none 0 0 (plainA s d root a) ∧ WB V2 (BW + 1 + 1) (d + 1) 35 V8 BW y1 y2 y3 y4 y5 y6 (joinA s d root a b)) := by
              refine ⟨HB2.out, ?_, HWA.out⟩
              unfold plainA
              rw [if_neg (by rw [← HC2.out]; exact h0)]
              exact HWP.out
            clear h0
            go_wp2_with fail
            go_meet
            case rel => exact ⟨_, _, _, _, _, _, HREL.out⟩
        case rest =>
          obtain ⟨z1, z2, z3, z4, z5, z6, HCUT⟩ := hcut
          have HB2 := hid HCUT.out.1
          have HWP := hid HCUT.out.2.1
          have HWA := hid HCUT.out.2.2
          clear HCUT
          have hA := HA.out.below HB2.out
          have hP := HP.out.below HB2.out
          have hJ := HJ.out.below HB2.out
          have hL := HL.out.below HB2.out
          have HMM := hid (And.intro hA.msg (And.intro hP.msg (And.intro hJ.msg (And.intro hL.msg (And.intro HWA.out.msg HWP.out.msg)))))
          have HCL : Hid (c1 ≤ 12 ∧ c2 ≤ 12) := by
            rw [HC1.out, HC2.out, ← may_pair, ← may_single]
            exact ⟨may_small _ _ _, may_small _ _ _⟩
          have HWJ : Hid (mwt (d + 1) (joinA s d root a b) ≤ 1099511627776 ∧ mwt (d + 1) (plainA s d root a) ≤ 1099511627776 ∧ mwt (d + 1) a ≤ 1099511627776) := ⟨joinA_wt HW2.out.1 HW2.out.2, plainA_wt HW2.out.1, Nat.le_trans HW2.out.1 (by decide)⟩
          have HEND := hid (HB.out.trans (HB2.out.mono HB.out.size))
          have HVA : Hid (Below wc.heap.size wc wc ∧ wc.cell? ⟨X, 0, none⟩ = some (.slice a1 a2 a3) ∧ wc.cell? ⟨X, 1, none⟩ = some (.slice a4 a5 a6) ∧ wc.cell? ⟨P1, 0, none⟩ = some (.slice p1 q1 r1) ∧ wc.cell? ⟨P1, 1, none⟩ = some (.slice p2 q2 r2) ∧ wc.cell? ⟨BJ, 0, none⟩ = some (.slice q1a q1b q1c) ∧ wc.cell? ⟨BJ, 1, none⟩ = some (.slice q1d q1e q1f) ∧ wc.cell? ⟨BL, 0, none⟩ = some (.slice q2a q2b q2c) ∧ wc.cell? ⟨BL, 1, none⟩ = some (.slice q2d q2e q2f) ∧ wc.cell? ⟨BW, 0, none⟩ = some (.slice y1 y2 y3) ∧ wc.cell? ⟨BW, 1, none⟩ = some (.slice y4 y5 y6) ∧ wc.cell? ⟨BW + 1, 0, none⟩ = some (.slice z1 z2 z3) ∧ wc.cell? ⟨BW + 1, 1, none⟩ = some (.slice z4 z5 z6)) := ⟨Below.refl _ _, hA.c0, hA.c1, hP.c0, hP.c1, hJ.c0, hJ.c1, hL.c0, hL.c1, HWA.out.c0, HWA.out.c1, HWP.out.c0, HWP.out.c1⟩
          clear hA hP hJ hL HA HC HP HQ HJ HL HWA HWP HB2 HB HW2 HC1 HC2
          have hw1 : IntKind.i64.wrap (c1 : Int) = c1 := IntWalk.i64_in _ (by have := HCL.out; omega)
          have hw2 : IntKind.i64.wrap (c2 : Int) = c2 := IntWalk.i64_in _ (by have := HCL.out; omega)
          have he1 : ((c1 : Int) == (c1 : Int)) = true := by simp
          have he2 : ((c2 : Int) == (c2 : Int)) = true := by simp
          go_upto_region 15 with fail
          refine wp_region_guard (fun w' => Below wc.heap.size wc w' ∧ w'.cell? ⟨X, 0, none⟩ = some (.slice a1 a2 a3) ∧ w'.cell? ⟨X, 1, none⟩ = some (.slice a4 a5 a6) ∧ w'.cell? ⟨P1, 0, none⟩ = some (.slice p1 q1 r1) ∧ w'.cell? ⟨P1, 1, none⟩ = some (.slice p2 q2 r2) ∧ w'.cell? ⟨BJ, 0, none⟩ = some (.slice q1a q1b q1c) ∧ w'.cell? ⟨BJ, 1, none⟩ = some (.slice q1d q1e q1f) ∧ w'.cell? ⟨BL, 0, none⟩ = some (.slice q2a q2b q2c) ∧ w'.cell? ⟨BL, 1, none⟩ = some (.slice q2d q2e q2f) ∧ w'.cell? ⟨BW, 0, none⟩ = some (.slice y1 y2 y3) ∧ w'.cell? ⟨BW, 1, none⟩ = some (.slice y4 y5 y6) ∧ w'.cell? ⟨BW + 1, 0, none⟩ = some (.slice z1 z2 z3) ∧ w'.cell? ⟨BW + 1, 1, none⟩ = some (.slice z4 z5 z6)) (fun _ => True) 6 [(0, 0, 0), (1, 0, 0), (2, 0, 0), (3, 0, 0), (4, 0, 0), (5, 4, 77), (7, 4, 77), (6, 6, 77), (8, 6, 77), (9, 0, 0), (10, 0, 0), (11, 4, 83), (12, 4, 83), (13, 4, 83), (14, 4, 83), (15, 0, 0), (16, 0, 0), (17, 4, 89), (19, 4, 89), (18, 6, 89), (20, 6, 89), (21, 0, 0), (22, 0, 0), (23, 4, 95), (25, 4, 95), (24, 6, 95), (26, 6, 95), (27, 0, 0), (28, 0, 0)] (by kernel_rfl) rfl rfl (by kernel_rfl) (fun _ _ dst _ _ h => by cases dst <;> exact h) ⟨HVA.out.1.drew, HVA.out.2⟩ trivial (fun OPS _ => ?_)
          simp only [List.map_cons, List.map_nil, List.filterMap_cons, List.filterMap_nil, List.getElem?_cons_succ, List.getElem?_cons_zero]
          have HVA : Hid (Below wc.heap.size wc wc.drew ∧ wc.drew.cell? ⟨X, 0, none⟩ = some (.slice a1 a2 a3) ∧ wc.drew.cell? ⟨X, 1, none⟩ = some (.slice a4 a5 a6) ∧ wc.drew.cell? ⟨P1, 0, none⟩ = some (.slice p1 q1 r1) ∧ wc.drew.cell? ⟨P1, 1, none⟩ = some (.slice p2 q2 r2) ∧ wc.drew.cell? ⟨BJ, 0, none⟩ = some (.slice q1a q1b q1c) ∧ wc.drew.cell? ⟨BJ, 1, none⟩ = some (.slice q1d q1e q1f) ∧ wc.drew.cell? ⟨BL, 0, none⟩ = some (.slice q2a q2b q2c) ∧ wc.drew.cell? ⟨BL, 1, none⟩ = some (.slice q2d q2e q2f) ∧ wc.drew.cell? ⟨BW, 0, none⟩ = some (.slice y1 y2 y3) ∧ wc.drew.cell? ⟨BW, 1, none⟩ = some (.slice y4 y5 y6) ∧ wc.drew.cell? ⟨BW + 1, 0, none⟩ = some (.slice z1 z2 z3) ∧ wc.drew.cell? ⟨BW + 1, 1, none⟩ = some (.slice z4 z5 z6)) := ⟨HVA.out.1.drew, HVA.out.2⟩
          refine seqH0 (v := ?v0) ?hy0 ?hr0
          case hy0 => (intro w hw; go_simp; all_goals rfl)
          simp only [Act.put, List.setIfInBounds_toArray, List.set_cons_zero, List.set_cons_succ]
          refine seqH0 (v := ?v1) ?hy1 ?hr1
          case hy1 => (intro w hw; go_simp; all_goals rfl)
          simp only [Act.put, List.setIfInBounds_toArray, List.set_cons_zero, List.set_cons_succ]
          refine seqH0 (v := ?v2) ?hy2 ?hr2
          case hy2 => (intro w hw; go_simp; all_goals rfl)
          simp only [Act.put, List.setIfInBounds_toArray, List.set_cons_zero, List.set_cons_succ]
          refine seqH0 (v := ?v3) ?hy3 ?hr3
          case hy3 => (intro w hw; go_simp; all_goals rfl)
          simp only [Act.put, List.setIfInBounds_toArray, List.set_cons_zero, List.set_cons_succ]
          refine seqH0 (v := ?v4) ?hy4 ?hr4
          case hy4 => (intro w hw; go_simp; all_goals rfl)
          simp only [Act.put, List.setIfInBounds_toArray, List.set_cons_zero, List.set_cons_succ]
          refine seqH4 (v := ?v5) ?ht5 ?hy5 ?hr5
          case ht5 => rfl
          case hy5 => (intro w hw; go_simp; all_goals rfl)
          simp only [Act.put, List.setIfInBounds_toArray, List.set_cons_zero, List.set_cons_succ]
          refine seqH4 (v := ?v6) ?ht6 ?hy6 ?hr6
          case ht6 => rfl
          case hy6 => (intro w hw; go_simp; all_goals rfl)
          simp only [Act.put, List.setIfInBounds_toArray, List.set_cons_zero, List.set_cons_succ]
          refine seqH6 (by rfl) (fun K12 HK12 => ?_)
          go_wp2_with fail
          refine (law14_Of (HMM.out.2.2.1.below HVA.out.1) HWJ.out.1).mono ?_
          rintro e u0 ⟨v0, rfl, hb, hM⟩
          obtain ⟨f0, g0, h0, i0, j0, l0, rfl⟩ := hM.form
          have HMV := hid hM
          have HVA : Hid (Below wc.heap.size wc u0 ∧ u0.cell? ⟨X, 0, none⟩ = some (.slice a1 a2 a3) ∧ u0.cell? ⟨X, 1, none⟩ = some (.slice a4 a5 a6) ∧ u0.cell? ⟨P1, 0, none⟩ = some (.slice p1 q1 r1) ∧ u0.cell? ⟨P1, 1, none⟩ = some (.slice p2 q2 r2) ∧ u0.cell? ⟨BJ, 0, none⟩ = some (.slice q1a q1b q1c) ∧ u0.cell? ⟨BJ, 1, none⟩ = some (.slice q1d q1e q1f) ∧ u0.cell? ⟨BL, 0, none⟩ = some (.slice q2a q2b q2c) ∧ u0.cell? ⟨BL, 1, none⟩ = some (.slice q2d q2e q2f) ∧ u0.cell? ⟨BW, 0, none⟩ = some (.slice y1 y2 y3) ∧ u0.cell? ⟨BW, 1, none⟩ = some (.slice y4 y5 y6) ∧ u0.cell? ⟨BW + 1, 0, none⟩ = some (.slice z1 z2 z3) ∧ u0.cell? ⟨BW + 1, 1, none⟩ = some (.slice z4 z5 z6)) := ⟨HVA.out.1.trans (hb.mono HVA.out.1.size), ⟨below_keeps hb _ _ HVA.out.2.1, below_keeps hb _ _ HVA.out.2.2.1, below_keeps hb _ _ HVA.out.2.2.2.1, below_keeps hb _ _ HVA.out.2.2.2.2.1, below_keeps hb _ _ HVA.out.2.2.2.2.2.1, below_keeps hb _ _ HVA.out.2.2.2.2.2.2.1, below_keeps hb _ _ HVA.out.2.2.2.2.2.2.2.1, below_keeps hb _ _ HVA.out.2.2.2.2.2.2.2.2.1, below_keeps hb _ _ HVA.out.2.2.2.2.2.2.2.2.2.1, below_keeps hb _ _ HVA.out.2.2.2.2.2.2.2.2.2.2.1, below_keeps hb _ _ HVA.out.2.2.2.2.2.2.2.2.2.2.2.1, below_keeps hb _ _ HVA.out.2.2.2.2.2.2.2.2.2.2.2.2⟩⟩
          clear hb hM
          go_wp2_with fail
          refine HK12.out _ _ HVA.out ?_
          clear HK12 K12
          intro _
          refine seqH6 (by rfl) (fun K12 HK12 => ?_)
          go_wp2_with fail
          refine (same_any HMV.out (HMM.out.2.2.2.2.1.below HVA.out.1)).mono ?_
          rintro e t0 ⟨rfl, hb⟩
          have HVA : Hid (Below wc.heap.size wc t0 ∧ t0.cell? ⟨X, 0, none⟩ = some (.slice a1 a2 a3) ∧ t0.cell? ⟨X, 1, none⟩ = some (.slice a4 a5 a6) ∧ t0.cell? ⟨P1, 0, none⟩ = some (.slice p1 q1 r1) ∧ t0.cell? ⟨P1, 1, none⟩ = some (.slice p2 q2 r2) ∧ t0.cell? ⟨BJ, 0, none⟩ = some (.slice q1a q1b q1c) ∧ t0.cell? ⟨BJ, 1, none⟩ = some (.slice q1d q1e q1f) ∧ t0.cell? ⟨BL, 0, none⟩ = some (.slice q2a q2b q2c) ∧ t0.cell? ⟨BL, 1, none⟩ = some (.slice q2d q2e q2f) ∧ t0.cell? ⟨BW, 0, none⟩ = some (.slice y1 y2 y3) ∧ t0.cell? ⟨BW, 1, none⟩ = some (.slice y4 y5 y6) ∧ t0.cell? ⟨BW + 1, 0, none⟩ = some (.slice z1 z2 z3) ∧ t0.cell? ⟨BW + 1, 1, none⟩ = some (.slice z4 z5 z6)) := ⟨HVA.out.1.trans (hb.mono HVA.out.1.size), ⟨below_keeps hb _ _ HVA.out.2.1, below_keeps hb _ _ HVA.out.2.2.1, below_keeps hb _ _ HVA.out.2.2.2.1, below_keeps hb _ _ HVA.out.2.2.2.2.1, below_keeps hb _ _ HVA.out.2.2.2.2.2.1, below_keeps hb _ _ HVA.out.2.2.2.2.2.2.1, below_keeps hb _ _ HVA.out.2.2.2.2.2.2.2.1, below_keeps hb _ _ HVA.out.2.2.2.2.2.2.2.2.1, below_keeps hb _ _ HVA.out.2.2.2.2.2.2.2.2.2.1, below_keeps hb _ _ HVA.out.2.2.2.2.2.2.2.2.2.2.1, below_keeps hb _ _ HVA.out.2.2.2.2.2.2.2.2.2.2.2.1, below_keeps hb _ _ HVA.out.2.2.2.2.2.2.2.2.2.2.2.2⟩⟩
          clear hb HMV
          go_wp2_with fail
          refine HK12.out _ _ HVA.out ?_
          clear HK12 K12
          intro _
          refine seqH0 (v := ?v10) ?hy10 ?hr10
          case hy10 => (intro w hw; go_simp; all_goals rfl)
          simp only [Act.put, List.setIfInBounds_toArray, List.set_cons_zero, List.set_cons_succ]
          refine seqH0 (v := ?v11) ?hy11 ?hr11
          case hy11 => (intro w hw; go_simp; all_goals rfl)
          simp only [Act.put, List.setIfInBounds_toArray, List.set_cons_zero, List.set_cons_succ]
          refine seqH4 (v := ?v12) ?ht12 ?hy12 ?hr12
          case ht12 => rfl
          case hy12 => (intro w hw; go_simp; all_goals rfl)
          simp only [Act.put, List.setIfInBounds_toArray, List.set_cons_zero, List.set_cons_succ]
          refine seqH4 (v := ?v13) ?ht13 ?hy13 ?hr13
          case ht13 => rfl
          case hy13 => (intro w hw; go_simp; all_goals rfl)
          simp only [Act.put, List.setIfInBounds_toArray, List.set_cons_zero, List.set_cons_succ]
          refine seqH4 (v := ?v14) ?ht14 ?hy14 ?hr14
          case ht14 => rfl
          case hy14 => (intro w hw; go_simp; all_goals rfl)
          simp only [Act.put, List.setIfInBounds_toArray, List.set_cons_zero, List.set_cons_succ]
          refine seqH4 (v := ?v15) ?ht15 ?hy15 ?hr15
          case ht15 => rfl
          case hy15 => (intro w hw; go_simp; all_goals rfl)
          simp only [Act.put, List.setIfInBounds_toArray, List.set_cons_zero, List.set_cons_succ]
          refine seqH0 (v := ?v16) ?hy16 ?hr16
          case hy16 => (intro w hw; go_simp; all_goals rfl)
          simp only [Act.put, List.setIfInBounds_toArray, List.set_cons_zero, List.set_cons_succ]
          refine seqH0 (v := ?v17) ?hy17 ?hr17
          case hy17 => (intro w hw; go_simp; all_goals rfl)
          simp only [Act.put, List.setIfInBounds_toArray, List.set_cons_zero, List.set_cons_succ]
          refine seqH4 (v := ?v18) ?ht18 ?hy18 ?hr18
          case ht18 => rfl
          case hy18 => (intro w hw; go_simp; all_goals rfl)
          simp only [Act.put, List.setIfInBounds_toArray, List.set_cons_zero, List.set_cons_succ]
          refine seqH4 (v := ?v19) ?ht19 ?hy19 ?hr19
          case ht19 => rfl
          case hy19 => (intro w hw; go_simp; all_goals rfl)
          simp only [Act.put, List.setIfInBounds_toArray, List.set_cons_zero, List.set_cons_succ]
          refine seqH6 (by rfl) (fun K12 HK12 => ?_)
          go_wp2_with fail
          refine (law14_Of (HMM.out.2.2.2.1.below HVA.out.1) HWJ.out.2.1).mono ?_
          rintro e u1 ⟨v1, rfl, hb, hM⟩
          obtain ⟨f1, g1, h1, i1, j1, l1, rfl⟩ := hM.form
          have HMV := hid hM
          have HVA : Hid (Below wc.heap.size wc u1 ∧ u1.cell? ⟨X, 0, none⟩ = some (.slice a1 a2 a3) ∧ u1.cell? ⟨X, 1, none⟩ = some (.slice a4 a5 a6) ∧ u1.cell? ⟨P1, 0, none⟩ = some (.slice p1 q1 r1) ∧ u1.cell? ⟨P1, 1, none⟩ = some (.slice p2 q2 r2) ∧ u1.cell? ⟨BJ, 0, none⟩ = some (.slice q1a q1b q1c) ∧ u1.cell? ⟨BJ, 1, none⟩ = some (.slice q1d q1e q1f) ∧ u1.cell? ⟨BL, 0, none⟩ = some (.slice q2a q2b q2c) ∧ u1.cell? ⟨BL, 1, none⟩ = some (.slice q2d q2e q2f) ∧ u1.cell? ⟨BW, 0, none⟩ = some (.slice y1 y2 y3) ∧ u1.cell? ⟨BW, 1, none⟩ = some (.slice y4 y5 y6) ∧ u1.cell? ⟨BW + 1, 0, none⟩ = some (.slice z1 z2 z3) ∧ u1.cell? ⟨BW + 1, 1, none⟩ = some (.slice z4 z5 z6)) := ⟨HVA.out.1.trans (hb.mono HVA.out.1.size), ⟨below_keeps hb _ _ HVA.out.2.1, below_keeps hb _ _ HVA.out.2.2.1, below_keeps hb _ _ HVA.out.2.2.2.1, below_keeps hb _ _ HVA.out.2.2.2.2.1, below_keeps hb _ _ HVA.out.2.2.2.2.2.1, below_keeps hb _ _ HVA.out.2.2.2.2.2.2.1, below_keeps hb _ _ HVA.out.2.2.2.2.2.2.2.1, below_keeps hb _ _ HVA.out.2.2.2.2.2.2.2.2.1, below_keeps hb _ _ HVA.out.2.2.2.2.2.2.2.2.2.1, below_keeps hb _ _ HVA.out.2.2.2.2.2.2.2.2.2.2.1, below_keeps hb _ _ HVA.out.2.2.2.2.2.2.2.2.2.2.2.1, below_keeps hb _ _ HVA.out.2.2.2.2.2.2.2.2.2.2.2.2⟩⟩
          clear hb hM
          go_wp2_with fail
          refine HK12.out _ _ HVA.out ?_
          clear HK12 K12
          intro _
          refine seqH6 (by rfl) (fun K12 HK12 => ?_)
          go_wp2_with fail
          refine (same_any HMV.out (HMM.out.2.2.2.2.2.below HVA.out.1)).mono ?_
          rintro e t1 ⟨rfl, hb⟩
          have HVA : Hid (Below wc.heap.size wc t1 ∧ t1.cell? ⟨X, 0, none⟩ = some (.slice a1 a2 a3) ∧ t1.cell? ⟨X, 1, none⟩ = some (.slice a4 a5 a6) ∧ t1.cell? ⟨P1, 0, none⟩ = some (.slice p1 q1 r1) ∧ t1.cell? ⟨P1, 1, none⟩ = some (.slice p2 q2 r2) ∧ t1.cell? ⟨BJ, 0, none⟩ = some (.slice q1a q1b q1c) ∧ t1.cell? ⟨BJ, 1, none⟩ = some (.slice q1d q1e q1f) ∧ t1.cell? ⟨BL, 0, none⟩ = some (.slice q2a q2b q2c) ∧ t1.cell? ⟨BL, 1, none⟩ = some (.slice q2d q2e q2f) ∧ t1.cell? ⟨BW, 0, none⟩ = some (.slice y1 y2 y3) ∧ t1.cell? ⟨BW, 1, none⟩ = some (.slice y4 y5 y6) ∧ t1.cell? ⟨BW + 1, 0, none⟩ = some (.slice z1 z2 z3) ∧ t1.cell? ⟨BW + 1, 1, none⟩ = some (.slice z4 z5 z6)) := ⟨HVA.out.1.trans (hb.mono HVA.out.1.size), ⟨below_keeps hb _ _ HVA.out.2.1, below_keeps hb _ _ HVA.out.2.2.1, below_keeps hb _ _ HVA.out.2.2.2.1, below_keeps hb _ _ HVA.out.2.2.2.2.1, below_keeps hb _ _ HVA.out.2.2.2.2.2.1, below_keeps hb _ _ HVA.out.2.2.2.2.2.2.1, below_keeps hb _ _ HVA.out.2.2.2.2.2.2.2.1, below_keeps hb _ _ HVA.out.2.2.2.2.2.2.2.2.1, below_keeps hb _ _ HVA.out.2.2.2.2.2.2.2.2.2.1, below_keeps hb _ _ HVA.out.2.2.2.2.2.2.2.2.2.2.1, below_keeps hb _ _ HVA.out.2.2.2.2.2.2.2.2.2.2.2.1, below_keeps hb _ _ HVA.out.2.2.2.2.2.2.2.2.2.2.2.2⟩⟩
          clear hb HMV
          go_wp2_with fail
          refine HK12.out _ _ HVA.out ?_
          clear HK12 K12
          intro _
          refine seqH0 (v := ?v23) ?hy23 ?hr23
          case hy23 => (intro w hw; go_simp; all_goals rfl)
          simp only [Act.put, List.setIfInBounds_toArray, List.set_cons_zero, List.set_cons_succ]
          refine seqH0 (v := ?v24) ?hy24 ?hr24
          case hy24 => (intro w hw; go_simp; all_goals rfl)
          simp only [Act.put, List.setIfInBounds_toArray, List.set_cons_zero, List.set_cons_succ]
          refine seqH4 (v := ?v25) ?ht25 ?hy25 ?hr25
          case ht25 => rfl
          case hy25 => (intro w hw; go_simp; all_goals rfl)
          simp only [Act.put, List.setIfInBounds_toArray, List.set_cons_zero, List.set_cons_succ]
          refine seqH4 (v := ?v26) ?ht26 ?hy26 ?hr26
          case ht26 => rfl
          case hy26 => (intro w hw; go_simp; all_goals rfl)
          simp only [Act.put, List.setIfInBounds_toArray, List.set_cons_zero, List.set_cons_succ]
          refine seqH6 (by rfl) (fun K12 HK12 => ?_)
          go_wp2_with fail
          refine (law14_Of (HMM.out.1.below HVA.out.1) HWJ.out.2.2).mono ?_
          rintro e u2 ⟨v2, rfl, hb, hM⟩
          obtain ⟨f2, g2, h2, i2, j2, l2, rfl⟩ := hM.form
          have HMV := hid hM
          have HVA : Hid (Below wc.heap.size wc u2 ∧ u2.cell? ⟨X, 0, none⟩ = some (.slice a1 a2 a3) ∧ u2.cell? ⟨X, 1, none⟩ = some (.slice a4 a5 a6) ∧ u2.cell? ⟨P1, 0, none⟩ = some (.slice p1 q1 r1) ∧ u2.cell? ⟨P1, 1, none⟩ = some (.slice p2 q2 r2) ∧ u2.cell? ⟨BJ, 0, none⟩ = some (.slice q1a q1b q1c) ∧ u2.cell? ⟨BJ, 1, none⟩ = some (.slice q1d q1e q1f) ∧ u2.cell? ⟨BL, 0, none⟩ = some (.slice q2a q2b q2c) ∧ u2.cell? ⟨BL, 1, none⟩ = some (.slice q2d q2e q2f) ∧ u2.cell? ⟨BW, 0, none⟩ = some (.slice y1 y2 y3) ∧ u2.cell? ⟨BW, 1, none⟩ = some (.slice y4 y5 y6) ∧ u2.cell? ⟨BW + 1, 0, none⟩ = some (.slice z1 z2 z3) ∧ u2.cell? ⟨BW + 1, 1, none⟩ = some (.slice z4 z5 z6)) := ⟨HVA.out.1.trans (hb.mono HVA.out.1.size), ⟨below_keeps hb _ _ HVA.out.2.1, below_keeps hb _ _ HVA.out.2.2.1, below_keeps hb _ _ HVA.out.2.2.2.1, below_keeps hb _ _ HVA.out.2.2.2.2.1, below_keeps hb _ _ HVA.out.2.2.2.2.2.1, below_keeps hb _ _ HVA.out.2.2.2.2.2.2.1, below_keeps hb _ _ HVA.out.2.2.2.2.2.2.2.1, below_keeps hb _ _ HVA.out.2.2.2.2.2.2.2.2.1, below_keeps hb _ _ HVA.out.2.2.2.2.2.2.2.2.2.1, below_keeps hb _ _ HVA.out.2.2.2.2.2.2.2.2.2.2.1, below_keeps hb _ _ HVA.out.2.2.2.2.2.2.2.2.2.2.2.1, below_keeps hb _ _ HVA.out.2.2.2.2.2.2.2.2.2.2.2.2⟩⟩
          clear hb hM
          go_wp2_with fail
          refine HK12.out _ _ HVA.out ?_
          clear HK12 K12
          intro _
          refine seqH6 (by rfl) (fun K12 HK12 => ?_)
          go_wp2_with fail
          refine (same_any HMV.out (HMM.out.2.1.below HVA.out.1)).mono ?_
          rintro e t2 ⟨rfl, hb⟩
          have HVA : Hid (Below wc.heap.size wc t2 ∧ t2.cell? ⟨X, 0, none⟩ = some (.slice a1 a2 a3) ∧ t2.cell? ⟨X, 1, none⟩ = some (.slice a4 a5 a6) ∧ t2.cell? ⟨P1, 0, none⟩ = some (.slice p1 q1 r1) ∧ t2.cell? ⟨P1, 1, none⟩ = some (.slice p2 q2 r2) ∧ t2.cell? ⟨BJ, 0, none⟩ = some (.slice q1a q1b q1c) ∧ t2.cell? ⟨BJ, 1, none⟩ = some (.slice q1d q1e q1f) ∧ t2.cell? ⟨BL, 0, none⟩ = some (.slice q2a q2b q2c) ∧ t2.cell? ⟨BL, 1, none⟩ = some (.slice q2d q2e q2f) ∧ t2.cell? ⟨BW, 0, none⟩ = some (.slice y1 y2 y3) ∧ t2.cell? ⟨BW, 1, none⟩ = some (.slice y4 y5 y6) ∧ t2.cell? ⟨BW + 1, 0, none⟩ = some (.slice z1 z2 z3) ∧ t2.cell? ⟨BW + 1, 1, none⟩ = some (.slice z4 z5 z6)) := ⟨HVA.out.1.trans (hb.mono HVA.out.1.size), ⟨below_keeps hb _ _ HVA.out.2.1, below_keeps hb _ _ HVA.out.2.2.1, below_keeps hb _ _ HVA.out.2.2.2.1, below_keeps hb _ _ HVA.out.2.2.2.2.1, below_keeps hb _ _ HVA.out.2.2.2.2.2.1, below_keeps hb _ _ HVA.out.2.2.2.2.2.2.1, below_keeps hb _ _ HVA.out.2.2.2.2.2.2.2.1, below_keeps hb _ _ HVA.out.2.2.2.2.2.2.2.2.1, below_keeps hb _ _ HVA.out.2.2.2.2.2.2.2.2.2.1, below_keeps hb _ _ HVA.out.2.2.2.2.2.2.2.2.2.2.1, below_keeps hb _ _ HVA.out.2.2.2.2.2.2.2.2.2.2.2.1, below_keeps hb _ _ HVA.out.2.2.2.2.2.2.2.2.2.2.2.2⟩⟩
          clear hb HMV
          go_wp2_with fail
          refine HK12.out _ _ HVA.out ?_
          clear HK12 K12
          intro _
          refine seqH0 (v := ?v30) ?hy30 ?hr30
          case hy30 => (intro w hw; go_simp; all_goals rfl)
          simp only [Act.put, List.setIfInBounds_toArray, List.set_cons_zero, List.set_cons_succ]
          refine seqH0 (v := ?v31) ?hy31 ?hr31
          case hy31 => (intro w hw; go_simp; all_goals rfl)
          simp only [Act.put, List.setIfInBounds_toArray, List.set_cons_zero, List.set_cons_succ]
          refine seqH_end ?_
          have HE := hid (HEND.out.trans (HVA.out.1.mono HEND.out.size))
          go_wp2_with fail
          go_ret
          exact ⟨by simp, HE.out⟩
theorem law15_AlgebraJoins' {w : World} {sv va vb : Value} {s : List Mes} : {d : Nat} → {a b : M d} → SchemaAt w sv s → (root : Int) → MsgAt d w va a → MsgAt d w vb b → mwt d a ≤ 1099511627776 → mwt d b ≤ 1099511627776 →
    Calls Tryz.prog 4 #[sv, .int .i64 root, va, vb] w fun e w' => e = .returned (.bool true) ∧ Below w.heap.size w w'
  | 0, _, _, _, _, h, _, _, _ => h.elim
  | _ + 1, _, _, hS, root, ha, hb, h1, h2 => law15_AlgebraJoins hS root ha hb h1 h2
end Go.Proofs.YtaefpjecalnbcaaGreat
