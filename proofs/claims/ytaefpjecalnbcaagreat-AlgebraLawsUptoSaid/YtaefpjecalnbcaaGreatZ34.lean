/- darninglaw15.AlgebraLaws: true. Meanings of at most 2^40 things, a mask of at most 2^40 ways. -/
import Derived.Test.YtaefpjecalnbcaaGreatZ11
import Derived.Test.YtaefpjecalnbcaaGreatZ15
import Derived.Test.YtaefpjecalnbcaaGreatZ22
import Derived.Test.YtaefpjecalnbcaaGreatZ25
import Derived.Test.YtaefpjecalnbcaaGreatZ28
import Derived.Test.YtaefpjecalnbcaaGreatZ29
import Derived.Test.YtaefpjecalnbcaaGreatZ31
import Derived.Test.YtaefpjecalnbcaaGreatZ32
import Derived.Test.YtaefpjecalnbcaaGreatZ33
namespace Go.Proofs.YtaefpjecalnbcaaGreat
open Go.RowKit
def ResOk (W : World) (d : Nat) (z : M d) (e : Ending) (w' : World) : Prop := ∃ a n c b m k, e = .returned (.tuple #[.agg #[.slice a n c, .slice b m k], .int .u8 0]) ∧ Below W.heap.size W w' ∧ MsgAt d w' (.agg #[.slice a n c, .slice b m k]) z
theorem may_right {s : List Mes} {r : Nat} {rs : List Bool} (hs : sright s = true) (hr : r < s.length) (h : rs.all id = true) : mayAll s (r : Int) rs = 0 := by
  unfold mayAll
  rw [if_neg (by rw [hs]; simp), if_neg (by omega), if_pos h]
theorem ans_ok {W : World} {d : Nat} {z : M d} {e : Ending} {w' : World} (h : AnsPost W d 0 z e w') : ResOk W d z e w' := by
  obtain ⟨hb, -, h0⟩ := h
  obtain ⟨a, n, c, b, m, k, he, hap⟩ := h0 rfl
  exact ⟨a, n, c, b, m, k, he, hb, hap.here⟩
theorem join_ok {W : World} {sv vx vy : Value} {s : List Mes} {d r : Nat} {x y z : M d} (hS : SchemaAt W sv s) (hx : MsgAt d W vx x) (hy : MsgAt d W vy y) (hs : sright s = true) (hr : r < s.length) (hrx : rightB s d (r : Int) x = true) (hry : rightB s d (r : Int) y = true) (hwx : mwt d x ≤ 10000) (hwy : mwt d y ≤ 10000) (hz : joinM s d (r : Int) x y = z) :
    Calls Tryz.prog 17 #[sv, .int .i64 (r : Int), vx, vy] W (ResOk W d z) := by
  have h := alg_Join hS (r : Int) hx hy (by omega) (by omega)
  rw [may_right hs hr (by rw [hrx, hry]; rfl), hz] at h
  exact h.mono fun _ _ h => ans_ok h
theorem keep_ok {W : World} {sv vx mv : Value} {s : List Mes} {d r : Nat} {x z : M d} {ws : List (List Int)} (hS : SchemaAt W sv s) (hx : MsgAt d W vx x) (hM : WaysAt W mv ws) (hL : LightW ws) (hs : sright s = true) (hr : r < s.length) (hrx : rightB s d (r : Int) x = true) (hwx : mwt d x ≤ 10000) (hz : partM s true d r (mOf ws) x = z) :
    Calls Tryz.prog 11 #[sv, .int .i64 (r : Int), vx, .agg #[mv]] W (ResOk W d z) := by
  have h := alg_Keep hS (r : Int) hx hM hL (by omega)
  rw [may_right hs hr (by rw [hrx]; rfl), Int.toNat_natCast, hz] at h
  exact h.mono fun _ _ h => ans_ok h
theorem leave_ok {W : World} {sv vx mv : Value} {s : List Mes} {d r : Nat} {x z : M d} {ws : List (List Int)} (hS : SchemaAt W sv s) (hx : MsgAt d W vx x) (hM : WaysAt W mv ws) (hL : LightW ws) (hs : sright s = true) (hr : r < s.length) (hrx : rightB s d (r : Int) x = true) (hwx : mwt d x ≤ 10000) (hz : partM s false d r (mOf ws) x = z) :
    Calls Tryz.prog 12 #[sv, .int .i64 (r : Int), vx, .agg #[mv]] W (ResOk W d z) := by
  have h := alg_Leave hS (r : Int) hx hM hL (by omega)
  rw [may_right hs hr (by rw [hrx]; rfl), Int.toNat_natCast, hz] at h
  exact h.mono fun _ _ h => ans_ok h
theorem plain_ok {W : World} {sv vx : Value} {s : List Mes} {d r : Nat} {x z : M d} (hS : SchemaAt W sv s) (hx : MsgAt d W vx x) (hs : sright s = true) (hr : r < s.length) (hrx : rightB s d (r : Int) x = true) (hwx : mwt d x ≤ 10000) (hz : plainM d x = z) :
    Calls Tryz.prog 18 #[sv, .int .i64 (r : Int), vx] W (ResOk W d z) := by
  have h := alg_Plain hS (r : Int) hx (by omega)
  rw [may_right hs hr (by rw [hrx]; rfl)] at h
  refine h.mono ?_
  rintro e w' ⟨hb, -, h0⟩
  obtain ⟨a, n, c, he, hm⟩ := h0 rfl
  rw [hz] at hm
  exact ⟨a, n, c, none, 0, 0, he, hb, hm⟩
theorem same_ok {W : World} {vx vy : Value} {d : Nat} {x : M d} (hx : MsgAt d W vx x) (hy : MsgAt d W vy x) : Calls Tryz.prog 22 #[vx, vy] W fun e w' => e = .returned (.bool true) ∧ Below W.heap.size W w' := by
  have h := tree_Same d d W _ _ x x hx hy
  rw [same_self] at h
  exact h
theorem right_ok {W : World} {sv vx : Value} {s : List Mes} {d r : Nat} {x : M d} (hS : SchemaAt W sv s) (hx : MsgAt d W vx x) (hs : sright s = true) (hrx : rightB s d (r : Int) x = true) (hwx : mwt d x ≤ 10000) :
    Calls Tryz.prog 21 #[sv, .int .i64 (r : Int), vx] W fun e w' => e = .returned (.bool true) ∧ Below W.heap.size W w' := by
  have h := tree_Right hS (r : Int) hx (by omega)
  rw [hs, hrx] at h
  exact h
theorem empty_at (w : World) (d : Nat) : MsgAt (d + 1) w (.agg #[.slice none 0 0, .slice none 0 0]) (emptyM d) := ⟨_, _, rfl, rowsAt_nil _ _ _, strs_nil _⟩
set_option maxRecDepth 100000 in
set_option maxHeartbeats 16000000 in
theorem law15_AlgebraLaws {w : World} {sv va vb vc mv : Value} {s : List Mes} {d : Nat} {a b c : M (d + 1)} {ws : List (List Int)} (hS : SchemaAt w sv s) (root : Int) (ha : MsgAt (d + 1) w va a) (hb : MsgAt (d + 1) w vb b) (hc : MsgAt (d + 1) w vc c) (hM : WaysAt w mv ws) (hL : LightW ws) (hwa : mwt (d + 1) a ≤ 1099511627776) (hwb : mwt (d + 1) b ≤ 1099511627776) (hwc : mwt (d + 1) c ≤ 1099511627776) :
    Calls Tryz.prog 5 #[sv, .int .i64 root, va, vb, vc, mv] w fun e w' => e = .returned (.bool true) ∧ Below w.heap.size w w' := by
  obtain ⟨a1, a2, a3, a4, a5, a6, rfl⟩ := ha.form
  obtain ⟨b1, b2, b3, b4, b5, b6, rfl⟩ := hb.form
  obtain ⟨c1, c2, c3, c4, c5, c6, rfl⟩ := hc.form
  obtain ⟨X, HX⟩ : ∃ X, Hid (X = w.heap.size) := ⟨_, rfl⟩
  have HS := hid hS
  have HMA := hid ha
  have HMB := hid hb
  have HMC := hid hc
  have HMW := hid (And.intro hM hL)
  have HWT := hid (And.intro hwa (And.intro hwb hwc))
  obtain ⟨-, sa, sc, rfl, -⟩ := hS.open
  obtain ⟨-, ma, mc, rfl, -, -⟩ := hM.open
  obtain ⟨sn, HSN⟩ : ∃ n, Hid (n = s.length) := ⟨_, rfl⟩
  obtain ⟨mn, HMN⟩ : ∃ n, Hid (n = ws.length) := ⟨_, rfl⟩
  rw [← HSN.out] at HS ⊢
  rw [← HMN.out] at HMW ⊢
  obtain ⟨W1, HW1⟩ : ∃ W, Hid (W = ((w.alloc (.cells #[.slice a1 a2 a3, .slice a4 a5 a6] 27)).alloc (.cells #[.slice b1 b2 b3, .slice b4 b5 b6] 27)).alloc (.cells #[.slice c1 c2 c3, .slice c4 c5 c6] 27)) := ⟨_, rfl⟩
  have hb1 : Below w.heap.size w W1 := by rw [HW1.out]; (repeat (first | with_reducible exact Below.refl _ _ | with_reducible refine Below.setCell ?_ (by first | omega | (simp; omega) | (simp; done)) _ | with_reducible refine Below.alloc ?_ (by first | omega | (simp; omega) | (simp; done)) _ | with_reducible refine below_drewN ?_ _ | with_reducible refine Below.drew ?_))
  have hx1 : Blk W1 X [.slice a1 a2 a3, .slice a4 a5 a6] 27 := by rw [HW1.out, HX.out]; exact ((Blk.new w [.slice a1 a2 a3, .slice a4 a5 a6] _).alloc _).alloc _
  have hy1 : Blk W1 (X + 1) [.slice b1 b2 b3, .slice b4 b5 b6] 27 := by rw [HW1.out, HX.out]; exact (Blk.new' _ [.slice b1 b2 b3, .slice b4 b5 b6] _ _ (by simp)).alloc _
  have hz1 : Blk W1 (X + 1 + 1) [.slice c1 c2 c3, .slice c4 c5 c6] 27 := by rw [HW1.out, HX.out]; exact Blk.new' _ [.slice c1 c2 c3, .slice c4 c5 c6] _ _ (by simp)
  have HB := hid hb1
  have HA := hid hx1
  have HBB := hid hy1
  have HC := hid hz1
  clear hS ha hb hc hM hL hwa hwb hwc hb1 hx1 hy1 hz1
  go_enter Tryz.func5, Tryz.ntmps5
  go_upto_region 1 with fail
  rw [← HW1.out, ← HX.out]
  go_wp2_with fail
  refine (law15_alive W1).mono ?_
  rintro e w2 ⟨rfl, hb2⟩
  have HB := hid (HB.out.trans (hb2.mono HB.out.size))
  have HA := hid (HA.out.below hb2)
  have HBB := hid (HBB.out.below hb2)
  have HC := hid (HC.out.below hb2)
  clear hb2
  go_wp2_with fail
  refine (law07_Few (HS.out.below HB.out)).mono ?_
  rintro e w3 ⟨⟨few, rfl⟩, hb3⟩
  have HB := hid (HB.out.trans (hb3.mono HB.out.size))
  have HA := hid (HA.out.below hb3)
  have HBB := hid (HBB.out.below hb3)
  have HC := hid (HC.out.below hb3)
  clear hb3
  cases few with
  | false =>
    go_wp2_with fail
    go_ret
    exact ⟨rfl, HB.out⟩
  | true =>
    obtain ⟨W4, HW4⟩ : ∃ W, Hid (W = w3.alloc (.cells #[.slice a1 a2 a3, .slice a4 a5 a6, .slice b1 b2 b3, .slice b4 b5 b6, .slice c1 c2 c3, .slice c4 c5 c6] 27)) := ⟨_, rfl⟩
    have hb4 : Below w3.heap.size w3 W4 := by rw [HW4.out]; exact (Below.refl _ _).alloc (Nat.le_refl _) _
    have hg4 : Blk W4 w3.heap.size [.slice a1 a2 a3, .slice a4 a5 a6, .slice b1 b2 b3, .slice b4 b5 b6, .slice c1 c2 c3, .slice c4 c5 c6] 27 := by rw [HW4.out]; exact Blk.new w3 [.slice a1 a2 a3, .slice a4 a5 a6, .slice b1 b2 b3, .slice b4 b5 b6, .slice c1 c2 c3, .slice c4 c5 c6] _
    have HB4 := hid (HB.out.trans (hb4.mono HB.out.size))
    have HBIG := hid (law15_bigW (w := W4) (g := w3.heap.size) (n := 3) (c := 3) (wt := fun i => if i = 0 then mwt (d + 1) a else if i = 1 then mwt (d + 1) b else mwt (d + 1) c) (fun i hi => by
      have h3 : i = 0 ∨ i = 1 ∨ i = 2 := by omega
      rcases h3 with rfl | rfl | rfl
      · exact ⟨_, _, d + 1, a, by simpa using hg4.cell 0 _ rfl, by simpa using hg4.cell 1 _ rfl, HMA.out.below HB4.out, HWT.out.1, rfl⟩
      · exact ⟨_, _, d + 1, b, by simpa using hg4.cell 2 _ rfl, by simpa using hg4.cell 3 _ rfl, HMB.out.below HB4.out, HWT.out.2.1, rfl⟩
      · exact ⟨_, _, d + 1, c, by simpa using hg4.cell 4 _ rfl, by simpa using hg4.cell 5 _ rfl, HMC.out.below HB4.out, HWT.out.2.2, rfl⟩) (by decide))
    have k0 := HA.out.cell 0 _ rfl
    have k1 := HA.out.cell 1 _ rfl
    have kl := HA.out.lt
    have l0 := HBB.out.cell 0 _ rfl
    have l1 := HBB.out.cell 1 _ rfl
    have ll := HBB.out.lt
    have m0 := HC.out.cell 0 _ rfl
    have m1 := HC.out.cell 1 _ rfl
    have ml := HC.out.lt
    have HA4 := hid (HA.out.below hb4)
    have HBB4 := hid (HBB.out.below hb4)
    have HC4 := hid (HC.out.below hb4)
    clear hb4 hg4
    go_wp2_with fail
    rw [← HW4.out]
    refine HBIG.out.mono ?_
    rintro e w5 ⟨⟨big, rfl, hbig⟩, hb5⟩
    have HB := hid (HB4.out.trans (hb5.mono HB4.out.size))
    have HA := hid (HA4.out.below hb5)
    have HBB := hid (HBB4.out.below hb5)
    have HC := hid (HC4.out.below hb5)
    have HBG := hid hbig
    clear hb5 hbig k0 k1 kl l0 l1 ll m0 m1 ml HA4 HBB4 HC4 HB4 HBIG HW4
    cases big with
    | true =>
      go_wp2_with fail
      go_ret
      exact ⟨rfl, HB.out⟩
    | false =>
      have HW2 : Hid (mwt (d + 1) a ≤ 2000 ∧ mwt (d + 1) b ≤ 2000 ∧ mwt (d + 1) c ≤ 2000) := ⟨HBG.out rfl 0 (by decide), HBG.out rfl 1 (by decide), HBG.out rfl 2 (by decide)⟩
      clear HBG
      go_wp2_with fail
      refine (law13_Many (HMW.out.1.below HB.out)).mono ?_
      rintro e w6 ⟨⟨many, rfl⟩, rfl⟩
      cases many with
      | true =>
        go_wp2_with fail
        go_ret
        exact ⟨rfl, HB.out⟩
      | false =>
        have HRa := hid (tree_Right (HS.out.below HB.out) root (HMA.out.below HB.out) (Nat.le_trans HW2.out.1 (by decide)))
        obtain ⟨ra, HQa⟩ : ∃ q, Hid (q = (sright s && rightB s (d + 1) root a)) := ⟨_, rfl⟩
        rw [← HQa.out] at HRa
        have k0 := HA.out.cell 0 _ rfl
        have k1 := HA.out.cell 1 _ rfl
        have kl := HA.out.lt
        go_wp2_with fail
        refine HRa.out.mono ?_
        rintro e w7a ⟨rfl, hb7⟩
        have HB := hid (HB.out.trans (hb7.mono HB.out.size))
        have HA := hid (HA.out.below hb7)
        have HBB := hid (HBB.out.below hb7)
        have HC := hid (HC.out.below hb7)
        clear hb7 k0 k1 kl HRa
        cases ra with
        | false =>
          go_wp2_with fail
          go_ret
          exact ⟨rfl, HB.out⟩
        | true =>
          have HRb := hid (tree_Right (HS.out.below HB.out) root (HMB.out.below HB.out) (Nat.le_trans HW2.out.2.1 (by decide)))
          obtain ⟨rb, HQb⟩ : ∃ q, Hid (q = (sright s && rightB s (d + 1) root b)) := ⟨_, rfl⟩
          rw [← HQb.out] at HRb
          have k0 := HBB.out.cell 0 _ rfl
          have k1 := HBB.out.cell 1 _ rfl
          have kl := HBB.out.lt
          go_wp2_with fail
          refine HRb.out.mono ?_
          rintro e w7b ⟨rfl, hb7⟩
          have HB := hid (HB.out.trans (hb7.mono HB.out.size))
          have HA := hid (HA.out.below hb7)
          have HBB := hid (HBB.out.below hb7)
          have HC := hid (HC.out.below hb7)
          clear hb7 k0 k1 kl HRb
          cases rb with
          | false =>
            go_wp2_with fail
            go_ret
            exact ⟨rfl, HB.out⟩
          | true =>
            have HRc := hid (tree_Right (HS.out.below HB.out) root (HMC.out.below HB.out) (Nat.le_trans HW2.out.2.2 (by decide)))
            obtain ⟨rc, HQc⟩ : ∃ q, Hid (q = (sright s && rightB s (d + 1) root c)) := ⟨_, rfl⟩
            rw [← HQc.out] at HRc
            have k0 := HC.out.cell 0 _ rfl
            have k1 := HC.out.cell 1 _ rfl
            have kl := HC.out.lt
            go_wp2_with fail
            refine HRc.out.mono ?_
            rintro e w7c ⟨rfl, hb7⟩
            have HB := hid (HB.out.trans (hb7.mono HB.out.size))
            have HA := hid (HA.out.below hb7)
            have HBB := hid (HBB.out.below hb7)
            have HC := hid (HC.out.below hb7)
            clear hb7 k0 k1 kl HRc
            cases rc with
            | false =>
              go_wp2_with fail
              go_ret
              exact ⟨rfl, HB.out⟩
            | true =>
              have hra := HQa.out
              have hrb := HQb.out
              have hrc := HQc.out
              rw [eq_comm, Bool.and_eq_true] at hra hrb hrc
              obtain ⟨r, rfl, hrs⟩ := right_range hra.2
              have HR := hid (And.intro hra.1 hrs)
              have HRA := hid hra.2
              have HRB := hid hrb.2
              have HRC := hid hrc.2
              have hab := right_join s (d + 1) r a b hra.2 hrb.2
              have hbc := right_join s (d + 1) r b c hrb.2 hrc.2
              have hxx := right_join s (d + 1) r _ c hab hrc.2
              have wab := mwt_join s (d + 1) r a b hra.2 hrb.2
              have wbc := mwt_join s (d + 1) r b c hrb.2 hrc.2
              have wxx := mwt_join s (d + 1) r _ c hab hrc.2
              have exx := join_assoc s (d + 1) r a b c hra.2 hrb.2 hrc.2
              have en := join_empty_r s d (r : Int) a
              have eo := join_empty_l s d (r : Int) a hra.2
              have re := right_empty (s := s) (d := d) (root := (r : Int)) (by omega)
              have hkk := right_part s true (d + 1) r (mOf (mOf ws)) a hra.2
              have hll := right_part s false (d + 1) r (mOf (mOf ws)) a hra.2
              have wkk := mwt_part s true (d + 1) r (mOf (mOf ws)) a
              have wll := mwt_part s false (d + 1) r (mOf (mOf ws)) a
              have ekl := part_join s (d + 1) r (mOf (mOf ws)) a hra.2
              rw [Int.toNat_natCast] at hkk hll ekl
              obtain ⟨zab, Hzab⟩ : ∃ z, Hid (z = joinM s (d + 1) r a b) := ⟨_, rfl⟩
              obtain ⟨zbc, Hzbc⟩ : ∃ z, Hid (z = joinM s (d + 1) r b c) := ⟨_, rfl⟩
              rw [← Hzab.out] at hab hxx wab wxx exx
              rw [← Hzbc.out] at hbc wbc exx
              obtain ⟨zx, Hzx⟩ : ∃ z, Hid (z = joinM s (d + 1) r zab c) := ⟨_, rfl⟩
              rw [← Hzx.out] at hxx wxx exx
              obtain ⟨zk, Hzk⟩ : ∃ z, Hid (z = partM s true (d + 1) r (mOf (mOf ws)) a) := ⟨_, rfl⟩
              obtain ⟨zl, Hzl⟩ : ∃ z, Hid (z = partM s false (d + 1) r (mOf (mOf ws)) a) := ⟨_, rfl⟩
              rw [← Hzk.out] at hkk wkk ekl
              rw [← Hzl.out] at hll wll ekl
              obtain ⟨zp, Hzp⟩ : ∃ z, Hid (z = plainM (d + 1) a) := ⟨_, rfl⟩
              have hw2 := HW2.out
              have HAB : Hid (rightB s (d + 1) (r : Int) zab = true ∧ mwt (d + 1) zab ≤ 10000) := ⟨hab, by omega⟩
              have HBC : Hid (rightB s (d + 1) (r : Int) zbc = true ∧ mwt (d + 1) zbc ≤ 10000) := ⟨hbc, by omega⟩
              have HXX : Hid (rightB s (d + 1) (r : Int) zx = true ∧ mwt (d + 1) zx ≤ 10000) := ⟨hxx, by omega⟩
              have HKK : Hid (rightB s (d + 1) (r : Int) zk = true ∧ mwt (d + 1) zk ≤ 10000) := ⟨hkk, by omega⟩
              have HLL : Hid (rightB s (d + 1) (r : Int) zl = true ∧ mwt (d + 1) zl ≤ 10000) := ⟨hll, by omega⟩
              have HAA : Hid (rightB s (d + 1) (r : Int) a = true ∧ mwt (d + 1) a ≤ 10000) := ⟨hra.2, by omega⟩
              have HWB : Hid (mwt (d + 1) b ≤ 10000 ∧ mwt (d + 1) c ≤ 10000) := ⟨by omega, by omega⟩
              have HEE : Hid (rightB s (d + 1) (r : Int) (emptyM d) = true ∧ mwt (d + 1) (emptyM d) ≤ 10000) := ⟨re, by show 1 + 0 + 0 ≤ 10000; omega⟩
              have HEQ : Hid (joinM s (d + 1) (r : Int) a zbc = zx ∧ joinM s (d + 1) (r : Int) a (emptyM d) = a ∧ joinM s (d + 1) (r : Int) (emptyM d) a = a ∧ joinM s (d + 1) (r : Int) zk zl = a) := ⟨exx.symm, en, eo, ekl⟩
              clear hra hrb hrc hrs hab hbc hxx wab wbc wxx exx en eo re hkk hll wkk wll ekl hw2 HQa HQb HQc
              have p00 := HA.out.cell 0 _ rfl
              have p01 := HA.out.cell 1 _ rfl
              have p0l := HA.out.lt
              have p10 := HBB.out.cell 0 _ rfl
              have p11 := HBB.out.cell 1 _ rfl
              have p1l := HBB.out.lt
              have HCALL := hid (join_ok (HS.out.below HB.out) (HMA.out.below HB.out) (HMB.out.below HB.out) HR.out.1 HR.out.2 HRA.out HRB.out HAA.out.2 HWB.out.1 Hzab.out.symm)
              go_wp2_with fail
              refine HCALL.out.mono ?_
              rintro e v1 ⟨q1a, q1b, q1c, q1d, q1e, q1f, rfl, hb, hM⟩
              obtain ⟨B1, HN1⟩ : ∃ b, Hid (b = v1.heap.size) := ⟨_, rfl⟩
              obtain ⟨V1, HV1⟩ : ∃ W, Hid (W = v1.alloc (.cells #[.slice q1a q1b q1c, .slice q1d q1e q1f] 27)) := ⟨_, rfl⟩
              have hb2 : Below v1.heap.size v1 V1 := by rw [HV1.out]; exact (Below.refl _ _).alloc (Nat.le_refl _) _
              have hk : Blk V1 B1 [.slice q1a q1b q1c, .slice q1d q1e q1f] 27 := by rw [HV1.out, HN1.out]; exact Blk.new v1 [.slice q1a q1b q1c, .slice q1d q1e q1f] _
              have hbb := hb.trans (hb2.mono hb.size)
              have HB := hid (HB.out.trans (hbb.mono HB.out.size))
              have HA := hid (HA.out.below hbb)
              have HBB := hid (HBB.out.below hbb)
              have HC := hid (HC.out.below hbb)
              have H1 := hid (And.intro hk (hM.below hb2))
              clear hb hb2 hk hbb hM HCALL p00 p01 p0l p10 p11 p1l
              go_upto_region 6 with fail
              rw [← HV1.out, ← HN1.out]
              have p00 := HBB.out.cell 0 _ rfl
              have p01 := HBB.out.cell 1 _ rfl
              have p0l := HBB.out.lt
              have p10 := HC.out.cell 0 _ rfl
              have p11 := HC.out.cell 1 _ rfl
              have p1l := HC.out.lt
              have HCALL := hid (join_ok (HS.out.below HB.out) (HMB.out.below HB.out) (HMC.out.below HB.out) HR.out.1 HR.out.2 HRB.out HRC.out HWB.out.1 HWB.out.2 Hzbc.out.symm)
              go_wp2_with fail
              refine HCALL.out.mono ?_
              rintro e v2 ⟨q2a, q2b, q2c, q2d, q2e, q2f, rfl, hb, hM⟩
              obtain ⟨B2, HN2⟩ : ∃ b, Hid (b = v2.heap.size) := ⟨_, rfl⟩
              obtain ⟨V2, HV2⟩ : ∃ W, Hid (W = v2.alloc (.cells #[.slice q2a q2b q2c, .slice q2d q2e q2f] 27)) := ⟨_, rfl⟩
              have hb2 : Below v2.heap.size v2 V2 := by rw [HV2.out]; exact (Below.refl _ _).alloc (Nat.le_refl _) _
              have hk : Blk V2 B2 [.slice q2a q2b q2c, .slice q2d q2e q2f] 27 := by rw [HV2.out, HN2.out]; exact Blk.new v2 [.slice q2a q2b q2c, .slice q2d q2e q2f] _
              have hbb := hb.trans (hb2.mono hb.size)
              have HB := hid (HB.out.trans (hbb.mono HB.out.size))
              have HA := hid (HA.out.below hbb)
              have HBB := hid (HBB.out.below hbb)
              have HC := hid (HC.out.below hbb)
              have H1 := hid (And.intro (H1.out.1.below hbb) (H1.out.2.below hbb))
              have H2 := hid (And.intro hk (hM.below hb2))
              clear hb hb2 hk hbb hM HCALL p00 p01 p0l p10 p11 p1l
              go_upto_region 7 with fail
              rw [← HV2.out, ← HN2.out]
              have p00 := H1.out.1.cell 0 _ rfl
              have p01 := H1.out.1.cell 1 _ rfl
              have p0l := H1.out.1.lt
              have p10 := HC.out.cell 0 _ rfl
              have p11 := HC.out.cell 1 _ rfl
              have p1l := HC.out.lt
              have HCALL := hid (join_ok (HS.out.below HB.out) H1.out.2 (HMC.out.below HB.out) HR.out.1 HR.out.2 HAB.out.1 HRC.out HAB.out.2 HWB.out.2 Hzx.out.symm)
              go_wp2_with fail
              refine HCALL.out.mono ?_
              rintro e v3 ⟨q3a, q3b, q3c, q3d, q3e, q3f, rfl, hb, hM⟩
              obtain ⟨B3, HN3⟩ : ∃ b, Hid (b = v3.heap.size) := ⟨_, rfl⟩
              obtain ⟨V3, HV3⟩ : ∃ W, Hid (W = v3.alloc (.cells #[.slice q3a q3b q3c, .slice q3d q3e q3f] 27)) := ⟨_, rfl⟩
              have hb2 : Below v3.heap.size v3 V3 := by rw [HV3.out]; exact (Below.refl _ _).alloc (Nat.le_refl _) _
              have hk : Blk V3 B3 [.slice q3a q3b q3c, .slice q3d q3e q3f] 27 := by rw [HV3.out, HN3.out]; exact Blk.new v3 [.slice q3a q3b q3c, .slice q3d q3e q3f] _
              have hbb := hb.trans (hb2.mono hb.size)
              have HB := hid (HB.out.trans (hbb.mono HB.out.size))
              have HA := hid (HA.out.below hbb)
              have HBB := hid (HBB.out.below hbb)
              have HC := hid (HC.out.below hbb)
              have H1 := hid (And.intro (H1.out.1.below hbb) (H1.out.2.below hbb))
              have H2 := hid (And.intro (H2.out.1.below hbb) (H2.out.2.below hbb))
              have H3 := hid (And.intro hk (hM.below hb2))
              clear hb hb2 hk hbb hM HCALL p00 p01 p0l p10 p11 p1l
              go_upto_region 8 with fail
              rw [← HV3.out, ← HN3.out]
              have p00 := HA.out.cell 0 _ rfl
              have p01 := HA.out.cell 1 _ rfl
              have p0l := HA.out.lt
              have p10 := H2.out.1.cell 0 _ rfl
              have p11 := H2.out.1.cell 1 _ rfl
              have p1l := H2.out.1.lt
              have HCALL := hid (join_ok (HS.out.below HB.out) (HMA.out.below HB.out) H2.out.2 HR.out.1 HR.out.2 HRA.out HBC.out.1 HAA.out.2 HBC.out.2 HEQ.out.1)
              go_wp2_with fail
              refine HCALL.out.mono ?_
              rintro e v4 ⟨q4a, q4b, q4c, q4d, q4e, q4f, rfl, hb, hM⟩
              obtain ⟨B4, HN4⟩ : ∃ b, Hid (b = v4.heap.size) := ⟨_, rfl⟩
              obtain ⟨V4, HV4⟩ : ∃ W, Hid (W = v4.alloc (.cells #[.slice q4a q4b q4c, .slice q4d q4e q4f] 27)) := ⟨_, rfl⟩
              have hb2 : Below v4.heap.size v4 V4 := by rw [HV4.out]; exact (Below.refl _ _).alloc (Nat.le_refl _) _
              have hk : Blk V4 B4 [.slice q4a q4b q4c, .slice q4d q4e q4f] 27 := by rw [HV4.out, HN4.out]; exact Blk.new v4 [.slice q4a q4b q4c, .slice q4d q4e q4f] _
              have hbb := hb.trans (hb2.mono hb.size)
              have HB := hid (HB.out.trans (hbb.mono HB.out.size))
              have HA := hid (HA.out.below hbb)
              have HBB := hid (HBB.out.below hbb)
              have HC := hid (HC.out.below hbb)
              have H1 := hid (And.intro (H1.out.1.below hbb) (H1.out.2.below hbb))
              have H2 := hid (And.intro (H2.out.1.below hbb) (H2.out.2.below hbb))
              have H3 := hid (And.intro (H3.out.1.below hbb) (H3.out.2.below hbb))
              have H4 := hid (And.intro hk (hM.below hb2))
              clear hb hb2 hk hbb hM HCALL p00 p01 p0l p10 p11 p1l
              go_upto_region 9 with fail
              rw [← HV4.out, ← HN4.out]
              have p00 := HA.out.cell 0 _ rfl
              have p01 := HA.out.cell 1 _ rfl
              have p0l := HA.out.lt
              have HCALL := hid (join_ok (HS.out.below HB.out) (HMA.out.below HB.out) (empty_at _ d) HR.out.1 HR.out.2 HRA.out HEE.out.1 HAA.out.2 HEE.out.2 HEQ.out.2.1)
              go_wp2_with fail
              refine HCALL.out.mono ?_
              rintro e v5 ⟨q5a, q5b, q5c, q5d, q5e, q5f, rfl, hb, hM⟩
              obtain ⟨B5, HN5⟩ : ∃ b, Hid (b = v5.heap.size) := ⟨_, rfl⟩
              obtain ⟨V5, HV5⟩ : ∃ W, Hid (W = v5.alloc (.cells #[.slice q5a q5b q5c, .slice q5d q5e q5f] 27)) := ⟨_, rfl⟩
              have hb2 : Below v5.heap.size v5 V5 := by rw [HV5.out]; exact (Below.refl _ _).alloc (Nat.le_refl _) _
              have hk : Blk V5 B5 [.slice q5a q5b q5c, .slice q5d q5e q5f] 27 := by rw [HV5.out, HN5.out]; exact Blk.new v5 [.slice q5a q5b q5c, .slice q5d q5e q5f] _
              have hbb := hb.trans (hb2.mono hb.size)
              have HB := hid (HB.out.trans (hbb.mono HB.out.size))
              have HA := hid (HA.out.below hbb)
              have HBB := hid (HBB.out.below hbb)
              have HC := hid (HC.out.below hbb)
              have H1 := hid (And.intro (H1.out.1.below hbb) (H1.out.2.below hbb))
              have H2 := hid (And.intro (H2.out.1.below hbb) (H2.out.2.below hbb))
              have H3 := hid (And.intro (H3.out.1.below hbb) (H3.out.2.below hbb))
              have H4 := hid (And.intro (H4.out.1.below hbb) (H4.out.2.below hbb))
              have H5 := hid (And.intro hk (hM.below hb2))
              clear hb hb2 hk hbb hM HCALL p00 p01 p0l
              go_upto_region 10 with fail
              rw [← HV5.out, ← HN5.out]
              have p00 := HA.out.cell 0 _ rfl
              have p01 := HA.out.cell 1 _ rfl
              have p0l := HA.out.lt
              have HCALL := hid (join_ok (HS.out.below HB.out) (empty_at _ d) (HMA.out.below HB.out) HR.out.1 HR.out.2 HEE.out.1 HRA.out HEE.out.2 HAA.out.2 HEQ.out.2.2.1)
              go_wp2_with fail
              refine HCALL.out.mono ?_
              rintro e v6 ⟨q6a, q6b, q6c, q6d, q6e, q6f, rfl, hb, hM⟩
              obtain ⟨B6, HN6⟩ : ∃ b, Hid (b = v6.heap.size) := ⟨_, rfl⟩
              obtain ⟨V6, HV6⟩ : ∃ W, Hid (W = v6.alloc (.cells #[.slice q6a q6b q6c, .slice q6d q6e q6f] 27)) := ⟨_, rfl⟩
              have hb2 : Below v6.heap.size v6 V6 := by rw [HV6.out]; exact (Below.refl _ _).alloc (Nat.le_refl _) _
              have hk : Blk V6 B6 [.slice q6a q6b q6c, .slice q6d q6e q6f] 27 := by rw [HV6.out, HN6.out]; exact Blk.new v6 [.slice q6a q6b q6c, .slice q6d q6e q6f] _
              have hbb := hb.trans (hb2.mono hb.size)
              have HB := hid (HB.out.trans (hbb.mono HB.out.size))
              have HA := hid (HA.out.below hbb)
              have HBB := hid (HBB.out.below hbb)
              have HC := hid (HC.out.below hbb)
              have H1 := hid (And.intro (H1.out.1.below hbb) (H1.out.2.below hbb))
              have H2 := hid (And.intro (H2.out.1.below hbb) (H2.out.2.below hbb))
              have H3 := hid (And.intro (H3.out.1.below hbb) (H3.out.2.below hbb))
              have H4 := hid (And.intro (H4.out.1.below hbb) (H4.out.2.below hbb))
              have H5 := hid (And.intro (H5.out.1.below hbb) (H5.out.2.below hbb))
              have H6 := hid (And.intro hk (hM.below hb2))
              clear hb hb2 hk hbb hM HCALL p00 p01 p0l
              go_upto_region 11 with fail
              rw [← HV6.out, ← HN6.out]
              have p00 := H3.out.1.cell 0 _ rfl
              have p01 := H3.out.1.cell 1 _ rfl
              have p0l := H3.out.1.lt
              have p10 := H4.out.1.cell 0 _ rfl
              have p11 := H4.out.1.cell 1 _ rfl
              have p1l := H4.out.1.lt
              have HCALL := hid (same_ok H3.out.2 H4.out.2)
              go_wp2_with fail
              refine HCALL.out.mono ?_
              rintro e Vc1 ⟨rfl, hb⟩
              have HB := hid (HB.out.trans (hb.mono HB.out.size))
              have HA := hid (HA.out.below hb)
              have HBB := hid (HBB.out.below hb)
              have HC := hid (HC.out.below hb)
              have H1 := hid (And.intro (H1.out.1.below hb) (H1.out.2.below hb))
              have H2 := hid (And.intro (H2.out.1.below hb) (H2.out.2.below hb))
              have H3 := hid (And.intro (H3.out.1.below hb) (H3.out.2.below hb))
              have H4 := hid (And.intro (H4.out.1.below hb) (H4.out.2.below hb))
              have H5 := hid (And.intro (H5.out.1.below hb) (H5.out.2.below hb))
              have H6 := hid (And.intro (H6.out.1.below hb) (H6.out.2.below hb))
              clear hb HCALL p00 p01 p0l p10 p11 p1l
              have p00 := H5.out.1.cell 0 _ rfl
              have p01 := H5.out.1.cell 1 _ rfl
              have p0l := H5.out.1.lt
              have p10 := HA.out.cell 0 _ rfl
              have p11 := HA.out.cell 1 _ rfl
              have p1l := HA.out.lt
              have HCALL := hid (same_ok H5.out.2 (HMA.out.below HB.out))
              go_wp2_with fail
              refine HCALL.out.mono ?_
              rintro e Vc2 ⟨rfl, hb⟩
              have HB := hid (HB.out.trans (hb.mono HB.out.size))
              have HA := hid (HA.out.below hb)
              have HBB := hid (HBB.out.below hb)
              have HC := hid (HC.out.below hb)
              have H1 := hid (And.intro (H1.out.1.below hb) (H1.out.2.below hb))
              have H2 := hid (And.intro (H2.out.1.below hb) (H2.out.2.below hb))
              have H3 := hid (And.intro (H3.out.1.below hb) (H3.out.2.below hb))
              have H4 := hid (And.intro (H4.out.1.below hb) (H4.out.2.below hb))
              have H5 := hid (And.intro (H5.out.1.below hb) (H5.out.2.below hb))
              have H6 := hid (And.intro (H6.out.1.below hb) (H6.out.2.below hb))
              clear hb HCALL p00 p01 p0l p10 p11 p1l
              have p00 := H6.out.1.cell 0 _ rfl
              have p01 := H6.out.1.cell 1 _ rfl
              have p0l := H6.out.1.lt
              have p10 := HA.out.cell 0 _ rfl
              have p11 := HA.out.cell 1 _ rfl
              have p1l := HA.out.lt
              have HCALL := hid (same_ok H6.out.2 (HMA.out.below HB.out))
              go_wp2_with fail
              refine HCALL.out.mono ?_
              rintro e Vc3 ⟨rfl, hb⟩
              have HB := hid (HB.out.trans (hb.mono HB.out.size))
              have HA := hid (HA.out.below hb)
              have HBB := hid (HBB.out.below hb)
              have HC := hid (HC.out.below hb)
              have H1 := hid (And.intro (H1.out.1.below hb) (H1.out.2.below hb))
              have H2 := hid (And.intro (H2.out.1.below hb) (H2.out.2.below hb))
              have H3 := hid (And.intro (H3.out.1.below hb) (H3.out.2.below hb))
              have H4 := hid (And.intro (H4.out.1.below hb) (H4.out.2.below hb))
              have H5 := hid (And.intro (H5.out.1.below hb) (H5.out.2.below hb))
              have H6 := hid (And.intro (H6.out.1.below hb) (H6.out.2.below hb))
              clear hb HCALL p00 p01 p0l p10 p11 p1l
              have p00 := H3.out.1.cell 0 _ rfl
              have p01 := H3.out.1.cell 1 _ rfl
              have p0l := H3.out.1.lt
              have HCALL := hid (right_ok (HS.out.below HB.out) H3.out.2 HR.out.1 HXX.out.1 HXX.out.2)
              go_wp2_with fail
              refine HCALL.out.mono ?_
              rintro e Vc4 ⟨rfl, hb⟩
              have HB := hid (HB.out.trans (hb.mono HB.out.size))
              have HA := hid (HA.out.below hb)
              have HBB := hid (HBB.out.below hb)
              have HC := hid (HC.out.below hb)
              have H1 := hid (And.intro (H1.out.1.below hb) (H1.out.2.below hb))
              have H2 := hid (And.intro (H2.out.1.below hb) (H2.out.2.below hb))
              have H3 := hid (And.intro (H3.out.1.below hb) (H3.out.2.below hb))
              have H4 := hid (And.intro (H4.out.1.below hb) (H4.out.2.below hb))
              have H5 := hid (And.intro (H5.out.1.below hb) (H5.out.2.below hb))
              have H6 := hid (And.intro (H6.out.1.below hb) (H6.out.2.below hb))
              clear hb HCALL p00 p01 p0l
              clear H1 H2 H3 H4 H5 H6 HBB HC
              have HBB := HA
              have HC := HA
              have HCALL := hid (mask_Of (HMW.out.1.below HB.out) HMW.out.2)
              go_wp2_with fail
              refine HCALL.out.mono ?_
              rintro e v7 ⟨mv2, rfl, hnw, hb⟩
              have hwm := hnw.here
              obtain ⟨-, q7a, q7c, rfl, -, -⟩ := hwm.open
              obtain ⟨q7b, HQN⟩ : ∃ n, Hid (n = (mOf ws).length) := ⟨_, rfl⟩
              rw [← HQN.out] at hwm ⊢
              unfold maskV
              obtain ⟨B7, HN7⟩ : ∃ b, Hid (b = v7.heap.size) := ⟨_, rfl⟩
              obtain ⟨V7, HV7⟩ : ∃ W, Hid (W = v7.alloc (.cells #[.slice q7a q7b q7c] 41)) := ⟨_, rfl⟩
              have hb2 : Below v7.heap.size v7 V7 := by rw [HV7.out]; exact (Below.refl _ _).alloc (Nat.le_refl _) _
              have hk : Blk V7 B7 [.slice q7a q7b q7c] 41 := by rw [HV7.out, HN7.out]; exact Blk.new v7 [.slice q7a q7b q7c] _
              have hbb := hb.trans (hb2.mono hb.size)
              have HB := hid (HB.out.trans (hbb.mono HB.out.size))
              have HA := hid (HA.out.below hbb)
              have HBB := hid (HBB.out.below hbb)
              have HC := hid (HC.out.below hbb)
              have HMK := hid (And.intro hk (hwm.below hb2))
              clear hnw hwm hb hb2 hk hbb HCALL HQN 
              go_upto_region 14 with fail
              rw [← HV7.out, ← HN7.out]
              have p00 := HA.out.cell 0 _ rfl
              have p01 := HA.out.cell 1 _ rfl
              have p0l := HA.out.lt
              have p10 := HMK.out.1.cell 0 _ rfl
              have p1l := HMK.out.1.lt
              have HCALL := hid (keep_ok (HS.out.below HB.out) (HMA.out.below HB.out) HMK.out.2 (mOf_light HMW.out.2) HR.out.1 HR.out.2 HRA.out HAA.out.2 Hzk.out.symm)
              go_wp2_with fail
              refine HCALL.out.mono ?_
              rintro e v8 ⟨q8a, q8b, q8c, q8d, q8e, q8f, rfl, hb, hM⟩
              obtain ⟨B8, HN8⟩ : ∃ b, Hid (b = v8.heap.size) := ⟨_, rfl⟩
              obtain ⟨V8, HV8⟩ : ∃ W, Hid (W = v8.alloc (.cells #[.slice q8a q8b q8c, .slice q8d q8e q8f] 27)) := ⟨_, rfl⟩
              have hb2 : Below v8.heap.size v8 V8 := by rw [HV8.out]; exact (Below.refl _ _).alloc (Nat.le_refl _) _
              have hk : Blk V8 B8 [.slice q8a q8b q8c, .slice q8d q8e q8f] 27 := by rw [HV8.out, HN8.out]; exact Blk.new v8 [.slice q8a q8b q8c, .slice q8d q8e q8f] _
              have hbb := hb.trans (hb2.mono hb.size)
              have HB := hid (HB.out.trans (hbb.mono HB.out.size))
              have HA := hid (HA.out.below hbb)
              have HBB := hid (HBB.out.below hbb)
              have HC := hid (HC.out.below hbb)
              have HMK := hid (And.intro (HMK.out.1.below hbb) (HMK.out.2.below hbb))
              have H8 := hid (And.intro hk (hM.below hb2))
              clear hb hb2 hk hbb hM HCALL p00 p01 p0l p10 p1l
              go_upto_region 15 with fail
              rw [← HV8.out, ← HN8.out]
              have p00 := HA.out.cell 0 _ rfl
              have p01 := HA.out.cell 1 _ rfl
              have p0l := HA.out.lt
              have p10 := HMK.out.1.cell 0 _ rfl
              have p1l := HMK.out.1.lt
              have HCALL := hid (leave_ok (HS.out.below HB.out) (HMA.out.below HB.out) HMK.out.2 (mOf_light HMW.out.2) HR.out.1 HR.out.2 HRA.out HAA.out.2 Hzl.out.symm)
              go_wp2_with fail
              refine HCALL.out.mono ?_
              rintro e v9 ⟨q9a, q9b, q9c, q9d, q9e, q9f, rfl, hb, hM⟩
              obtain ⟨B9, HN9⟩ : ∃ b, Hid (b = v9.heap.size) := ⟨_, rfl⟩
              obtain ⟨V9, HV9⟩ : ∃ W, Hid (W = v9.alloc (.cells #[.slice q9a q9b q9c, .slice q9d q9e q9f] 27)) := ⟨_, rfl⟩
              have hb2 : Below v9.heap.size v9 V9 := by rw [HV9.out]; exact (Below.refl _ _).alloc (Nat.le_refl _) _
              have hk : Blk V9 B9 [.slice q9a q9b q9c, .slice q9d q9e q9f] 27 := by rw [HV9.out, HN9.out]; exact Blk.new v9 [.slice q9a q9b q9c, .slice q9d q9e q9f] _
              have hbb := hb.trans (hb2.mono hb.size)
              have HB := hid (HB.out.trans (hbb.mono HB.out.size))
              have HA := hid (HA.out.below hbb)
              have HBB := hid (HBB.out.below hbb)
              have HC := hid (HC.out.below hbb)
              have HMK := hid (And.intro (HMK.out.1.below hbb) (HMK.out.2.below hbb))
              have H8 := hid (And.intro (H8.out.1.below hbb) (H8.out.2.below hbb))
              have H9 := hid (And.intro hk (hM.below hb2))
              clear hb hb2 hk hbb hM HCALL p00 p01 p0l p10 p1l
              go_upto_region 16 with fail
              rw [← HV9.out, ← HN9.out]
              have p00 := H8.out.1.cell 0 _ rfl
              have p01 := H8.out.1.cell 1 _ rfl
              have p0l := H8.out.1.lt
              have p10 := H9.out.1.cell 0 _ rfl
              have p11 := H9.out.1.cell 1 _ rfl
              have p1l := H9.out.1.lt
              have HCALL := hid (join_ok (HS.out.below HB.out) H8.out.2 H9.out.2 HR.out.1 HR.out.2 HKK.out.1 HLL.out.1 HKK.out.2 HLL.out.2 HEQ.out.2.2.2)
              go_wp2_with fail
              refine HCALL.out.mono ?_
              rintro e v10 ⟨q10a, q10b, q10c, q10d, q10e, q10f, rfl, hb, hM⟩
              obtain ⟨B10, HN10⟩ : ∃ b, Hid (b = v10.heap.size) := ⟨_, rfl⟩
              obtain ⟨V10, HV10⟩ : ∃ W, Hid (W = v10.alloc (.cells #[.slice q10a q10b q10c, .slice q10d q10e q10f] 27)) := ⟨_, rfl⟩
              have hb2 : Below v10.heap.size v10 V10 := by rw [HV10.out]; exact (Below.refl _ _).alloc (Nat.le_refl _) _
              have hk : Blk V10 B10 [.slice q10a q10b q10c, .slice q10d q10e q10f] 27 := by rw [HV10.out, HN10.out]; exact Blk.new v10 [.slice q10a q10b q10c, .slice q10d q10e q10f] _
              have hbb := hb.trans (hb2.mono hb.size)
              have HB := hid (HB.out.trans (hbb.mono HB.out.size))
              have HA := hid (HA.out.below hbb)
              have HBB := hid (HBB.out.below hbb)
              have HC := hid (HC.out.below hbb)
              have HMK := hid (And.intro (HMK.out.1.below hbb) (HMK.out.2.below hbb))
              have H8 := hid (And.intro (H8.out.1.below hbb) (H8.out.2.below hbb))
              have H9 := hid (And.intro (H9.out.1.below hbb) (H9.out.2.below hbb))
              have H10 := hid (And.intro hk (hM.below hb2))
              clear hb hb2 hk hbb hM HCALL p00 p01 p0l p10 p11 p1l
              go_upto_region 17 with fail
              rw [← HV10.out, ← HN10.out]
              have p00 := H10.out.1.cell 0 _ rfl
              have p01 := H10.out.1.cell 1 _ rfl
              have p0l := H10.out.1.lt
              have HCALL := hid (plain_ok (HS.out.below HB.out) H10.out.2 HR.out.1 HR.out.2 HRA.out HAA.out.2 Hzp.out.symm)
              go_wp2_with fail
              refine HCALL.out.mono ?_
              rintro e v11 ⟨q11a, q11b, q11c, q11d, q11e, q11f, rfl, hb, hM⟩
              obtain ⟨B11, HN11⟩ : ∃ b, Hid (b = v11.heap.size) := ⟨_, rfl⟩
              obtain ⟨V11, HV11⟩ : ∃ W, Hid (W = v11.alloc (.cells #[.slice q11a q11b q11c, .slice q11d q11e q11f] 27)) := ⟨_, rfl⟩
              have hb2 : Below v11.heap.size v11 V11 := by rw [HV11.out]; exact (Below.refl _ _).alloc (Nat.le_refl _) _
              have hk : Blk V11 B11 [.slice q11a q11b q11c, .slice q11d q11e q11f] 27 := by rw [HV11.out, HN11.out]; exact Blk.new v11 [.slice q11a q11b q11c, .slice q11d q11e q11f] _
              have hbb := hb.trans (hb2.mono hb.size)
              have HB := hid (HB.out.trans (hbb.mono HB.out.size))
              have HA := hid (HA.out.below hbb)
              have HBB := hid (HBB.out.below hbb)
              have HC := hid (HC.out.below hbb)
              have HMK := hid (And.intro (HMK.out.1.below hbb) (HMK.out.2.below hbb))
              have H8 := hid (And.intro (H8.out.1.below hbb) (H8.out.2.below hbb))
              have H9 := hid (And.intro (H9.out.1.below hbb) (H9.out.2.below hbb))
              have H10 := hid (And.intro (H10.out.1.below hbb) (H10.out.2.below hbb))
              have H11 := hid (And.intro hk (hM.below hb2))
              clear hb hb2 hk hbb hM HCALL p00 p01 p0l
              go_upto_region 18 with fail
              rw [← HV11.out, ← HN11.out]
              have p00 := HA.out.cell 0 _ rfl
              have p01 := HA.out.cell 1 _ rfl
              have p0l := HA.out.lt
              have HCALL := hid (plain_ok (HS.out.below HB.out) (HMA.out.below HB.out) HR.out.1 HR.out.2 HRA.out HAA.out.2 Hzp.out.symm)
              go_wp2_with fail
              refine HCALL.out.mono ?_
              rintro e v12 ⟨q12a, q12b, q12c, q12d, q12e, q12f, rfl, hb, hM⟩
              obtain ⟨B12, HN12⟩ : ∃ b, Hid (b = v12.heap.size) := ⟨_, rfl⟩
              obtain ⟨V12, HV12⟩ : ∃ W, Hid (W = v12.alloc (.cells #[.slice q12a q12b q12c, .slice q12d q12e q12f] 27)) := ⟨_, rfl⟩
              have hb2 : Below v12.heap.size v12 V12 := by rw [HV12.out]; exact (Below.refl _ _).alloc (Nat.le_refl _) _
              have hk : Blk V12 B12 [.slice q12a q12b q12c, .slice q12d q12e q12f] 27 := by rw [HV12.out, HN12.out]; exact Blk.new v12 [.slice q12a q12b q12c, .slice q12d q12e q12f] _
              have hbb := hb.trans (hb2.mono hb.size)
              have HB := hid (HB.out.trans (hbb.mono HB.out.size))
              have HA := hid (HA.out.below hbb)
              have HBB := hid (HBB.out.below hbb)
              have HC := hid (HC.out.below hbb)
              have HMK := hid (And.intro (HMK.out.1.below hbb) (HMK.out.2.below hbb))
              have H8 := hid (And.intro (H8.out.1.below hbb) (H8.out.2.below hbb))
              have H9 := hid (And.intro (H9.out.1.below hbb) (H9.out.2.below hbb))
              have H10 := hid (And.intro (H10.out.1.below hbb) (H10.out.2.below hbb))
              have H11 := hid (And.intro (H11.out.1.below hbb) (H11.out.2.below hbb))
              have H12 := hid (And.intro hk (hM.below hb2))
              clear hb hb2 hk hbb hM HCALL p00 p01 p0l
              go_upto_region 19 with fail
              rw [← HV12.out, ← HN12.out]
              have HV0 : Hid (Below V12.heap.size V12 V12 ∧ V12.cell? ⟨X, 0, none⟩ = some (.slice a1 a2 a3) ∧ V12.cell? ⟨X, 1, none⟩ = some (.slice a4 a5 a6) ∧ V12.cell? ⟨B8, 0, none⟩ = some (.slice q8a q8b q8c) ∧ V12.cell? ⟨B8, 1, none⟩ = some (.slice q8d q8e q8f) ∧ V12.cell? ⟨B9, 0, none⟩ = some (.slice q9a q9b q9c) ∧ V12.cell? ⟨B9, 1, none⟩ = some (.slice q9d q9e q9f) ∧ V12.cell? ⟨B10, 0, none⟩ = some (.slice q10a q10b q10c) ∧ V12.cell? ⟨B10, 1, none⟩ = some (.slice q10d q10e q10f) ∧ V12.cell? ⟨B11, 0, none⟩ = some (.slice q11a q11b q11c) ∧ V12.cell? ⟨B11, 1, none⟩ = some (.slice q11d q11e q11f) ∧ V12.cell? ⟨B12, 0, none⟩ = some (.slice q12a q12b q12c) ∧ V12.cell? ⟨B12, 1, none⟩ = some (.slice q12d q12e q12f)) := ⟨Below.refl _ _, HA.out.cell 0 _ rfl, HA.out.cell 1 _ rfl, H8.out.1.cell 0 _ rfl, H8.out.1.cell 1 _ rfl, H9.out.1.cell 0 _ rfl, H9.out.1.cell 1 _ rfl, H10.out.1.cell 0 _ rfl, H10.out.1.cell 1 _ rfl, H11.out.1.cell 0 _ rfl, H11.out.1.cell 1 _ rfl, H12.out.1.cell 0 _ rfl, H12.out.1.cell 1 _ rfl⟩
              refine wp_region_guard (fun w' => Below V12.heap.size V12 w' ∧ w'.cell? ⟨X, 0, none⟩ = some (.slice a1 a2 a3) ∧ w'.cell? ⟨X, 1, none⟩ = some (.slice a4 a5 a6) ∧ w'.cell? ⟨B8, 0, none⟩ = some (.slice q8a q8b q8c) ∧ w'.cell? ⟨B8, 1, none⟩ = some (.slice q8d q8e q8f) ∧ w'.cell? ⟨B9, 0, none⟩ = some (.slice q9a q9b q9c) ∧ w'.cell? ⟨B9, 1, none⟩ = some (.slice q9d q9e q9f) ∧ w'.cell? ⟨B10, 0, none⟩ = some (.slice q10a q10b q10c) ∧ w'.cell? ⟨B10, 1, none⟩ = some (.slice q10d q10e q10f) ∧ w'.cell? ⟨B11, 0, none⟩ = some (.slice q11a q11b q11c) ∧ w'.cell? ⟨B11, 1, none⟩ = some (.slice q11d q11e q11f) ∧ w'.cell? ⟨B12, 0, none⟩ = some (.slice q12a q12b q12c) ∧ w'.cell? ⟨B12, 1, none⟩ = some (.slice q12d q12e q12f)) (fun _ => True) 19 [(0, 0, 0), (1, 0, 0), (2, 0, 0), (3, 0, 0), (4, 0, 0), (5, 0, 0), (6, 0, 0), (7, 0, 0), (8, 0, 0), (9, 0, 0), (10, 0, 0), (11, 0, 0), (12, 0, 0), (13, 0, 0), (14, 0, 0), (15, 0, 0), (16, 4, 214), (17, 4, 214), (18, 4, 214), (19, 6, 214), (20, 0, 0), (21, 0, 0), (22, 4, 220), (23, 4, 220), (24, 4, 220), (25, 6, 220), (26, 0, 0), (27, 0, 0), (28, 4, 226), (29, 4, 226), (30, 6, 226), (31, 0, 0), (32, 0, 0), (33, 4, 231), (35, 4, 231), (34, 6, 231), (36, 6, 231), (37, 4, 231), (38, 0, 0), (39, 0, 0)] (by kernel_rfl) rfl rfl (by kernel_rfl) (fun _ _ dst _ _ h => by cases dst <;> exact h) ⟨HV0.out.1.drew, HV0.out.2⟩ trivial (fun OPS _ => ?_)
              simp only [List.map_cons, List.map_nil, List.filterMap_cons, List.filterMap_nil, List.getElem?_cons_succ, List.getElem?_cons_zero]
              have HVA : Hid (Below V12.heap.size V12 V12.drew ∧ V12.drew.cell? ⟨X, 0, none⟩ = some (.slice a1 a2 a3) ∧ V12.drew.cell? ⟨X, 1, none⟩ = some (.slice a4 a5 a6) ∧ V12.drew.cell? ⟨B8, 0, none⟩ = some (.slice q8a q8b q8c) ∧ V12.drew.cell? ⟨B8, 1, none⟩ = some (.slice q8d q8e q8f) ∧ V12.drew.cell? ⟨B9, 0, none⟩ = some (.slice q9a q9b q9c) ∧ V12.drew.cell? ⟨B9, 1, none⟩ = some (.slice q9d q9e q9f) ∧ V12.drew.cell? ⟨B10, 0, none⟩ = some (.slice q10a q10b q10c) ∧ V12.drew.cell? ⟨B10, 1, none⟩ = some (.slice q10d q10e q10f) ∧ V12.drew.cell? ⟨B11, 0, none⟩ = some (.slice q11a q11b q11c) ∧ V12.drew.cell? ⟨B11, 1, none⟩ = some (.slice q11d q11e q11f) ∧ V12.drew.cell? ⟨B12, 0, none⟩ = some (.slice q12a q12b q12c) ∧ V12.drew.cell? ⟨B12, 1, none⟩ = some (.slice q12d q12e q12f)) := ⟨HV0.out.1.drew, HV0.out.2⟩
              refine seqH0 (v := ?v0) ?hy0 ?hr0
              case hy0 => (intro w hw; go_simp; all_goals rfl)
              simp only [Act.put, List.setIfInBounds_toArray, List.set_cons_zero, List.set_cons_succ]
              refine seqH0 (v := ?v1) ?hy1 ?hr1
              case hy1 => (intro w hw; go_simp; all_goals rfl)
              simp only [Act.put, List.setIfInBounds_toArray, List.set_cons_zero, List.set_cons_succ]
              refine seqH0 (v := ?v2) ?hy2 ?hr2
              case hy2 => (intro w hw; go_simp; all_goals rfl)
              simp only [Act.put, List.setIfInBounds_toArray, List.set_cons_zero, List.set_cons_succ]
              refine seqH0 (v := ?v3) ?hy3 ?hr3
              case hy3 => (intro w hw; go_simp; all_goals rfl)
              simp only [Act.put, List.setIfInBounds_toArray, List.set_cons_zero, List.set_cons_succ]
              refine seqH0 (v := ?v4) ?hy4 ?hr4
              case hy4 => (intro w hw; go_simp; all_goals rfl)
              simp only [Act.put, List.setIfInBounds_toArray, List.set_cons_zero, List.set_cons_succ]
              refine seqH0 (v := ?v5) ?hy5 ?hr5
              case hy5 => (intro w hw; go_simp; all_goals rfl)
              simp only [Act.put, List.setIfInBounds_toArray, List.set_cons_zero, List.set_cons_succ]
              refine seqH0 (v := ?v6) ?hy6 ?hr6
              case hy6 => (intro w hw; go_simp; all_goals rfl)
              simp only [Act.put, List.setIfInBounds_toArray, List.set_cons_zero, List.set_cons_succ]
              refine seqH0 (v := ?v7) ?hy7 ?hr7
              case hy7 => (intro w hw; go_simp; all_goals rfl)
              simp only [Act.put, List.setIfInBounds_toArray, List.set_cons_zero, List.set_cons_succ]
              refine seqH0 (v := ?v8) ?hy8 ?hr8
              case hy8 => (intro w hw; go_simp; all_goals rfl)
              simp only [Act.put, List.setIfInBounds_toArray, List.set_cons_zero, List.set_cons_succ]
              refine seqH0 (v := ?v9) ?hy9 ?hr9
              case hy9 => (intro w hw; go_simp; all_goals rfl)
              simp only [Act.put, List.setIfInBounds_toArray, List.set_cons_zero, List.set_cons_succ]
              refine seqH0 (v := ?v10) ?hy10 ?hr10
              case hy10 => (intro w hw; go_simp; all_goals rfl)
              simp only [Act.put, List.setIfInBounds_toArray, List.set_cons_zero, List.set_cons_succ]
              refine seqH0 (v := ?v11) ?hy11 ?hr11
              case hy11 => (intro w hw; go_simp; all_goals rfl)
              simp only [Act.put, List.setIfInBounds_toArray, List.set_cons_zero, List.set_cons_succ]
              refine seqH0 (v := ?v12) ?hy12 ?hr12
              case hy12 => (intro w hw; go_simp; all_goals rfl)
              simp only [Act.put, List.setIfInBounds_toArray, List.set_cons_zero, List.set_cons_succ]
              refine seqH0 (v := ?v13) ?hy13 ?hr13
              case hy13 => (intro w hw; go_simp; all_goals rfl)
              simp only [Act.put, List.setIfInBounds_toArray, List.set_cons_zero, List.set_cons_succ]
              refine seqH0 (v := ?v14) ?hy14 ?hr14
              case hy14 => (intro w hw; go_simp; all_goals rfl)
              simp only [Act.put, List.setIfInBounds_toArray, List.set_cons_zero, List.set_cons_succ]
              refine seqH0 (v := ?v15) ?hy15 ?hr15
              case hy15 => (intro w hw; go_simp; all_goals rfl)
              simp only [Act.put, List.setIfInBounds_toArray, List.set_cons_zero, List.set_cons_succ]
              refine seqH4 (v := ?v16) ?ht16 ?hy16 ?hr16
              case ht16 => rfl
              case hy16 => (intro w hw; go_simp; all_goals rfl)
              simp only [Act.put, List.setIfInBounds_toArray, List.set_cons_zero, List.set_cons_succ]
              refine seqH4 (v := ?v17) ?ht17 ?hy17 ?hr17
              case ht17 => rfl
              case hy17 => (intro w hw; go_simp; all_goals rfl)
              simp only [Act.put, List.setIfInBounds_toArray, List.set_cons_zero, List.set_cons_succ]
              refine seqH4 (v := ?v18) ?ht18 ?hy18 ?hr18
              case ht18 => rfl
              case hy18 => (intro w hw; go_simp; all_goals rfl)
              simp only [Act.put, List.setIfInBounds_toArray, List.set_cons_zero, List.set_cons_succ]
              refine seqH6 (by rfl) (fun K12 HK12 => ?_)
              go_wp2_with fail
              refine (right_ok (HS.out.below (HB.out.trans (HVA.out.1.mono HB.out.size))) (H8.out.2.below HVA.out.1) HR.out.1 HKK.out.1 HKK.out.2).mono ?_
              rintro e u1 ⟨rfl, hb⟩
              have HVA : Hid (Below V12.heap.size V12 u1 ∧ u1.cell? ⟨X, 0, none⟩ = some (.slice a1 a2 a3) ∧ u1.cell? ⟨X, 1, none⟩ = some (.slice a4 a5 a6) ∧ u1.cell? ⟨B8, 0, none⟩ = some (.slice q8a q8b q8c) ∧ u1.cell? ⟨B8, 1, none⟩ = some (.slice q8d q8e q8f) ∧ u1.cell? ⟨B9, 0, none⟩ = some (.slice q9a q9b q9c) ∧ u1.cell? ⟨B9, 1, none⟩ = some (.slice q9d q9e q9f) ∧ u1.cell? ⟨B10, 0, none⟩ = some (.slice q10a q10b q10c) ∧ u1.cell? ⟨B10, 1, none⟩ = some (.slice q10d q10e q10f) ∧ u1.cell? ⟨B11, 0, none⟩ = some (.slice q11a q11b q11c) ∧ u1.cell? ⟨B11, 1, none⟩ = some (.slice q11d q11e q11f) ∧ u1.cell? ⟨B12, 0, none⟩ = some (.slice q12a q12b q12c) ∧ u1.cell? ⟨B12, 1, none⟩ = some (.slice q12d q12e q12f)) := ⟨HVA.out.1.trans (hb.mono HVA.out.1.size), ⟨below_keeps hb _ _ HVA.out.2.1, below_keeps hb _ _ HVA.out.2.2.1, below_keeps hb _ _ HVA.out.2.2.2.1, below_keeps hb _ _ HVA.out.2.2.2.2.1, below_keeps hb _ _ HVA.out.2.2.2.2.2.1, below_keeps hb _ _ HVA.out.2.2.2.2.2.2.1, below_keeps hb _ _ HVA.out.2.2.2.2.2.2.2.1, below_keeps hb _ _ HVA.out.2.2.2.2.2.2.2.2.1, below_keeps hb _ _ HVA.out.2.2.2.2.2.2.2.2.2.1, below_keeps hb _ _ HVA.out.2.2.2.2.2.2.2.2.2.2.1, below_keeps hb _ _ HVA.out.2.2.2.2.2.2.2.2.2.2.2.1, below_keeps hb _ _ HVA.out.2.2.2.2.2.2.2.2.2.2.2.2⟩⟩
              clear hb
              go_wp2_with fail
              refine HK12.out _ _ HVA.out ?_
              clear HK12 K12
              intro _
              refine seqH0 (v := ?v30) ?hy30 ?hr30
              case hy30 => (intro w hw; go_simp; all_goals rfl)
              simp only [Act.put, List.setIfInBounds_toArray, List.set_cons_zero, List.set_cons_succ]
              refine seqH0 (v := ?v31) ?hy31 ?hr31
              case hy31 => (intro w hw; go_simp; all_goals rfl)
              simp only [Act.put, List.setIfInBounds_toArray, List.set_cons_zero, List.set_cons_succ]
              refine seqH4 (v := ?v32) ?ht32 ?hy32 ?hr32
              case ht32 => rfl
              case hy32 => (intro w hw; go_simp; all_goals rfl)
              simp only [Act.put, List.setIfInBounds_toArray, List.set_cons_zero, List.set_cons_succ]
              refine seqH4 (v := ?v33) ?ht33 ?hy33 ?hr33
              case ht33 => rfl
              case hy33 => (intro w hw; go_simp; all_goals rfl)
              simp only [Act.put, List.setIfInBounds_toArray, List.set_cons_zero, List.set_cons_succ]
              refine seqH4 (v := ?v34) ?ht34 ?hy34 ?hr34
              case ht34 => rfl
              case hy34 => (intro w hw; go_simp; all_goals rfl)
              simp only [Act.put, List.setIfInBounds_toArray, List.set_cons_zero, List.set_cons_succ]
              refine seqH6 (by rfl) (fun K12 HK12 => ?_)
              go_wp2_with fail
              refine (right_ok (HS.out.below (HB.out.trans (HVA.out.1.mono HB.out.size))) (H9.out.2.below HVA.out.1) HR.out.1 HLL.out.1 HLL.out.2).mono ?_
              rintro e u2 ⟨rfl, hb⟩
              have HVA : Hid (Below V12.heap.size V12 u2 ∧ u2.cell? ⟨X, 0, none⟩ = some (.slice a1 a2 a3) ∧ u2.cell? ⟨X, 1, none⟩ = some (.slice a4 a5 a6) ∧ u2.cell? ⟨B8, 0, none⟩ = some (.slice q8a q8b q8c) ∧ u2.cell? ⟨B8, 1, none⟩ = some (.slice q8d q8e q8f) ∧ u2.cell? ⟨B9, 0, none⟩ = some (.slice q9a q9b q9c) ∧ u2.cell? ⟨B9, 1, none⟩ = some (.slice q9d q9e q9f) ∧ u2.cell? ⟨B10, 0, none⟩ = some (.slice q10a q10b q10c) ∧ u2.cell? ⟨B10, 1, none⟩ = some (.slice q10d q10e q10f) ∧ u2.cell? ⟨B11, 0, none⟩ = some (.slice q11a q11b q11c) ∧ u2.cell? ⟨B11, 1, none⟩ = some (.slice q11d q11e q11f) ∧ u2.cell? ⟨B12, 0, none⟩ = some (.slice q12a q12b q12c) ∧ u2.cell? ⟨B12, 1, none⟩ = some (.slice q12d q12e q12f)) := ⟨HVA.out.1.trans (hb.mono HVA.out.1.size), ⟨below_keeps hb _ _ HVA.out.2.1, below_keeps hb _ _ HVA.out.2.2.1, below_keeps hb _ _ HVA.out.2.2.2.1, below_keeps hb _ _ HVA.out.2.2.2.2.1, below_keeps hb _ _ HVA.out.2.2.2.2.2.1, below_keeps hb _ _ HVA.out.2.2.2.2.2.2.1, below_keeps hb _ _ HVA.out.2.2.2.2.2.2.2.1, below_keeps hb _ _ HVA.out.2.2.2.2.2.2.2.2.1, below_keeps hb _ _ HVA.out.2.2.2.2.2.2.2.2.2.1, below_keeps hb _ _ HVA.out.2.2.2.2.2.2.2.2.2.2.1, below_keeps hb _ _ HVA.out.2.2.2.2.2.2.2.2.2.2.2.1, below_keeps hb _ _ HVA.out.2.2.2.2.2.2.2.2.2.2.2.2⟩⟩
              clear hb
              go_wp2_with fail
              refine HK12.out _ _ HVA.out ?_
              clear HK12 K12
              intro _
              refine seqH0 (v := ?v40) ?hy40 ?hr40
              case hy40 => (intro w hw; go_simp; all_goals rfl)
              simp only [Act.put, List.setIfInBounds_toArray, List.set_cons_zero, List.set_cons_succ]
              refine seqH0 (v := ?v41) ?hy41 ?hr41
              case hy41 => (intro w hw; go_simp; all_goals rfl)
              simp only [Act.put, List.setIfInBounds_toArray, List.set_cons_zero, List.set_cons_succ]
              refine seqH4 (v := ?v42) ?ht42 ?hy42 ?hr42
              case ht42 => rfl
              case hy42 => (intro w hw; go_simp; all_goals rfl)
              simp only [Act.put, List.setIfInBounds_toArray, List.set_cons_zero, List.set_cons_succ]
              refine seqH4 (v := ?v43) ?ht43 ?hy43 ?hr43
              case ht43 => rfl
              case hy43 => (intro w hw; go_simp; all_goals rfl)
              simp only [Act.put, List.setIfInBounds_toArray, List.set_cons_zero, List.set_cons_succ]
              refine seqH6 (by rfl) (fun K12 HK12 => ?_)
              go_wp2_with fail
              refine (same_ok (H11.out.2.below HVA.out.1) (H12.out.2.below HVA.out.1)).mono ?_
              rintro e u3 ⟨rfl, hb⟩
              have HVA : Hid (Below V12.heap.size V12 u3 ∧ u3.cell? ⟨X, 0, none⟩ = some (.slice a1 a2 a3) ∧ u3.cell? ⟨X, 1, none⟩ = some (.slice a4 a5 a6) ∧ u3.cell? ⟨B8, 0, none⟩ = some (.slice q8a q8b q8c) ∧ u3.cell? ⟨B8, 1, none⟩ = some (.slice q8d q8e q8f) ∧ u3.cell? ⟨B9, 0, none⟩ = some (.slice q9a q9b q9c) ∧ u3.cell? ⟨B9, 1, none⟩ = some (.slice q9d q9e q9f) ∧ u3.cell? ⟨B10, 0, none⟩ = some (.slice q10a q10b q10c) ∧ u3.cell? ⟨B10, 1, none⟩ = some (.slice q10d q10e q10f) ∧ u3.cell? ⟨B11, 0, none⟩ = some (.slice q11a q11b q11c) ∧ u3.cell? ⟨B11, 1, none⟩ = some (.slice q11d q11e q11f) ∧ u3.cell? ⟨B12, 0, none⟩ = some (.slice q12a q12b q12c) ∧ u3.cell? ⟨B12, 1, none⟩ = some (.slice q12d q12e q12f)) := ⟨HVA.out.1.trans (hb.mono HVA.out.1.size), ⟨below_keeps hb _ _ HVA.out.2.1, below_keeps hb _ _ HVA.out.2.2.1, below_keeps hb _ _ HVA.out.2.2.2.1, below_keeps hb _ _ HVA.out.2.2.2.2.1, below_keeps hb _ _ HVA.out.2.2.2.2.2.1, below_keeps hb _ _ HVA.out.2.2.2.2.2.2.1, below_keeps hb _ _ HVA.out.2.2.2.2.2.2.2.1, below_keeps hb _ _ HVA.out.2.2.2.2.2.2.2.2.1, below_keeps hb _ _ HVA.out.2.2.2.2.2.2.2.2.2.1, below_keeps hb _ _ HVA.out.2.2.2.2.2.2.2.2.2.2.1, below_keeps hb _ _ HVA.out.2.2.2.2.2.2.2.2.2.2.2.1, below_keeps hb _ _ HVA.out.2.2.2.2.2.2.2.2.2.2.2.2⟩⟩
              clear hb
              go_wp2_with fail
              refine HK12.out _ _ HVA.out ?_
              clear HK12 K12
              intro _
              refine seqH0 (v := ?v50) ?hy50 ?hr50
              case hy50 => (intro w hw; go_simp; all_goals rfl)
              simp only [Act.put, List.setIfInBounds_toArray, List.set_cons_zero, List.set_cons_succ]
              refine seqH0 (v := ?v51) ?hy51 ?hr51
              case hy51 => (intro w hw; go_simp; all_goals rfl)
              simp only [Act.put, List.setIfInBounds_toArray, List.set_cons_zero, List.set_cons_succ]
              refine seqH4 (v := ?v52) ?ht52 ?hy52 ?hr52
              case ht52 => rfl
              case hy52 => (intro w hw; go_simp; all_goals rfl)
              simp only [Act.put, List.setIfInBounds_toArray, List.set_cons_zero, List.set_cons_succ]
              refine seqH4 (v := ?v53) ?ht53 ?hy53 ?hr53
              case ht53 => rfl
              case hy53 => (intro w hw; go_simp; all_goals rfl)
              simp only [Act.put, List.setIfInBounds_toArray, List.set_cons_zero, List.set_cons_succ]
              have HSW : Hid (mwt (d + 1) a ≤ 1099511627776) := Nat.le_trans HAA.out.2 (by decide)
              refine seqH6 (by rfl) (fun K12 HK12 => ?_)
              go_wp2_with fail
              refine (law15_strangers (d + 1) _ _ a (H10.out.2.below HVA.out.1) HSW.out).mono ?_
              rintro e u4 ⟨rfl, hb⟩
              have HVA : Hid (Below V12.heap.size V12 u4 ∧ u4.cell? ⟨X, 0, none⟩ = some (.slice a1 a2 a3) ∧ u4.cell? ⟨X, 1, none⟩ = some (.slice a4 a5 a6) ∧ u4.cell? ⟨B8, 0, none⟩ = some (.slice q8a q8b q8c) ∧ u4.cell? ⟨B8, 1, none⟩ = some (.slice q8d q8e q8f) ∧ u4.cell? ⟨B9, 0, none⟩ = some (.slice q9a q9b q9c) ∧ u4.cell? ⟨B9, 1, none⟩ = some (.slice q9d q9e q9f) ∧ u4.cell? ⟨B10, 0, none⟩ = some (.slice q10a q10b q10c) ∧ u4.cell? ⟨B10, 1, none⟩ = some (.slice q10d q10e q10f) ∧ u4.cell? ⟨B11, 0, none⟩ = some (.slice q11a q11b q11c) ∧ u4.cell? ⟨B11, 1, none⟩ = some (.slice q11d q11e q11f) ∧ u4.cell? ⟨B12, 0, none⟩ = some (.slice q12a q12b q12c) ∧ u4.cell? ⟨B12, 1, none⟩ = some (.slice q12d q12e q12f)) := ⟨HVA.out.1.trans (hb.mono HVA.out.1.size), ⟨below_keeps hb _ _ HVA.out.2.1, below_keeps hb _ _ HVA.out.2.2.1, below_keeps hb _ _ HVA.out.2.2.2.1, below_keeps hb _ _ HVA.out.2.2.2.2.1, below_keeps hb _ _ HVA.out.2.2.2.2.2.1, below_keeps hb _ _ HVA.out.2.2.2.2.2.2.1, below_keeps hb _ _ HVA.out.2.2.2.2.2.2.2.1, below_keeps hb _ _ HVA.out.2.2.2.2.2.2.2.2.1, below_keeps hb _ _ HVA.out.2.2.2.2.2.2.2.2.2.1, below_keeps hb _ _ HVA.out.2.2.2.2.2.2.2.2.2.2.1, below_keeps hb _ _ HVA.out.2.2.2.2.2.2.2.2.2.2.2.1, below_keeps hb _ _ HVA.out.2.2.2.2.2.2.2.2.2.2.2.2⟩⟩
              clear hb
              go_wp2_with fail
              refine HK12.out _ _ HVA.out ?_
              clear HK12 K12
              intro _
              refine seqH6 (by rfl) (fun K12 HK12 => ?_)
              go_wp2_with fail
              refine (law15_strangers (d + 1) _ _ a ((HMA.out.below HB.out).below HVA.out.1) HSW.out).mono ?_
              rintro e u5 ⟨rfl, hb⟩
              have HVA : Hid (Below V12.heap.size V12 u5 ∧ u5.cell? ⟨X, 0, none⟩ = some (.slice a1 a2 a3) ∧ u5.cell? ⟨X, 1, none⟩ = some (.slice a4 a5 a6) ∧ u5.cell? ⟨B8, 0, none⟩ = some (.slice q8a q8b q8c) ∧ u5.cell? ⟨B8, 1, none⟩ = some (.slice q8d q8e q8f) ∧ u5.cell? ⟨B9, 0, none⟩ = some (.slice q9a q9b q9c) ∧ u5.cell? ⟨B9, 1, none⟩ = some (.slice q9d q9e q9f) ∧ u5.cell? ⟨B10, 0, none⟩ = some (.slice q10a q10b q10c) ∧ u5.cell? ⟨B10, 1, none⟩ = some (.slice q10d q10e q10f) ∧ u5.cell? ⟨B11, 0, none⟩ = some (.slice q11a q11b q11c) ∧ u5.cell? ⟨B11, 1, none⟩ = some (.slice q11d q11e q11f) ∧ u5.cell? ⟨B12, 0, none⟩ = some (.slice q12a q12b q12c) ∧ u5.cell? ⟨B12, 1, none⟩ = some (.slice q12d q12e q12f)) := ⟨HVA.out.1.trans (hb.mono HVA.out.1.size), ⟨below_keeps hb _ _ HVA.out.2.1, below_keeps hb _ _ HVA.out.2.2.1, below_keeps hb _ _ HVA.out.2.2.2.1, below_keeps hb _ _ HVA.out.2.2.2.2.1, below_keeps hb _ _ HVA.out.2.2.2.2.2.1, below_keeps hb _ _ HVA.out.2.2.2.2.2.2.1, below_keeps hb _ _ HVA.out.2.2.2.2.2.2.2.1, below_keeps hb _ _ HVA.out.2.2.2.2.2.2.2.2.1, below_keeps hb _ _ HVA.out.2.2.2.2.2.2.2.2.2.1, below_keeps hb _ _ HVA.out.2.2.2.2.2.2.2.2.2.2.1, below_keeps hb _ _ HVA.out.2.2.2.2.2.2.2.2.2.2.2.1, below_keeps hb _ _ HVA.out.2.2.2.2.2.2.2.2.2.2.2.2⟩⟩
              clear hb
              go_wp2_with fail
              refine HK12.out _ _ HVA.out ?_
              clear HK12 K12
              intro _
              refine seqH4 (v := ?v60) ?ht60 ?hy60 ?hr60
              case ht60 => rfl
              case hy60 => (intro w hw; go_simp; all_goals rfl)
              simp only [Act.put, List.setIfInBounds_toArray, List.set_cons_zero, List.set_cons_succ]
              refine seqH0 (v := ?v61) ?hy61 ?hr61
              case hy61 => (intro w hw; go_simp; all_goals rfl)
              simp only [Act.put, List.setIfInBounds_toArray, List.set_cons_zero, List.set_cons_succ]
              refine seqH0 (v := ?v62) ?hy62 ?hr62
              case hy62 => (intro w hw; go_simp; all_goals rfl)
              simp only [Act.put, List.setIfInBounds_toArray, List.set_cons_zero, List.set_cons_succ]
              refine seqH_end ?_
              have HE := hid (HB.out.trans (HVA.out.1.mono HB.out.size))
              go_wp2_with fail
              go_ret
              exact ⟨by simp; try decide +kernel, HE.out⟩
theorem law15_AlgebraLaws' {w : World} {sv va vb vc mv : Value} {s : List Mes} : {d : Nat} → {a b c : M d} → {ws : List (List Int)} → SchemaAt w sv s → (root : Int) → MsgAt d w va a → MsgAt d w vb b → MsgAt d w vc c → WaysAt w mv ws → LightW ws → mwt d a ≤ 1099511627776 → mwt d b ≤ 1099511627776 → mwt d c ≤ 1099511627776 →
    Calls Tryz.prog 5 #[sv, .int .i64 root, va, vb, vc, mv] w fun e w' => e = .returned (.bool true) ∧ Below w.heap.size w w'
  | 0, _, _, _, _, _, _, h, _, _, _, _, _, _, _ => h.elim
  | _ + 1, _, _, _, _, hS, root, ha, hb, hc, hM, hL, h1, h2, h3 => law15_AlgebraLaws hS root ha hb hc hM hL h1 h2 h3
end Go.Proofs.YtaefpjecalnbcaaGreat
