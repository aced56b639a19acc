/- darningref13.Under; darninglaw13.Many. Plain laws: two meanings alike (sameB), a meaning's depth (depthM); as lists are gone through. No condition. darningref14.Same, SameValue of one meaning twice: true. No condition. -/
import Derived.Test.YtaefpjecalnbcaaGreatZ07
import Derived.Test.YtaefpjecalnbcaaGreatZ09
import Derived.Test.YtaefpjecalnbcaaGreatZ10
import Derived.Test.YtaefpjecalnbcaaGreatZ29
import Derived.StillTailTactics
import Derived.Deep.CutBlock
import Derived.Deep.CutRange
namespace Go.Proofs.YtaefpjecalnbcaaGreat
open Go.RowKit
set_option maxRecDepth 100000 in
set_option maxHeartbeats 4000000 in
theorem ref13_Under {w : World} {v : Value} {m : List (List Int)} (h : WaysAt w v m) (hL : LightW m) (x : Int) :
    Calls Tryz.prog 34 #[v, .int .i64 x] w fun e w' => ∃ v', e = .returned v' ∧ WaysAt w' v' (underW m x) ∧ Below w.heap.size w w' := by
  have HML := hid hL
  obtain ⟨w1, rfl⟩ : ∃ w1 : World, w1 = w := ⟨_, rfl⟩
  obtain ⟨-, a2, c2, rfl, -, hat⟩ := h.open
  obtain ⟨n, HN⟩ : ∃ n, Hid (n = m.length) := ⟨_, rfl⟩
  rw [← HN.out]
  have hn : n ≤ 1099511627776 := by rw [HN.out]; exact hL.1
  have HAT := hid hat
  clear h hL hat
  go_enter Tryz.func34, Tryz.ntmps34
  go_wp2_with fail
  go_loopw [5, 6] (fun v6 v14 wr => ∃ (k : Nat) (o : List (List Int)), v14 = .int .i64 k ∧ k ≤ n ∧ Hid (RowsOwn WayP 68 1 w1.heap.size w1.heap.size wr v6 o ∧ o.length ≤ k ∧ o ++ underW (m.drop k) x = underW m x ∧ Below w1.heap.size w1 wr)) (fun _ v14 _ => n - (intOf v14).toNat)
  case atStart => exact ⟨0, [], rfl, by omega, RowsOwn.nil _ _ _ _ _ _, by simp, rfl, Below.refl _ _⟩
  case round =>
    obtain ⟨k, o, rfl, hk, HI⟩ := hrel
    obtain ⟨oa, oc, hoe⟩ := HI.out.1.form
    obtain ⟨j, HJ⟩ : ∃ j, Hid (j = o.length) := ⟨_, rfl⟩
    rw [← HJ.out] at hoe
    subst hoe
    have hjk : j ≤ k := by rw [HJ.out]; exact HI.out.2.1
    by_cases hlt : k < n
    · obtain ⟨y, hy⟩ := way_get HN.out hlt
      obtain ⟨b, q, ya, yc, ha, g0, hY⟩ := HAT.out k y hy
      replace g0 := below_keeps HI.out.2.2.2 _ _ g0
      have hix := index_run1 Tryz.underlying28 size_ints ha k hlt (cap := c2)
      have HD := hid (drop_at hy)
      have HYL : Hid (y.length ≤ 17592186044416) := HML.out.2 y (List.mem_of_getElem? hy)
      obtain ⟨q2, HQ2⟩ : ∃ q2, Hid (q2 = y.length) := ⟨_, rfl⟩
      rw [← HQ2.out] at g0 hY
      obtain ⟨-, ya', yc', hye, -, hyat⟩ := hY.open
      rw [← HQ2.out] at hye
      cases hye
      have HY := hid hY
      have HY64 := hid hY.2
      clear hy ha hY
      by_cases h1 : 1 < q2
      · obtain ⟨z, hz⟩ := int_get HQ2.out (by omega : 0 < q2)
        obtain ⟨hz64, b2, o2, ha2, g2⟩ := hyat 0 z hz
        have hix2 := index_0 Tryz.underlying68 size_int ha2 (by omega : 0 < q2) (cap := yc)
        replace g2 := below_keeps HI.out.2.2.2 _ _ g2
        rw [Nat.add_zero] at g2
        by_cases hzx : z = x
        · subst hzx
          have HTK := hid (under_take (m.drop (k + 1)) (by rw [← HQ2.out]; exact h1) hz)
          obtain ⟨ta, tc, hsl, hT⟩ := HY.out.l HQ2.out 1 (by omega)
          have hsl' : ∀ W, (Instr.slice 68 (.slice ya q2 yc) (some (.int .i64 1)) none none).run Tryz.prog W = .ok (.slice ta (q2 - 1) tc) W := hsl
          obtain ⟨a', c', w6, hr, hO6, hB6, hB7⟩ := (HI.out.1).step (Below.refl _ _) (by decide) (Nat.le_refl _) HI.out.2.2.2.size HJ.out.symm (G := Tryz.prog) 28 (.slice none 0 0) 24 under_ways info_ints rfl #[.slice ta (q2 - 1) tc] rfl (by intro u hu; simp at hu; subst hu; rfl) (y.drop 1)
            (fun w' hw' => ⟨_, rfl, hT.keep (keep_old fun b hb => (hw' b (Nat.lt_of_lt_of_le hb HI.out.2.2.2.size) (.inl hb)).trans (HI.out.2.2.2.block b hb))⟩) (by omega) (by decide)
          have HO6 := hid hO6
          have HB7 := hid hB7
          have hq1 : ((q2 - 1 : Nat) : Int) = (q2 : Int) - 1 := by omega
          clear hO6 hB6 hB7 hyat hz ha2 hT hsl hq1
          go_wp2_with (at_builtin; refine wpList_append_eq rfl _ _ _ rfl _ _ rfl rfl hr ?_)
          go_roundw
          case rel => exact ⟨k + 1, _, by go_num, hlt, HO6.out, by rw [List.length_append]; have := HI.out.2.1; simp; omega, by rw [← HI.out.2.2.1, HD.out, HTK.out, List.append_assoc]; rfl, HI.out.2.2.2.trans HB7.out⟩
          case measure => simp [intOf]; omega
        · have HTK := hid (under_skip2 (m.drop (k + 1)) hz hzx)
          have e1 : (z == x) = false := by simpa using hzx
          clear hzx hyat hz ha2
          go_wp2_with fail
          go_roundw
          case rel => exact ⟨k + 1, o, by go_num, hlt, HI.out.1, by have := HI.out.2.1; omega, by rw [← HI.out.2.2.1, HD.out, HTK.out], HI.out.2.2.2⟩
          case measure => simp [intOf]; omega
      · have HTK := hid (under_skip1 (x := x) (m.drop (k + 1)) (by rw [← HQ2.out]; exact h1))
        have e1 : decide ((1 : Int) < q2) = false := decide_eq_false (by omega)
        clear hyat h1
        go_wp2_with fail
        go_roundw
        case rel => exact ⟨k + 1, o, by go_num, hlt, HI.out.1, by have := HI.out.2.1; omega, by rw [← HI.out.2.2.1, HD.out, HTK.out], HI.out.2.2.2⟩
        case measure => simp [intOf]; omega
    · obtain rfl : k = n := by omega
      have HEN : Hid (o = underW m x) := by
        have := HI.out.2.2.1
        rw [List.drop_eq_nil_of_le (by rw [← HN.out]; omega)] at this
        rw [Hid, ← this]; simp [underW]
      have hWO := RowsOwn.at HI.out.1 (by have := HI.out.2.1; omega) (w' := wr) (fun _ _ _ => rfl)
      rw [HEN.out] at hWO
      have HWO := hid hWO
      clear hlt hWO
      go_wp2_with fail
      go_ret
      exact ⟨_, rfl, HWO.out, HI.out.2.2.2⟩
def SomeBool (w : World) (e : Ending) (w' : World) : Prop := (∃ b, e = .returned (.bool b)) ∧ w = w'
theorem SomeBool.mk {w : World} {e : Ending} (b : Bool) (h : e = .returned (.bool b)) : SomeBool w e w := ⟨⟨b, h⟩, rfl⟩
set_option maxRecDepth 100000 in
set_option maxHeartbeats 4000000 in
theorem law13_Many {w : World} {v : Value} {ls : List (List Int)} (h : WaysAt w v ls) :
    Calls Tryz.prog 9 #[v] w (SomeBool w) := by
  obtain ⟨hl, a, c, rfl, -, hat⟩ := h.open
  obtain ⟨n, HN⟩ : ∃ n, Hid (n = ls.length) := ⟨_, rfl⟩
  rw [← HN.out] at hl ⊢
  have HAT := hid hat
  clear h hat
  go_enter Tryz.func9, Tryz.ntmps9
  go_wp2_with fail
  go_loop [3, 4] (fun v3 v4 => ∃ (k : Nat) (z : Int), v4 = .int .i64 k ∧ k ≤ n ∧ v3 = .int .i64 z) (fun _ v4 => n - (intOf v4).toNat)
  case atStart => exact ⟨0, 0, rfl, by omega, rfl⟩
  case round =>
    obtain ⟨k, z, rfl, hk, rfl⟩ := hrel
    by_cases hlt : k < n
    · obtain ⟨y, hy⟩ := way_get HN.out hlt
      obtain ⟨b, q, ya, yc, ha, g0, hY⟩ := HAT.out k y hy
      have hix := index_run1 Tryz.underlying28 size_ints ha k hlt (cap := c)
      obtain ⟨q2, HQ2⟩ : ∃ q2, Hid (q2 = y.length) := ⟨_, rfl⟩
      rw [← HQ2.out] at g0
      clear hy ha hY
      go_wp2_with fail
      go_round
      case rel => exact ⟨k + 1, _, by go_num, hlt, rfl⟩
      case measure => simp [intOf]; omega
    · obtain rfl : k = n := by omega
      go_wp2_with fail
      go_ret
      exact SomeBool.mk _ rfl
end Go.Proofs.YtaefpjecalnbcaaGreat
namespace Go.Proofs.YtaefpjecalnbcaaGreat
open Go.RowKit
theorem bytes_beq (x y : List UInt8) : ((⟨x.toArray⟩ : ByteArray).toList == (⟨y.toArray⟩ : ByteArray).toList) = decide (x = y) := by
  rw [Bool.eq_iff_iff]
  simp [ByteArray.toList_eq]
theorem formM : ∀ {d : Nat} {w : World} {v : Value} {x : M d}, MsgAt d w v x → ∃ a1 n1 c1 a2 n2 c2, v = .agg #[.slice a1 n1 c1, .slice a2 n2 c2]
  | 0, _, _, _, h => h.elim
  | d + 1, _, _, _, h => by
    obtain ⟨vv, uv, rfl, hV, hU⟩ := h
    obtain ⟨-, va, vc, rfl, -, -⟩ := hV.open
    obtain ⟨-, ua, uc, rfl, -, -⟩ := hU.open
    exact ⟨_, _, _, _, _, _, rfl⟩
theorem formV {d : Nat} {w : World} {m : Int} {v1 v2 v3 : Value} {x : Val (M d)} (h : ValAt (MsgAt d) w (.agg #[.int .i64 m, v1, v2, v3]) x) : ∃ a1 n1 c1 a2 n2 c2 a3 n3 c3, v1 = .slice a1 n1 c1 ∧ v2 = .slice a2 n2 c2 ∧ v3 = .slice a3 n3 c3 := by
  obtain ⟨wv, tv, sv, e, -, hW, hT, hS⟩ := h
  cases e
  obtain ⟨-, wa, wc, rfl, -, -⟩ := hW.open
  obtain ⟨-, ta, tc, rfl, -, -⟩ := hT.open
  obtain ⟨-, sa, sc, rfl, -, -⟩ := hS.open
  exact ⟨_, _, _, _, _, _, _, _, _, rfl, rfl, rfl⟩
end Go.Proofs.YtaefpjecalnbcaaGreat
namespace Go.Proofs.YtaefpjecalnbcaaGreat
open Go.RowKit
theorem size_rmsg' (w : World) : (sizeOf 35).run Tryz.prog w = .ok 2 w := by kernel_rfl
theorem size_rval' (w : World) : (sizeOf 71).run Tryz.prog w = .ok 4 w := by kernel_rfl
def RSameOk (d : Nat) : Prop := ∀ (w : World) (v u : Value) (x : M d), MsgAt d w v x → MsgAt d w u x →
  Calls Tryz.prog 14 #[v, u] w fun e w' => e = .returned (.bool true) ∧ Below w.heap.size w w'
set_option maxRecDepth 100000 in
set_option maxHeartbeats 4000000 in
theorem ref14_SameValue_of {d : Nat} (ih : RSameOk d) {w : World} {v u : Value} {x : Val (M d)} (h : ValAt (MsgAt d) w v x) (hu : ValAt (MsgAt d) w u x) :
    Calls Tryz.prog 30 #[v, u] w fun e w' => e = .returned (.bool true) ∧ Below w.heap.size w w' := by
  obtain ⟨wv, tv, sv, rfl, hnum, hW, hT, hS⟩ := h
  obtain ⟨wv2, tv2, sv2, rfl, -, hW2, hT2, hS2⟩ := hu
  obtain ⟨hwl, wa, wc, rfl, -, hwa⟩ := hW.open
  obtain ⟨htl, ta, tc, rfl, -, hta⟩ := hT.open
  obtain ⟨hsl, sa, sc, rfl, -, hsa⟩ := hS.open
  obtain ⟨-, wa2, wc2, rfl, -, hwa2⟩ := hW2.open
  obtain ⟨-, ta2, tc2, rfl, -, hta2⟩ := hT2.open
  obtain ⟨-, sa2, sc2, rfl, -, hsa2⟩ := hS2.open
  obtain ⟨wn, HWN⟩ : ∃ n, Hid (n = x.words.length) := ⟨_, rfl⟩
  obtain ⟨tn, HTN⟩ : ∃ n, Hid (n = x.texts.length) := ⟨_, rfl⟩
  obtain ⟨sn, HSN⟩ : ∃ n, Hid (n = x.subs.length) := ⟨_, rfl⟩
  rw [← HWN.out] at hwl ⊢
  rw [← HTN.out] at htl ⊢
  rw [← HSN.out] at hsl ⊢
  have HWA := hid (And.intro hwa hwa2)
  have HTA := hid (And.intro hta hta2)
  have HSA := hid (And.intro hsa hsa2)
  have HIH := hid ih
  generalize x.num = num at *
  obtain ⟨A, HA⟩ : ∃ b, Hid (b = w.heap.size) := ⟨_, rfl⟩
  obtain ⟨B, HB⟩ : ∃ b, Hid (b = w.heap.size + 1) := ⟨_, rfl⟩
  obtain ⟨W0, HW0⟩ : ∃ W0, Hid (W0 = (w.alloc (.cells #[.int .i64 num, .slice wa wn wc, .slice ta tn tc, .slice sa sn sc] 71)).alloc (.cells #[.int .i64 num, .slice wa2 wn wc2, .slice ta2 tn tc2, .slice sa2 sn sc2] 71)) := ⟨_, rfl⟩
  have hb0 : Below w.heap.size w W0 := by rw [HW0.out]; (repeat (first | with_reducible exact Below.refl _ _ | with_reducible refine Below.setCell ?_ (by first | omega | (simp; omega) | (simp; done)) _ | with_reducible refine Below.alloc ?_ (by first | omega | (simp; omega) | (simp; done)) _ | with_reducible refine below_drewN ?_ _ | with_reducible refine Below.drew ?_))
  have hx0 : Blk W0 A [.int .i64 num, .slice wa wn wc, .slice ta tn tc, .slice sa sn sc] 71 := by rw [HW0.out, HA.out]; exact (Blk.new w [.int .i64 num, .slice wa wn wc, .slice ta tn tc, .slice sa sn sc] _).alloc _
  have hy0 : Blk W0 B [.int .i64 num, .slice wa2 wn wc2, .slice ta2 tn tc2, .slice sa2 sn sc2] 71 := by rw [HW0.out, HB.out]; exact Blk.new' _ [.int .i64 num, .slice wa2 wn wc2, .slice ta2 tn tc2, .slice sa2 sn sc2] _ _ (by simp)
  have HB0 := hid hb0
  have HX0 := hid (And.intro hx0 hy0)
  have cx0 := hx0.cell 0 _ rfl
  have cx1 := hx0.cell 1 _ rfl
  have cx2 := hx0.cell 2 _ rfl
  have cx3 := hx0.cell 3 _ rfl
  have cy0 := hy0.cell 0 _ rfl
  have cy1 := hy0.cell 1 _ rfl
  have cy2 := hy0.cell 2 _ rfl
  have cy3 := hy0.cell 3 _ rfl
  have clx := hx0.lt
  have cly := hy0.lt
  clear hwa hta hsa hwa2 hta2 hsa2 ih hW hT hS hW2 hT2 hS2 hb0 hx0 hy0
  go_enter Tryz.func30, Tryz.ntmps30
  go_upto_region 1 with fail
  rw [← HW0.out, ← HB.out, ← HA.out]
  go_wp2_with fail
  go_loopw [5] (fun v5 wr => ∃ i : Nat, v5 = .int .i64 (i : Int) ∧ i ≤ wn ∧ (∃ kw, wr = W0.drewN kw)) (fun v5 _ => wn - (intOf v5).toNat)
  case atStart => exact ⟨0, rfl, by omega, 0, rfl⟩
  case round =>
    obtain ⟨i, rfl, hi, kw, rfl⟩ := hrel
    by_cases hlt : i < wn
    · have hti : x.words[i]? = some (x.words[i]'(by rw [← HWN.out]; exact hlt)) := List.getElem?_eq_getElem _
      generalize x.words[i]'(by rw [← HWN.out]; exact hlt) = t at hti
      obtain ⟨-, g, o, ha, g0⟩ := HWA.out.1 i t hti
      obtain ⟨-, g', o', ha', g0'⟩ := HWA.out.2 i t hti
      replace g0 := below_keeps HB0.out _ _ g0
      replace g0' := below_keeps HB0.out _ _ g0'
      have hix := index_run1 Tryz.underlying64 size_u64 ha i hlt (cap := wc)
      have hix' := index_run1 Tryz.underlying64 size_u64 ha' i hlt (cap := wc2)
      clear ha ha' hti
      unfold wordV at g0 g0'
      go_wp2_with fail
      go_quiet (fail)
      go_wp2_with fail
      go_roundw
      case rel => exact ⟨i + 1, by go_num, hlt, _, rfl⟩
      case measure => simp [intOf]; omega
    · obtain rfl : i = wn := by omega
      go_wp2_with fail
      go_loopw [6] (fun v6 wr => ∃ i : Nat, v6 = .int .i64 (i : Int) ∧ i ≤ tn ∧ (∃ kw, wr = W0.drewN kw)) (fun v6 _ => tn - (intOf v6).toNat)
      case atStart => exact ⟨0, rfl, by omega, kw, rfl⟩
      case round =>
        obtain ⟨j, rfl, hj, kx, rfl⟩ := hrel
        by_cases hlj : j < tn
        · have hti : x.texts[j]? = some (x.texts[j]'(by rw [← HTN.out]; exact hlj)) := List.getElem?_eq_getElem _
          generalize x.texts[j]'(by rw [← HTN.out]; exact hlj) = t at hti
          obtain ⟨-, g, o, ha, g0⟩ := HTA.out.1 j t hti
          obtain ⟨-, g', o', ha', g0'⟩ := HTA.out.2 j t hti
          replace g0 := below_keeps HB0.out _ _ g0
          replace g0' := below_keeps HB0.out _ _ g0'
          have hix := index_run1 Tryz.underlying25 size_str ha j hlj (cap := tc)
          have hix' := index_run1 Tryz.underlying25 size_str ha' j hlj (cap := tc2)
          have hb1 : ((⟨t.toArray⟩ : ByteArray).toList == (⟨t.toArray⟩ : ByteArray).toList) = true := by rw [bytes_beq]; simp
          have hb2 : ((⟨t.toArray⟩ : ByteArray).toList != (⟨t.toArray⟩ : ByteArray).toList) = false := by rw [bne, hb1]; rfl
          clear ha ha' hti
          unfold strV at g0 g0'
          generalize (⟨t.toArray⟩ : ByteArray) = T at *
          go_wp2_with fail
          go_quiet (fail)
          go_wp2_with fail
          go_roundw
          case rel => exact ⟨j + 1, by go_num, hlj, _, rfl⟩
          case measure => simp [intOf]; omega
        · obtain rfl : j = tn := by omega
          have HB1 : Hid (Below w.heap.size w (W0.drewN kx)) := below_drewN HB0.out kx
          have HX1 : Hid (Blk (W0.drewN kx) A [.int .i64 num, .slice wa i wc, .slice ta j tc, .slice sa sn sc] 71 ∧ Blk (W0.drewN kx) B [.int .i64 num, .slice wa2 i wc2, .slice ta2 j tc2, .slice sa2 sn sc2] 71) := HX0.out
          obtain ⟨W1, HW1⟩ : ∃ W1, Hid (W1 = W0.drewN kx) := ⟨_, rfl⟩
          rw [← HW1.out] at HB1 HX1
          go_wp2_with fail
          rw [← HW1.out]
          clear cx0 cx1 cx2 cx3 cy0 cy1 cy2 cy3 clx cly
          go_loopw [7] (fun v7 wr => ∃ i : Nat, v7 = .int .i64 (i : Int) ∧ i ≤ sn ∧ Hid (Below W1.heap.size W1 wr)) (fun v7 _ => sn - (intOf v7).toNat)
          case atStart => exact ⟨0, rfl, by omega, Below.refl _ _⟩
          case round =>
            obtain ⟨k, rfl, hk, HG⟩ := hrel
            have hx := HX1.out.1.below HG.out
            have hy := HX1.out.2.below HG.out
            have cx3 := hx.cell 3 _ rfl
            have cy3 := hy.cell 3 _ rfl
            have clx := hx.lt
            have cly := hy.lt
            have hbw : Below w.heap.size w wr := HB1.out.trans (HG.out.mono HB1.out.size)
            by_cases hlk : k < sn
            · have hti : x.subs[k]? = some (x.subs[k]'(by rw [← HSN.out]; exact hlk)) := List.getElem?_eq_getElem _
              generalize x.subs[k]'(by rw [← HSN.out]; exact hlk) = y at hti
              obtain ⟨g, o, u1, u2, ha, g0, g1, hY⟩ := HSA.out.1 k y hti
              obtain ⟨g', o', u1', u2', ha', g0', g1', hY'⟩ := HSA.out.2 k y hti
              obtain ⟨q1, s1, t1, q2, s2, t2, e3⟩ := formM hY
              cases e3
              obtain ⟨q3, s3, t3, q4, s4, t4, e4⟩ := formM hY'
              cases e4
              have hkr := below_keeps hbw
              replace g0 := hkr _ _ g0
              replace g1 := hkr _ _ g1
              replace g0' := hkr _ _ g0'
              replace g1' := hkr _ _ g1'
              have hgl := World.block_lt_of_cell? wr _ g0
              have hgl' := World.block_lt_of_cell? wr _ g0'
              have hix := index_run Tryz.underlying43 size_rmsg' ha k hlk (cap := sc)
              have hix' := index_run Tryz.underlying43 size_rmsg' ha' k hlk (cap := sc2)
              have HC := hid (HIH.out wr.drew _ _ y ((hY.below hbw).keep fun _ _ h => h) ((hY'.below hbw).keep fun _ _ h => h))
              clear ha ha' hti hY hY' hkr hx hy hbw
              go_wp2_with fail
              go_still_tail 10, (by kernel_rfl)
              change wpList _ _ _ _ _ wr.drew
              go_wp2_with fail
              refine HC.out.mono ?_
              rintro e w5 ⟨rfl, hb5⟩
              have HG5 : Hid (Below W1.heap.size W1 w5) := HG.out.trans (((Below.refl wr.heap.size wr).drew.trans hb5).mono HG.out.size)
              clear hb5
              go_wp2_with fail
              go_roundw
              case rel => exact ⟨k + 1, by go_num, hlk, HG5.out⟩
              case measure => simp [intOf]; omega
            · have HBE := hid hbw
              clear hx hy hbw
              go_wp2_with fail
              go_ret
              exact ⟨rfl, HBE.out⟩
set_option maxRecDepth 100000 in
set_option maxHeartbeats 4000000 in
theorem ref14_Same : ∀ (d : Nat), RSameOk d := by
  intro d
  induction d with
  | zero => exact fun _ _ _ _ h _ => h.elim
  | succ d ih =>
    intro w v u x h hu
    obtain ⟨vv, uv, rfl, hS, hT⟩ := h
    obtain ⟨vv2, uv2, rfl, hS2, hT2⟩ := hu
    obtain ⟨htl, ta, tc, rfl, -, hta⟩ := hT.open
    obtain ⟨hsl, sa, sc, rfl, -, hsa⟩ := hS.open
    obtain ⟨-, ta2, tc2, rfl, -, hta2⟩ := hT2.open
    obtain ⟨-, sa2, sc2, rfl, -, hsa2⟩ := hS2.open
    obtain ⟨tn, HTN⟩ : ∃ n, Hid (n = (M.unk x).length) := ⟨_, rfl⟩
    obtain ⟨sn, HSN⟩ : ∃ n, Hid (n = (M.vals x).length) := ⟨_, rfl⟩
    rw [← HTN.out] at htl ⊢
    rw [← HSN.out] at hsl ⊢
    have HTA := hid (And.intro hta hta2)
    have HSA := hid (And.intro hsa hsa2)
    obtain ⟨vs, HVS⟩ : ∃ vs, Hid (vs = M.vals x) := ⟨_, rfl⟩
    obtain ⟨ts, HTS⟩ : ∃ ts, Hid (ts = M.unk x) := ⟨_, rfl⟩
    rw [← HVS.out] at HSN HSA
    rw [← HTS.out] at HTN HTA
    have HIH := hid ih
    obtain ⟨A, HA⟩ : ∃ b, Hid (b = w.heap.size) := ⟨_, rfl⟩
    obtain ⟨B, HB⟩ : ∃ b, Hid (b = w.heap.size + 1) := ⟨_, rfl⟩
    obtain ⟨W0, HW0⟩ : ∃ W0, Hid (W0 = (w.alloc (.cells #[.slice sa sn sc, .slice ta tn tc] 35)).alloc (.cells #[.slice sa2 sn sc2, .slice ta2 tn tc2] 35)) := ⟨_, rfl⟩
    have hb0 : Below w.heap.size w W0 := by rw [HW0.out]; (repeat (first | with_reducible exact Below.refl _ _ | with_reducible refine Below.setCell ?_ (by first | omega | (simp; omega) | (simp; done)) _ | with_reducible refine Below.alloc ?_ (by first | omega | (simp; omega) | (simp; done)) _ | with_reducible refine below_drewN ?_ _ | with_reducible refine Below.drew ?_))
    have hx0 : Blk W0 A [.slice sa sn sc, .slice ta tn tc] 35 := by rw [HW0.out, HA.out]; exact (Blk.new w [.slice sa sn sc, .slice ta tn tc] _).alloc _
    have hy0 : Blk W0 B [.slice sa2 sn sc2, .slice ta2 tn tc2] 35 := by rw [HW0.out, HB.out]; exact Blk.new' _ [.slice sa2 sn sc2, .slice ta2 tn tc2] _ _ (by simp)
    have HB0 := hid hb0
    have HX0 := hid (And.intro hx0 hy0)
    have cx0 := hx0.cell 0 _ rfl
    have cx1 := hx0.cell 1 _ rfl
    have cy0 := hy0.cell 0 _ rfl
    have cy1 := hy0.cell 1 _ rfl
    have clx := hx0.lt
    have cly := hy0.lt
    clear hta hsa hta2 hsa2 ih hT hS hT2 hS2 hb0 hx0 hy0 HVS HTS
    clear x
    go_enter Tryz.func14, Tryz.ntmps14
    go_upto_region 1 with fail
    rw [← HW0.out, ← HB.out, ← HA.out]
    go_wp2_with fail
    go_loopw [5] (fun v5 wr => ∃ i : Nat, v5 = .int .i64 (i : Int) ∧ i ≤ sn ∧ Hid (Below W0.heap.size W0 wr)) (fun v5 _ => sn - (intOf v5).toNat)
    case atStart => exact ⟨0, rfl, by omega, Below.refl _ _⟩
    case round =>
      obtain ⟨k, rfl, hk, HG⟩ := hrel
      have hx := HX0.out.1.below HG.out
      have hy := HX0.out.2.below HG.out
      have cx0 := hx.cell 0 _ rfl
      have cy0 := hy.cell 0 _ rfl
      have cx1 := hx.cell 1 _ rfl
      have cy1 := hy.cell 1 _ rfl
      have clx := hx.lt
      have cly := hy.lt
      have hbw : Below w.heap.size w wr := HB0.out.trans (HG.out.mono HB0.out.size)
      by_cases hlk : k < sn
      · have hti : vs[k]? = some (vs[k]'(by rw [← HSN.out]; exact hlk)) := List.getElem?_eq_getElem _
        generalize vs[k]'(by rw [← HSN.out]; exact hlk) = y at hti
        obtain ⟨g, o, u1, u2, u3, ha, g0, g1, g2, g3, hY⟩ := HSA.out.1 k y hti
        obtain ⟨g', o', u1', u2', u3', ha', g0', g1', g2', g3', hY'⟩ := HSA.out.2 k y hti
        obtain ⟨p1, i1, j1, p2, i2, j2, p3, i3, j3, rfl, rfl, rfl⟩ := formV hY
        obtain ⟨p4, i4, j4, p5, i5, j5, p6, i6, j6, rfl, rfl, rfl⟩ := formV hY'
        have hkr := below_keeps hbw
        replace g0 := hkr _ _ g0
        replace g1 := hkr _ _ g1
        replace g2 := hkr _ _ g2
        replace g3 := hkr _ _ g3
        replace g0' := hkr _ _ g0'
        replace g1' := hkr _ _ g1'
        replace g2' := hkr _ _ g2'
        replace g3' := hkr _ _ g3'
        have hgl := World.block_lt_of_cell? wr _ g0
        have hgl' := World.block_lt_of_cell? wr _ g0'
        have hix := index_run Tryz.underlying33 size_rval' ha k hlk (cap := sc)
        have hix' := index_run Tryz.underlying33 size_rval' ha' k hlk (cap := sc2)
        have HC := hid (ref14_SameValue_of HIH.out (VMsg.keep (w' := wr.drew) (VMsg.below hY hbw) fun _ _ h => h) (VMsg.keep (w' := wr.drew) (VMsg.below hY' hbw) fun _ _ h => h))
        generalize y.num = num at *
        clear ha ha' hti hY hY' hkr hx hy hbw
        go_wp2_with fail
        go_still_tail 10, (by kernel_rfl)
        change wpList _ _ _ _ _ wr.drew
        go_wp2_with fail
        refine HC.out.mono ?_
        rintro e w5 ⟨rfl, hb5⟩
        have HG5 : Hid (Below W0.heap.size W0 w5) := HG.out.trans (((Below.refl wr.heap.size wr).drew.trans hb5).mono HG.out.size)
        clear hb5
        go_wp2_with fail
        go_roundw
        case rel => exact ⟨k + 1, by go_num, hlk, HG5.out⟩
        case measure => simp [intOf]; omega
      · obtain rfl : k = sn := by omega
        have HX1 := hid (And.intro hx hy)
        have HB1 := hid hbw
        obtain ⟨W1, rfl⟩ : ∃ W, W = wr := ⟨_, rfl⟩
        clear hx hy hbw
        go_wp2_with fail
        go_loopw [6] (fun v6 wr => ∃ i : Nat, v6 = .int .i64 (i : Int) ∧ i ≤ tn ∧ (∃ kw, wr = W1.drewN kw)) (fun v6 _ => tn - (intOf v6).toNat)
        case atStart => exact ⟨0, rfl, by omega, 0, rfl⟩
        case round =>
          obtain ⟨j, rfl, hj, kx, rfl⟩ := hrel
          by_cases hlj : j < tn
          · have hti : ts[j]? = some (ts[j]'(by rw [← HTN.out]; exact hlj)) := List.getElem?_eq_getElem _
            generalize ts[j]'(by rw [← HTN.out]; exact hlj) = t at hti
            obtain ⟨-, g, o, ha, g0⟩ := HTA.out.1 j t hti
            obtain ⟨-, g', o', ha', g0'⟩ := HTA.out.2 j t hti
            replace g0 := below_keeps HB1.out _ _ g0
            replace g0' := below_keeps HB1.out _ _ g0'
            have hix := index_run1 Tryz.underlying25 size_str ha j hlj (cap := tc)
            have hix' := index_run1 Tryz.underlying25 size_str ha' j hlj (cap := tc2)
            have hb1 : ((⟨t.toArray⟩ : ByteArray).toList == (⟨t.toArray⟩ : ByteArray).toList) = true := by rw [bytes_beq]; simp
            have hb2 : ((⟨t.toArray⟩ : ByteArray).toList != (⟨t.toArray⟩ : ByteArray).toList) = false := by rw [bne, hb1]; rfl
            clear ha ha' hti
            unfold strV at g0 g0'
            generalize (⟨t.toArray⟩ : ByteArray) = T at *
            go_wp2_with fail
            go_quiet (fail)
            go_wp2_with fail
            go_roundw
            case rel => exact ⟨j + 1, by go_num, hlj, _, rfl⟩
            case measure => simp [intOf]; omega
          · have HBE := hid (below_drewN HB1.out kx)
            go_wp2_with fail
            go_ret
            exact ⟨rfl, HBE.out⟩
end Go.Proofs.YtaefpjecalnbcaaGreat
