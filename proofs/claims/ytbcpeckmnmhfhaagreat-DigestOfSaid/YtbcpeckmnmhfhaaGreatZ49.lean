/- darningref27.Same of two sheets that are the same: true. No condition. Plain laws: the codes of a check are below 256 (vcheck_code). No condition. -/
import Derived.Test.YtbcpeckmnmhfhaaGreatZ18
import Derived.Test.YtbcpeckmnmhfhaaGreatZ45
namespace Go.Proofs.YtbcpeckmnmhfhaaGreat
open Go.RowKit Go.Shelf
def RShSame (d : Nat) : Prop := ∀ (w : World) (v u : Value) (x : Sh d), RShAt d w v x → RShAt d w u x →
  Calls Tryz.prog 14 #[v, u] w fun e w' => e = .returned (.bool true) ∧ Below w.heap.size w w'
theorem size_rsh (w : World) : (sizeOf 49).run Tryz.prog w = .ok 5 w := by kernel_rfl
theorem size_rshs (w : World) : (sizeOf 93).run Tryz.prog w = .ok 1 w := by kernel_rfl
theorem opt_some {d : Nat} {w : World} {u : Value} {y : Sh d} (h : OptP (RShAt d) w [u] (some y)) : ∃ b o c g k x1 x2 x3 x4 x5 x6 x7 x8 x9, u = .slice (some ⟨b, o, none⟩) 1 c ∧
    (w.cell? ⟨b, o, none⟩ = some (.int .u64 g) ∧ w.cell? ⟨b, o + 1, none⟩ = some (.int .u64 k) ∧ w.cell? ⟨b, o + 2, none⟩ = some (.slice x1 x2 x3) ∧ w.cell? ⟨b, o + 3, none⟩ = some (.slice x4 x5 x6) ∧ w.cell? ⟨b, o + 4, none⟩ = some (.slice x7 x8 x9)) ∧ RShAt d w (.agg #[.int .u64 g, .int .u64 k, .slice x1 x2 x3, .slice x4 x5 x6, .slice x7 x8 x9]) y := by
  obtain ⟨u', e, h⟩ := h
  injection e with e
  subst e
  obtain ⟨-, a, c, rfl, -, hat⟩ := RowsAt.open (by decide) h
  obtain ⟨b, o, r, rfl, hr, hc, hP⟩ := hat 0 y rfl
  obtain ⟨g, k, x1, x2, x3, x4, x5, x6, x7, x8, x9, e⟩ := hP.form
  injection e with e
  have e2 : r = [.int .u64 g, .int .u64 k, .slice x1 x2 x3, .slice x4 x5 x6, .slice x7 x8 x9] := by simpa using congrArg Array.toList e
  subst e2
  have h0 := hc 0 _ rfl
  have h1 := hc 1 _ rfl
  have h2 := hc 2 _ rfl
  have h3 := hc 3 _ rfl
  have h4 := hc 4 _ rfl
  rw [Nat.zero_mul, Nat.add_zero] at h0 h1 h2 h3 h4
  exact ⟨b, o, c, g, k, x1, x2, x3, x4, x5, x6, x7, x8, x9, rfl, ⟨h0, h1, h2, h3, h4⟩, hP⟩
theorem opt_none {d : Nat} {w : World} {u : Value} (h : OptP (RShAt d) w [u] none) : u = .slice none 0 0 := by
  obtain ⟨u', e, h⟩ := h
  injection e with e
  subst e
  exact h
/-- the i-th line of a sheet -/
theorem rsh_open {d : Nat} {w : World} {v : Value} {x : Sh (d + 1)} (h : RShAt (d + 1) w v x) : ∃ na nc da dc sa sc, v = .agg #[.int .u64 (Shd.dig x : Nat), .int .u64 (Shd.unk x : Nat), .slice na (Shd.lines x).length nc, .slice da (Shd.lines x).length dc, .slice sa (Shd.lines x).length sc] ∧ (Shd.lines x).length ≤ 140737488355328 ∧
    ∀ (i : Nat) (l : Lin (Sh d)), (Shd.lines x)[i]? = some l → ∃ nb no db d0 sb so u, na = some ⟨nb, no, none⟩ ∧ da = some ⟨db, d0, none⟩ ∧ sa = some ⟨sb, so, none⟩ ∧ w.cell? ⟨nb, no + i, none⟩ = some (.int .i64 l.num) ∧ w.cell? ⟨db, d0 + i, none⟩ = some (.int .u64 (l.dig : Nat)) ∧ w.cell? ⟨sb, so + i, none⟩ = some u ∧ OptP (RShAt d) w [u] l.sub := by
  obtain ⟨nv, dv, sv, rfl, h1, h2, h3⟩ := h
  obtain ⟨hl, na, nc, rfl, -, hn⟩ := h1.open
  obtain ⟨-, da, dc, rfl, -, hd⟩ := h2.open
  obtain ⟨-, sa, sc, rfl, -, hs⟩ := RowsAt.open (by decide) h3
  rw [List.length_map] at hl
  rw [List.length_map, List.length_map, List.length_map]
  refine ⟨na, nc, da, dc, sa, sc, rfl, hl, fun i l hi => ?_⟩
  obtain ⟨-, nb, no, e1, c1⟩ := hn i l.num (by rw [List.getElem?_map, hi]; rfl)
  obtain ⟨-, db, d0, e2, c2⟩ := hd i l.dig (by rw [List.getElem?_map, hi]; rfl)
  obtain ⟨sb, so, r, e3, hr, hc, u, rfl, hP⟩ := hs i l.sub (by rw [List.getElem?_map, hi]; rfl)
  have c3 := hc 0 _ rfl
  rw [Nat.mul_one, Nat.add_zero] at c3
  exact ⟨nb, no, db, d0, sb, so, u, e1, e2, e3, c1, c2, c3, u, rfl, hP⟩
set_option maxRecDepth 100000 in
set_option maxHeartbeats 16000000 in
theorem ref27_Same_step {d : Nat} (hs : RShSame d) : RShSame (d + 1) := by
  intro w v u x hv hu
  obtain ⟨na, nc, da, dc, sa, sc, rfl, hl, hat⟩ := rsh_open hv
  obtain ⟨na2, nc2, da2, dc2, sa2, sc2, rfl, -, hbt⟩ := rsh_open hu
  obtain ⟨ls, HLS⟩ : ∃ l, Hid (l = Shd.lines x) := ⟨_, rfl⟩
  rw [← HLS.out] at hat hbt hl ⊢
  obtain ⟨n, HN⟩ : ∃ n, Hid (n = ls.length) := ⟨_, rfl⟩
  rw [← HN.out] at hl ⊢
  obtain ⟨dg, HDG⟩ : ∃ n, Hid (n = Shd.dig x) := ⟨_, rfl⟩
  obtain ⟨uk, HUK⟩ : ∃ n, Hid (n = Shd.unk x) := ⟨_, rfl⟩
  rw [← HDG.out, ← HUK.out]
  obtain ⟨Q, HQ⟩ : ∃ Q : Ending → World → Prop, Hid (Q = fun e w' => e = .returned (.bool true) ∧ Below w.heap.size w w') := ⟨_, rfl⟩
  rw [← HQ.out]
  have HAT := hid hat
  have HBT := hid hbt
  have HRE := hid hs
  have e1 : ((dg : Int) != dg) = false := by simp
  have e2 : ((uk : Int) != uk) = false := by simp
  have e3 : ((n : Int) != n) = false := by simp
  obtain ⟨X, HX⟩ : ∃ X, Hid (X = w.heap.size) := ⟨_, rfl⟩
  obtain ⟨W1, HW1⟩ : ∃ W1, Hid (W1 = (w.alloc (.cells #[.int .u64 (dg : Int), .int .u64 (uk : Int), .slice na n nc, .slice da n dc, .slice sa n sc] 49)).alloc (.cells #[.int .u64 (dg : Int), .int .u64 (uk : Int), .slice na2 n nc2, .slice da2 n dc2, .slice sa2 n sc2] 49)) := ⟨_, rfl⟩
  have hb1 : Below w.heap.size w W1 := by rw [HW1.out]; exact ((Below.refl _ _).alloc (Nat.le_refl _) _).alloc (by simp) _
  have hx1 : Blk W1 X [.int .u64 (dg : Int), .int .u64 (uk : Int), .slice na n nc, .slice da n dc, .slice sa n sc] 49 := by
    rw [HW1.out, HX.out]
    exact (Blk.new w [.int .u64 (dg : Int), .int .u64 (uk : Int), .slice na n nc, .slice da n dc, .slice sa n sc] 49).below ((Below.refl _ _).alloc (Nat.le_refl _) _)
  have hy1 : Blk W1 (X + 1) [.int .u64 (dg : Int), .int .u64 (uk : Int), .slice na2 n nc2, .slice da2 n dc2, .slice sa2 n sc2] 49 := by
    have h := Blk.new (w.alloc (.cells #[.int .u64 (dg : Int), .int .u64 (uk : Int), .slice na n nc, .slice da n dc, .slice sa n sc] 49)) [.int .u64 (dg : Int), .int .u64 (uk : Int), .slice na2 n nc2, .slice da2 n dc2, .slice sa2 n sc2] 49
    rw [World.size_alloc, ← HX.out] at h
    rw [HW1.out]
    exact h
  have HB1 := hid hb1
  have HX1 := hid hx1
  have HY1 := hid hy1
  clear hat hbt hs hv hu hb1 hx1 hy1
  go_enter Tryz.func14, Tryz.ntmps14
  go_upto_region 1 with fail
  have hw1 : (w.alloc (.cells #[.int .u64 (dg : Int), .int .u64 (uk : Int), .slice na n nc, .slice da n dc, .slice sa n sc] 49)).heap.size = X + 1 := by rw [World.size_alloc, HX.out]
  rw [← HW1.out, ← HX.out]
  clear hw1
  have k0 := HX1.out.cell 0 _ rfl
  have k1 := HX1.out.cell 1 _ rfl
  have k2 := HX1.out.cell 2 _ rfl
  have kl := HX1.out.lt
  have j0 := HY1.out.cell 0 _ rfl
  have j1 := HY1.out.cell 1 _ rfl
  have j2 := HY1.out.cell 2 _ rfl
  have jl := HY1.out.lt
  go_upto_region 4 with fail
  clear e1 e2 k0 k1 k2 kl j0 j1 j2 jl
  go_loopw [5] (fun v5 wr => ∃ i : Nat, v5 = .int .i64 (i : Int) ∧ i ≤ n ∧ Hid (Below W1.heap.size W1 wr)) (fun v5 _ => n - (intOf v5).toNat)
  case atStart => exact ⟨0, rfl, by omega, Below.refl _ _⟩
  case round =>
    obtain ⟨i, rfl, hi, HB⟩ := hrel
    have hxr := HX1.out.below HB.out
    have hyr := HY1.out.below HB.out
    have HBW := hid (HB1.out.trans (HB.out.mono HB1.out.size))
    have k2 := hxr.cell 2 _ rfl
    have k3 := hxr.cell 3 _ rfl
    have k4 := hxr.cell 4 _ rfl
    have kl := hxr.lt
    have j2 := hyr.cell 2 _ rfl
    have j3 := hyr.cell 3 _ rfl
    have j4 := hyr.cell 4 _ rfl
    have jl := hyr.lt
    clear hxr hyr
    by_cases hlt : i < n
    · obtain ⟨l, hli⟩ : ∃ l, ls[i]? = some l := ⟨_, List.getElem?_eq_getElem (by rw [← HN.out]; exact hlt)⟩
      obtain ⟨nb, no, db, d0, sb, so, u, rfl, rfl, rfl, g0, g1, g2, hP⟩ := HAT.out i l hli
      obtain ⟨nb2, no2, db2, d02, sb2, so2, u2, rfl, rfl, rfl, f0, f1, f2, hP2⟩ := HBT.out i l hli
      have hk := below_keeps HBW.out
      replace g0 := hk _ _ g0
      replace g1 := hk _ _ g1
      replace g2 := hk _ _ g2
      replace f0 := hk _ _ f0
      replace f1 := hk _ _ f1
      replace f2 := hk _ _ f2
      have i1 := index_run1 Tryz.underlying45 size_int (rfl : some (⟨nb, no, none⟩ : Addr) = some ⟨nb, no, none⟩) i hlt (cap := nc)
      have i2 := index_run1 Tryz.underlying45 size_int (rfl : some (⟨nb2, no2, none⟩ : Addr) = some ⟨nb2, no2, none⟩) i hlt (cap := nc2)
      have i3 := index_run1 Tryz.underlying46 size_u64 (rfl : some (⟨db, d0, none⟩ : Addr) = some ⟨db, d0, none⟩) i hlt (cap := dc)
      have i4 := index_run1 Tryz.underlying46 size_u64 (rfl : some (⟨db2, d02, none⟩ : Addr) = some ⟨db2, d02, none⟩) i hlt (cap := dc2)
      have i5 := index_run1 Tryz.underlying47 size_rshs (rfl : some (⟨sb, so, none⟩ : Addr) = some ⟨sb, so, none⟩) i hlt (cap := sc)
      have i6 := index_run1 Tryz.underlying47 size_rshs (rfl : some (⟨sb2, so2, none⟩ : Addr) = some ⟨sb2, so2, none⟩) i hlt (cap := sc2)
      have l1 := World.block_lt_of_cell? wr _ g0
      have l2 := World.block_lt_of_cell? wr _ g1
      have l3 := World.block_lt_of_cell? wr _ g2
      have m1 := World.block_lt_of_cell? wr _ f0
      have m2 := World.block_lt_of_cell? wr _ f1
      have m3 := World.block_lt_of_cell? wr _ f2
      have e1 : (l.num != l.num) = false := by simp
      have e2 : ((l.dig : Int) != (l.dig : Int)) = false := by simp
      obtain ⟨num, HNU⟩ : ∃ n, Hid (n = l.num) := ⟨_, rfl⟩
      obtain ⟨dl, HDL⟩ : ∃ n, Hid (n = l.dig) := ⟨_, rfl⟩
      rw [← HNU.out] at g0 f0 e1
      rw [← HDL.out] at g1 f1 e2
      clear hk hli
      cases hsb : l.sub with
      | none =>
        rw [hsb] at hP hP2
        obtain rfl := opt_none hP
        obtain rfl := opt_none hP2
        have e4 : ((0 : Int) != 0) = false := by simp
        have e5 : ((0 : Int) == 1) = false := by simp
        clear hP hP2 hsb HRE
        go_upto_region 6 with fail
        go_quiet (fail)
        obtain ⟨W7, HW7⟩ : ∃ W7, Hid (W7 = wr.drewN nq) := ⟨_, rfl⟩
        rw [← HW7.out]
        have hb7 : Below wr.heap.size wr W7 := by rw [HW7.out]; exact below_drewN (Below.refl _ _) _
        have hk7 := below_keeps hb7
        replace k4 := hk7 _ _ k4
        replace j4 := hk7 _ _ j4
        replace g2 := hk7 _ _ g2
        replace f2 := hk7 _ _ f2
        have kl := Nat.lt_of_lt_of_le kl hb7.size
        have jl := Nat.lt_of_lt_of_le jl hb7.size
        have l3 := Nat.lt_of_lt_of_le l3 hb7.size
        have m3 := Nat.lt_of_lt_of_le m3 hb7.size
        have HB7 := hid (HB.out.trans (hb7.mono HB.out.size))
        clear k2 k3 j2 j3 g0 g1 f0 f1 i1 i2 i3 i4 e1 e2 e4 hk7 hb7
        go_upto_region 8 with fail
        go_quiet (fail)
        clear k4 j4 g2 f2 i5 i6 e5
        have HB8 := hid (below_drewN HB7.out nq)
        go_wp2_with fail
        go_roundw
        case rel => exact ⟨i + 1, by go_num, hlt, HB8⟩
        case measure => simp [intOf]; omega
      | some y =>
        rw [hsb] at hP hP2
        obtain ⟨b, o, c, g, k, x1, x2, x3, x4, x5, x6, x7, x8, x9, rfl, ⟨p0, p1, p2, p3, p4⟩, hR⟩ := opt_some hP
        obtain ⟨b2, o2, c2, gg, kk, y1, y2, y3, y4, y5, y6, y7, y8, y9, rfl, ⟨q0, q1, q2, q3, q4⟩, hR2⟩ := opt_some hP2
        have e4 : ((1 : Int) != 1) = false := by simp
        have e5 : ((1 : Int) == 1) = true := by simp
        have hk := below_keeps HBW.out
        replace p0 := hk _ _ p0
        replace p1 := hk _ _ p1
        replace p2 := hk _ _ p2
        replace p3 := hk _ _ p3
        replace p4 := hk _ _ p4
        replace q0 := hk _ _ q0
        replace q1 := hk _ _ q1
        replace q2 := hk _ _ q2
        replace q3 := hk _ _ q3
        replace q4 := hk _ _ q4
        have l4 := World.block_lt_of_cell? wr _ p0
        have m4 := World.block_lt_of_cell? wr _ q0
        have HRC : Hid (∀ W, Below wr.heap.size wr W → Calls Tryz.prog 14 #[.agg #[.int .u64 g, .int .u64 k, .slice x1 x2 x3, .slice x4 x5 x6, .slice x7 x8 x9], .agg #[.int .u64 gg, .int .u64 kk, .slice y1 y2 y3, .slice y4 y5 y6, .slice y7 y8 y9]] W fun e w' => e = .returned (.bool true) ∧ Below W.heap.size W w') := fun W hW =>
          HRE.out W _ _ y ((hR.keep hk).keep (below_keeps hW)) ((hR2.keep hk).keep (below_keeps hW))
        clear hP hP2 hsb HRE hR hR2 hk
        go_upto_region 6 with fail
        go_quiet (fail)
        obtain ⟨W7, HW7⟩ : ∃ W7, Hid (W7 = wr.drewN nq) := ⟨_, rfl⟩
        rw [← HW7.out]
        have hb7 : Below wr.heap.size wr W7 := by rw [HW7.out]; exact below_drewN (Below.refl _ _) _
        have hk7 := below_keeps hb7
        replace k4 := hk7 _ _ k4
        replace j4 := hk7 _ _ j4
        replace g2 := hk7 _ _ g2
        replace f2 := hk7 _ _ f2
        have kl := Nat.lt_of_lt_of_le kl hb7.size
        have jl := Nat.lt_of_lt_of_le jl hb7.size
        have l3 := Nat.lt_of_lt_of_le l3 hb7.size
        have m3 := Nat.lt_of_lt_of_le m3 hb7.size
        replace p0 := hk7 _ _ p0
        replace p1 := hk7 _ _ p1
        replace p2 := hk7 _ _ p2
        replace p3 := hk7 _ _ p3
        replace p4 := hk7 _ _ p4
        replace q0 := hk7 _ _ q0
        replace q1 := hk7 _ _ q1
        replace q2 := hk7 _ _ q2
        replace q3 := hk7 _ _ q3
        replace q4 := hk7 _ _ q4
        have l4 := Nat.lt_of_lt_of_le l4 hb7.size
        have m4 := Nat.lt_of_lt_of_le m4 hb7.size
        have HB7 := hid hb7
        clear k2 k3 j2 j3 g0 g1 f0 f1 i1 i2 i3 i4 e1 e2 e4 hb7 hk7
        have i7 := index_run Tryz.underlying93 size_rsh (rfl : some (⟨b, o, none⟩ : Addr) = some ⟨b, o, none⟩) 0 (by decide : 0 < 1) (cap := c)
        have i8 := index_run Tryz.underlying93 size_rsh (rfl : some (⟨b2, o2, none⟩ : Addr) = some ⟨b2, o2, none⟩) 0 (by decide : 0 < 1) (cap := c2)
        go_upto_region 8 with fail
        go_still_tail 22, (by kernel_rfl)
        change wpList _ _ _ _ _ W7.drew
        go_wp2_with fail
        refine (HRC.out _ HB7.out.drew).mono ?_
        rintro e w5 ⟨rfl, hb5⟩
        have HB5 : Hid (Below W1.heap.size W1 w5) := HB.out.trans ((HB7.out.drew.trans (hb5.mono HB7.out.drew.size)).mono HB.out.size)
        clear hb5 HRC k4 j4 g2 f2 i5 i6 e5 i7 i8 p0 p1 p2 p3 p4 q0 q1 q2 q3 q4
        go_wp2_with fail
        go_roundw
        case rel => exact ⟨i + 1, by go_num, hlt, HB5⟩
        case measure => simp [intOf]; omega
    · have HE : Hid (Q (.returned (.bool true)) wr) := by rw [HQ.out]; exact ⟨rfl, HBW.out⟩
      go_wp2_with fail
      exact HE.out
theorem ref27_Same : ∀ d, RShSame d
  | 0 => fun _ _ _ _ h _ => h.elim
  | d + 1 => ref27_Same_step (ref27_Same d)
end Go.Proofs.YtbcpeckmnmhfhaaGreat
namespace Go.Proofs.YtbcpeckmnmhfhaaGreat
open Go.RowKit
theorem vloop_code (rec : Nat → List UInt8 → Nat × Nat) (deep : Bool) (fs : List Fld) (l : List UInt8) (hrec : ∀ o x, (rec o x).2 < 256) : ∀ (k i : Nat), (vloop rec deep fs l k i).2 < 256
  | 0, _ => by rw [vloop]; decide
  | k + 1, i => by
    rw [vloop]
    by_cases hi : l.length ≤ i
    · rw [if_pos hi]; decide
    rw [if_neg hi]
    have hv : (vlook fs l i).2.2.2 < 256 ∧ (vval rec deep fs l (vlook fs l i)).2 < 256 := by
      rcases vlook_cases fs l i with ⟨c, h, e, h2⟩ | ⟨r, h1, h2, h3, h4, -, e | ⟨j, run, -, e, -⟩⟩
      · rw [e]
        refine ⟨h2, ?_⟩
        unfold vval
        rw [if_neg (by simp)]
        simp only [Bool.false_eq_true, if_false]
        split
        · split <;> simp
        · split
          · split
            · simp
            · exact hrec _ _
          · simp
      · rw [e]; exact ⟨by simp, by simp [vval]⟩
      · rw [e]
        refine ⟨by simp, ?_⟩
        unfold vval
        rw [if_neg (by show ¬ ((j : Int) < 0); omega)]
        simp only [Int.toNat_natCast]
        split
        · have := runCount_lt (kwire (fs.getD j .zero).kind) (part l r.at' r.to)
          show (runCount _ _).2 < 256; omega
        · split
          · split <;> simp
          · split
            · split
              · simp
              · exact hrec _ _
            · simp
    by_cases hc : (vlook fs l i).2.2.2 ≠ 0
    · rw [if_pos hc]; exact hv.1
    rw [if_neg hc]
    by_cases hv2 : (vval rec deep fs l (vlook fs l i)).2 ≠ 0
    · rw [if_pos hv2]; exact hv.2
    · rw [if_neg hv2]; exact vloop_code rec deep fs l hrec k _
theorem vmsg_code (s : List Mes) : ∀ (d m : Nat) (l : List UInt8), (vmsg s d m l).2 < 256
  | 0, m, l => vloop_code _ _ _ l (fun _ _ => by decide) _ _
  | d + 1, m, l => vloop_code _ _ _ l (vmsg_code s d) _ _
theorem vcheck_code (s : List Mes) (root : Int) (l : List UInt8) (d : Int) : (vcheck s root l d).2 < 256 := by
  unfold vcheck
  by_cases h : argsCode s root d ≠ 0
  · rw [if_pos h]; have := args_cases s root d; show argsCode s root d < 256; omega
  · rw [if_neg h]; exact vmsg_code _ _ _ _
end Go.Proofs.YtbcpeckmnmhfhaaGreat
