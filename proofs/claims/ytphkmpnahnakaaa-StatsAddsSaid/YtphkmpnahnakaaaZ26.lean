/- darninglaw28.StatsAdds returns true. No condition. -/
import Derived.Test.YtphkmpnahnakaaaZ14
import Derived.Test.YtphkmpnahnakaaaZ25
import Derived.BigQuiet
import Derived.StillTailTactics
namespace Go.Proofs.Ytphkmpnahnakaaa
open Go.RowKit Go.Shelf
set_option maxRecDepth 100000 in
set_option maxHeartbeats 16000000 in
theorem law28_StatsAdds {w : World} {vs av bv : Value} {s : List Mes} {x y : List UInt8} (hS : SchemaAt w vs s) (ha : Bytes w av x) (hb : Bytes w bv y) (root d : Int) :
    Calls Try.prog 3 #[vs, .int .i64 root, av, bv, .int .i64 d] w fun e w' => e = .returned (.bool true) ∧ Below w.heap.size w w' := by
  have HS := hid hS
  have HA := hid ha
  have HB := hid hb
  obtain ⟨-, sa, sc, rfl, -⟩ := hS.open
  obtain ⟨hxl, a, c, rfl, -⟩ := ha.open
  obtain ⟨hyl, a2, c2, rfl, -⟩ := hb.open
  obtain ⟨sn, HSN⟩ : ∃ n, Hid (n = s.length) := ⟨_, rfl⟩
  obtain ⟨nx, HNX⟩ : ∃ n, Hid (n = x.length) := ⟨_, rfl⟩
  obtain ⟨ny, HNY⟩ : ∃ n, Hid (n = y.length) := ⟨_, rfl⟩
  rw [← HSN.out] at HS ⊢
  rw [← HNX.out] at HA hxl ⊢
  rw [← HNY.out] at HB hyl ⊢
  obtain ⟨R, HR⟩ : ∃ R : Ending → World → Prop, Hid (R = fun e w' => e = .returned (.bool true) ∧ Below w.heap.size w w') := ⟨_, rfl⟩
  rw [← HR.out]
  have HTRUE : Hid (∀ w', Below w.heap.size w w' → R (.returned (.bool true)) w') := fun w' hb => by rw [HR.out]; exact ⟨rfl, hb⟩
  obtain ⟨zx, HZX⟩ : ∃ z, Hid (z = (vcheck s root x d).2) := ⟨_, rfl⟩
  obtain ⟨zy, HZY⟩ : ∃ z, Hid (z = (vcheck s root y d).2) := ⟨_, rfl⟩
  clear hS ha hb HR
  go_enter Try.func3, Try.ntmps3
  go_wp2_with fail
  refine (law28_alive _).mono ?_
  rintro e w1 ⟨rfl, hb1⟩
  have HB1 := hid hb1
  clear hb1
  go_wp2_with fail
  refine (law07_Few (HS.out.keep (below_keeps HB1.out))).mono ?_
  rintro e w2 ⟨⟨fw, rfl⟩, hb2⟩
  have HB2 := hid (HB1.out.trans (hb2.mono HB1.out.size))
  clear hb2
  cases fw with
  | false =>
    go_wp2_with fail
    exact HTRUE.out _ HB2.out
  | true =>
    by_cases hlong : (1000 : Int) < nx + ny
    · go_wp2_with fail
      exact HTRUE.out _ HB2.out
    · have hlen : x.length + y.length ≤ 1000 := by have := HNX.out; have := HNY.out; omega
      have HLEN := hid hlen
      have HO1 := hid (stats_Of (HS.out.below HB2.out) (HA.out.below HB2.out) (by omega) root d)
      unfold OfPost at HO1
      rw [← HZX.out] at HO1
      have HZXB : Hid (zx < 256) := by rw [Hid, HZX.out]; exact vcheck_code s root x d
      have HZYB : Hid (zy < 256) := by rw [Hid, HZY.out]; exact vcheck_code s root y d
      clear hlen
      go_wp2_with fail
      refine HO1.out.mono ?_
      rintro e w3 ⟨hb3, h30, h31⟩
      have HB3 := hid (HB2.out.trans (hb3.mono HB2.out.size))
      have HO2 := hid (stats_Of (HS.out.below HB3.out) (HB.out.below HB3.out) (by have := HLEN.out; omega) root d)
      unfold OfPost at HO2
      rw [← HZY.out] at HO2
      have HX1 : Hid (∃ vx, e = .returned (.tuple #[vx, .int .u8 (zx : Nat)])) := by
        by_cases hz : zx = 0
        · obtain ⟨v, ss, base, he, -⟩ := h31 hz
          exact ⟨v, by rw [he, hz]; rfl⟩
        · exact ⟨_, h30 hz⟩
      obtain ⟨vx, rfl⟩ := HX1.out
      have H31 := hid h31
      clear hb3 h30 h31 HO1 HX1
      go_wp2_with fail
      refine HO2.out.mono ?_
      rintro e w4 ⟨hb4, h40, h41⟩
      have HB34 := hid hb4
      have HB4 := hid (HB3.out.trans (hb4.mono HB3.out.size))
      have HX2 : Hid (∃ vy, e = .returned (.tuple #[vy, .int .u8 (zy : Nat)])) := by
        by_cases hz : zy = 0
        · obtain ⟨v, ss, base, he, -⟩ := h41 hz
          exact ⟨v, by rw [he, hz]; rfl⟩
        · exact ⟨_, h40 hz⟩
      obtain ⟨vy, rfl⟩ := HX2.out
      have H41 := hid h41
      clear hb4 h40 h41 HO2 HX2
      have hzx := HZXB.out
      have hzy := HZYB.out
      by_cases hz1 : zx = 0
      · by_cases hz2 : zy = 0
        · subst hz1
          subst hz2
          obtain ⟨v1, s1, base1, he1, hK1, -, hR1⟩ := H31.out rfl
          obtain ⟨v2, s2, base2, he2, hK2, -, hR2⟩ := H41.out rfl
          obtain rfl : vx = v1 := by injection he1 with h; injection h with h; injection h with h; injection h
          obtain rfl : vy = v2 := by injection he2 with h; injection h with h; injection h with h; injection h
          obtain ⟨g1, ⟨g2, g3⟩, -, g6⟩ := vcheck_ok HZX.out.symm
          obtain ⟨-, -, -, g7⟩ := vcheck_ok HZY.out.symm
          obtain ⟨q, rfl⟩ : ∃ q : Nat, root = q := ⟨root.toNat, by omega⟩
          rw [Int.toNat_natCast] at g6 g7
          have hql : q < s.length := by omega
          have hTX := evsub_path g1 d.toNat q x emptyS hql g6
          have hTY := evsub_path g1 d.toNat q y emptyS hql g7
          have hTZ := evsub_app g6 g7 emptyS
          have hvz := vcheck_app HZX.out.symm HZY.out.symm
          have hsx : SmallE (evsub s (d.toNat + 1) (q : Int) x emptyS) := evsub_small _ _ _ _ _ (by have := HLEN.out; omega)
          have hsz : SmallE (evsub s (d.toNat + 1) (q : Int) (x ++ y) emptyS) := evsub_small _ _ _ _ _ (by have := HLEN.out; rw [List.length_append]; omega)
          have hlx0 := (evsub_len s (d.toNat + 1) (q : Int) x emptyS).1
          have hly0 := (evsub_len s (d.toNat + 1) (q : Int) y emptyS).1
          obtain ⟨TX, HTX⟩ : ∃ T, Hid (T = evsub s (d.toNat + 1) (q : Int) x emptyS) := ⟨_, rfl⟩
          obtain ⟨TY, HTY⟩ : ∃ T, Hid (T = evsub s (d.toNat + 1) (q : Int) y emptyS) := ⟨_, rfl⟩
          rw [← HTX.out] at hK1 hR1 hTX hTZ hlx0
          rw [← HTY.out] at hK2 hR2 hTY hTZ hly0
          obtain ⟨KX, HKX⟩ : ∃ K, Hid (K = (s1.mergeSort fun x y : List UInt8 => decide (x ≤ y)).map mkB) := ⟨_, rfl⟩
          obtain ⟨KY, HKY⟩ : ∃ K, Hid (K = (s2.mergeSort fun x y : List UInt8 => decide (x ≤ y)).map mkB) := ⟨_, rfl⟩
          rw [← HKX.out] at hK1 hR1
          rw [← HKY.out] at hK2 hR2
          have hkl : ∀ {t : List SE} {ks : List ByteArray}, KeysOf t ks → ks.length ≤ t.length := fun {t ks} h => by
            have := nodup_le (a := ks) (b := t.map SE.path) h.nd fun p hp => by
              obtain ⟨e, he, h2⟩ := (h.mem p).1 hp
              exact List.mem_map.2 ⟨e, he, h2⟩
            rwa [List.length_map] at this
          have hkx := hkl hK1
          have hky := hkl hK2
          obtain ⟨LX, HLX⟩ : ∃ L, Hid (L = rowsS TX KX x.length) := ⟨_, rfl⟩
          obtain ⟨LY, HLY⟩ : ∃ L, Hid (L = rowsS TY KY y.length) := ⟨_, rfl⟩
          rw [← HLX.out] at hR1
          rw [← HLY.out] at hR2
          have hLX : LX.length ≤ 2000 := by rw [HLX.out]; unfold rowsS; rw [List.length_cons, List.length_map]; have := HLEN.out; omega
          have hLY : LY.length ≤ 2000 := by rw [HLY.out]; unfold rowsS; rw [List.length_cons, List.length_map]; have := HLEN.out; omega
          have hSX := rowsOwn_seg hR1 (by omega) HB34.out
          have hSY := rowsOwn_seg hR2 (by omega) (Below.refl _ _)
          obtain ⟨xa, xc, rfl, -⟩ := hSX.open
          obtain ⟨ya, yc, rfl, -⟩ := hSY.open
          obtain ⟨u1, W5, u2, W6, r1, r2, hBC, hb46, ⟨f1, f2, f3, rfl⟩, ⟨f4, f5, rfl⟩⟩ := bytes_cat (HA.out.below HB4.out) (HB.out.below HB4.out) (by have := HLEN.out; omega)
          have HB6 := hid (HB4.out.trans (hb46.mono HB4.out.size))
          have HO3 := hid (stats_Of (HS.out.below HB6.out) hBC (by have := HLEN.out; rw [List.length_append]; omega) (q : Int) d)
          unfold OfPost at HO3
          rw [hvz, hTZ] at HO3
          rw [hTZ] at hsz
          obtain ⟨nn, HNN⟩ : ∃ n, Hid (n = (x ++ y).length) := ⟨_, rfl⟩
          rw [← HNN.out] at r2 HO3
          have HR1 := hid r1
          have HR2 := hid r2
          have HSX := hid hSX
          have HSY := hid hSY
          have HB46 := hid hb46
          have HK := hid (And.intro hK1 hK2)
          have HTT := hid (And.intro hTX (And.intro hTY hsz))
          have HLL0 := hid (And.intro hLX hLY)
          clear hK1 hK2 hR1 hR2 he1 he2 hTX hTY hTZ hvz hsx hsz hlx0 hly0 hkl hkx hky hLX hLY hSX hSY r1 r2 hBC hb46 g1 g2 g3 g6 g7 H31 H41 hql
          go_wp2_with (first | (at_builtin; refine wpList_append_eq (o := ⟨some 63, _, _, _, _, _⟩) rfl _ _ _ rfl _ _ rfl rfl HR1.out ?_) | (at_builtin; refine wpList_append_eq (o := ⟨some 65, _, _, _, _, _⟩) rfl _ _ _ rfl _ _ rfl rfl HR2.out ?_))
          refine HO3.out.mono ?_
          rintro e w7 ⟨hb7, -, h71⟩
          obtain ⟨vz, s3, base3, rfl, hK3, -, hR3⟩ := h71 (by first | rfl | trivial)
          have hkz : ((s3.mergeSort fun x y : List UInt8 => decide (x ≤ y)).map mkB).length ≤ (TX ++ TY).length := by
            have := nodup_le (b := (TX ++ TY).map SE.path) hK3.nd fun p hp => by
              obtain ⟨e, he, h2⟩ := (hK3.mem p).1 hp
              exact List.mem_map.2 ⟨e, he, h2⟩
            simpa only [List.length_map] using this
          obtain ⟨KZ, HKZ⟩ : ∃ K, Hid (K = (s3.mergeSort fun x y : List UInt8 => decide (x ≤ y)).map mkB) := ⟨_, rfl⟩
          rw [← HKZ.out] at hK3 hR3 hkz
          obtain ⟨LZ, HLZ⟩ : ∃ L, Hid (L = rowsS (TX ++ TY) KZ nn) := ⟨_, rfl⟩
          obtain ⟨LL, HLL⟩ : ∃ L, Hid (L = LX ++ LY) := ⟨_, rfl⟩
          have hadd := rows_add (na := x.length) (nb := y.length) HK.out.1 HK.out.2 hK3 HTT.out.1 HTT.out.2.1
          rw [show x.length + y.length = nn from by rw [HNN.out, List.length_append], ← HLZ.out, ← HLX.out, ← HLY.out, ← HLL.out] at hadd
          rw [← HLZ.out] at hR3
          have hsmz := rowsS_small HTT.out.2.2 (ks := KZ) (n := nn) (by have := HLEN.out; have := HNN.out; rw [List.length_append] at this; omega)
          rw [← HLZ.out] at hsmz
          have HADD := hid (And.intro hadd.1 hsmz)
          have hll : LL.length ≤ 4000 := by rw [HLL.out, List.length_append]; have := HLL0.out; omega
          have hlz : LZ.length ≤ LL.length := hadd.2
          have hSZ := rowsOwn_seg hR3 (by omega) (Below.refl _ _)
          obtain ⟨za, zc, rfl, -⟩ := hSZ.open
          obtain ⟨v1, W8, v2, W9, r3, r4, hSL, hb79, ⟨f1, f2, f3, rfl⟩, ⟨la, lc, rfl⟩⟩ := rows_cat ((HSX.out.below HB46.out).below hb7) ((HSY.out.below HB46.out).below hb7) (by have := HLL0.out; omega)
          rw [← HLL.out] at r4 hSL
          obtain ⟨nl, HNL⟩ : ∃ n, Hid (n = LL.length) := ⟨_, rfl⟩
          obtain ⟨nz, HNZ⟩ : ∃ n, Hid (n = LZ.length) := ⟨_, rfl⟩
          rw [← HNL.out] at r4 hll hlz
          rw [← HNZ.out] at hlz ⊢
          have HSZ := hid (hSZ.below hb79)
          have HSL := hid hSL
          have HR3 := hid r3
          have HR4 := hid r4
          have HB9 := hid (HB6.out.trans ((hb7.trans (hb79.mono hb7.size)).mono HB6.out.size))
          clear hK3 hR3 hkz hadd hsmz hSZ r3 r4 hSL hb79 hb7 h71
          go_wp2_with (first | (at_builtin; refine wpList_append_eq (o := ⟨some 75, _, _, _, _, _⟩) rfl _ _ _ rfl _ _ rfl rfl HR3.out ?_) | (at_builtin; refine wpList_append_eq (o := ⟨some 77, _, _, _, _, _⟩) rfl _ _ _ rfl _ _ rfl rfl HR4.out ?_))
          clear HR1 HR2 HR3 HR4 HSX HSY HO3 HTX HTY HKX HKY HKZ HK HTT HZX HZY HZXB HZYB HA HB HS HSN HNX HNY HLEN HB1 HB2 HB3 HB34 HB4 HB46 HB6 HLL0 HNN HLX HLY
          go_loopw [18] (fun v18 wr => ∃ i : Nat, v18 = .int .i64 (i : Int) ∧ i ≤ nz ∧ Hid (Below W9.heap.size W9 wr)) (fun v18 _ => nz - (intOf v18).toNat)
          case atStart => exact ⟨0, rfl, by omega, Below.refl _ _⟩
          case round =>
            obtain ⟨i, rfl, hi, HJ⟩ := hrel
            obtain ⟨WO, rfl⟩ : ∃ W, W = wr := ⟨_, rfl⟩
            by_cases hlt : i < nz
            · obtain ⟨qr, hq⟩ : ∃ r, LZ[i]? = some r := ⟨_, List.getElem?_eq_getElem (by rw [← HNZ.out]; exact hlt)⟩
              obtain ⟨a', cap', he, hat⟩ := (HSZ.out.below HJ.out).open
              obtain ⟨hae, -, hce⟩ := Value.slice.inj he
              subst hae
              subst hce
              obtain ⟨zb, zo, rfl, c0, c1, c2, c3⟩ := hat i qr hq
              have HQ := hid (HADD.out.1 qr (List.mem_of_getElem? hq))
              have HQS := hid (HADD.out.2 qr (List.mem_of_getElem? hq))
              obtain ⟨P, HP⟩ : ∃ P, Hid (P = qr.path) := ⟨_, rfl⟩
              rw [← HP.out] at c0 HQ
              have hix := index_run Try.underlying27 size_srow (rfl : some (⟨zb, zo, none⟩ : Addr) = some ⟨zb, zo, none⟩) i hlt (cap := zc)
              have hzl := World.block_lt_of_cell? WO _ c0
              obtain ⟨SB, HSB⟩ : ∃ b, Hid (b = WO.heap.size) := ⟨_, rfl⟩
              obtain ⟨W10, HW10⟩ : ∃ W, Hid (W = WO.alloc (.cells #[.string P, .int .i64 0, .int .i64 0, .int .i64 0] 32)) := ⟨_, rfl⟩
              have hb10 : Below WO.heap.size WO W10 := by rw [HW10.out]; exact (Below.refl _ _).alloc (Nat.le_refl _) _
              have hk10 : Blk W10 SB [.string P, .int .i64 0, .int .i64 0, .int .i64 0] 32 := by rw [HW10.out, HSB.out]; exact Blk.new WO [.string P, .int .i64 0, .int .i64 0, .int .i64 0] _
              have HB10 := hid hb10
              have HK10 := hid hk10
              have HC := hid (And.intro c0 (And.intro c1 (And.intro c2 c3)))
              clear he hat hq hb10 hk10 c1 c2 c3
              go_upto_region 17 with fail
              rw [← HW10.out, ← HSB.out]
              clear c0 hix hzl
              have HBJ := hid HJ.out
              go_upto_region 18 with fail
              go_loopw [20] (fun v20 wq => ∃ k : Nat, v20 = .int .i64 (k : Int) ∧ k ≤ nl ∧ Hid (Blk wq SB (srC (sumR (LL.take k) P)) 32 ∧ Below SB W10 wq)) (fun v20 _ => nl - (intOf v20).toNat)
              case atStart => exact ⟨0, rfl, by omega, hid ⟨HK10.out, Below.refl _ _⟩⟩
              case round =>
                obtain ⟨k, rfl, hk, HI⟩ := hrel
                have hbq : Below W9.heap.size W9 wr := HBJ.out.trans ((HB10.out.trans (by have := HI.out.2; rw [HSB.out] at this; exact this)).mono HBJ.out.size)
                have HBQ := hid hbq
                have hB := HI.out.1
                by_cases hkl : k < nl
                · obtain ⟨xr, hx⟩ : ∃ r, LL[k]? = some r := ⟨_, List.getElem?_eq_getElem (by rw [← HNL.out]; exact hkl)⟩
                  obtain ⟨a', cap', he, hat⟩ := (HSL.out.below hbq).open
                  obtain ⟨hae, -, hce⟩ := Value.slice.inj he
                  subst hae
                  subst hce
                  obtain ⟨lb, lo, rfl, l0, l1, l2, l3⟩ := hat k xr hx
                  have hst := sumR_step hx P
                  have hle1 := sumR_take_le LL (k + 1) P
                  rw [HQ.out] at hle1
                  have hqs := HQS.out
                  obtain ⟨S1, HS1⟩ : ∃ n, Hid (n = (sumR (LL.take k) P).recs) := ⟨_, rfl⟩
                  obtain ⟨S2, HS2⟩ : ∃ n, Hid (n = (sumR (LL.take k) P).bytes) := ⟨_, rfl⟩
                  obtain ⟨S3, HS3⟩ : ∃ n, Hid (n = (sumR (LL.take k) P).vals) := ⟨_, rfl⟩
                  have hsr : sumR (LL.take k) P = ⟨P, S1, S2, S3⟩ := by rw [HS1.out, HS2.out, HS3.out]; rfl
                  rw [hsr] at hst hB
                  unfold srC at hB
                  simp only at hB
                  obtain ⟨p', r1, r2, r3⟩ := xr
                  simp only at l0 l1 l2 l3 hst
                  have k0 := hB.cell 0 _ rfl
                  have k1 := hB.cell 1 _ rfl
                  have k2 := hB.cell 2 _ rfl
                  have k3 := hB.cell 3 _ rfl
                  have kl := hB.lt
                  have y0 := hB.free 0
                  have y1 := hB.free 1
                  have y2 := hB.free 2
                  have y3 := hB.free 3
                  have hix := index_run Try.underlying27 size_srow (rfl : some (⟨lb, lo, none⟩ : Addr) = some ⟨lb, lo, none⟩) k hkl (cap := lc)
                  have hll2 := World.block_lt_of_cell? wr _ l0
                  have HBB := hid hB
                  clear he hat hx hbq hB hsr
                  by_cases hp : p' = P
                  · rw [if_pos hp] at hst
                    have hbd : S1 + r1 ≤ 1152921504606846976 ∧ S2 + r2 ≤ 1152921504606846976 ∧ S3 + r3 ≤ 1152921504606846976 := by
                      rw [hst] at hle1
                      simp only at hle1
                      omega
                    obtain ⟨hd1, hd2, hd3⟩ := hbd
                    have HST := hid hst
                    subst hp
                    clear hle1 hqs hst
                    go_upto_region 20 with fail
                    go_quiet (fail)
                    obtain ⟨WQ, HWQ⟩ : ∃ W, Hid (W = wr.drewN nq) := ⟨_, rfl⟩
                    rw [← HWQ.out]
                    have hbQ : Below wr.heap.size wr WQ := by rw [HWQ.out]; exact below_drewN (Below.refl _ _) _
                    have hBQ := HBB.out.below hbQ
                    have hkq := below_keeps hbQ
                    replace l0 := hkq _ _ l0
                    replace l1 := hkq _ _ l1
                    replace l2 := hkq _ _ l2
                    replace l3 := hkq _ _ l3
                    have k0 := hBQ.cell 0 _ rfl
                    have k1 := hBQ.cell 1 _ rfl
                    have k2 := hBQ.cell 2 _ rfl
                    have k3 := hBQ.cell 3 _ rfl
                    have kl := hBQ.lt
                    have y0 := hBQ.free 0
                    have y1 := hBQ.free 1
                    have y2 := hBQ.free 2
                    have y3 := hBQ.free 3
                    have hll2 := Nat.lt_of_lt_of_le hll2 hbQ.size
                    have HNEW := hid ((((hBQ.set 0 (.string p')).set 1 (.int .i64 ((S1 : Int) + r1))).set 2 (.int .i64 ((S2 : Int) + r2))).set 3 (.int .i64 ((S3 : Int) + r3)))
                    have HBW := hid (HI.out.2.trans (hbQ.mono (Nat.le_of_lt HBB.out.lt)))
                    clear hbQ hkq hBQ
                    go_upto_region 21 with fail
                    go_still_tail 27, (by kernel_rfl)
                    change wpList _ _ _ _ _ WQ.drew
                    go_wp2_with fail
                    clear l0 l1 l2 l3 k0 k1 k2 k3 kl y0 y1 y2 y3 hix hll2 hd1 hd2 hd3
                    go_roundw
                    case rel =>
                      refine ⟨k + 1, by go_num, hkl, ?_⟩
                      rw [HST.out]
                      refine hid ⟨?_, ?_⟩
                      · have h := HNEW.out
                        have e : srC ⟨p', S1 + r1, S2 + r2, S3 + r3⟩ = [.string p', .int .i64 ((S1 : Int) + r1), .int .i64 ((S2 : Int) + r2), .int .i64 ((S3 : Int) + r3)] := rfl
                        rw [e]
                        exact h
                      · (repeat (first | with_reducible exact Below.refl _ _ | with_reducible refine Below.setCell ?_ (by first | omega | (simp; omega) | (simp; done)) _ | with_reducible refine Below.alloc ?_ (by first | omega | (simp; omega) | (simp; done)) _ | with_reducible refine below_drewN ?_ _ | with_reducible refine Below.drew ?_))
                        exact HBW.out
                    case measure => simp [intOf]; omega
                  · rw [if_neg hp] at hst
                    have e5 : (p'.toList == P.toList) = false := by
                      cases hb : (p'.toList == P.toList) with
                      | false => rfl
                      | true => exact absurd ((toList_inj _ _).1 (eq_of_beq hb)) hp
                    have e6 : ¬ p'.toList = P.toList := fun h => hp ((toList_inj _ _).1 h)
                    have HST := hid hst
                    clear hle1 hqs hst
                    go_upto_region 20 with fail
                    go_quiet (fail)
                    have HBW := hid (And.intro (HBB.out.below (below_drewN (Below.refl wr.heap.size wr) nq)) (HI.out.2.trans ((below_drewN (Below.refl wr.heap.size wr) nq).mono (Nat.le_of_lt HBB.out.lt))))
                    clear l0 l1 l2 l3 k0 k1 k2 k3 kl y0 y1 y2 y3 hix hll2 e5 e6
                    go_wp2_with fail
                    go_roundw
                    case rel =>
                      refine ⟨k + 1, by go_num, hkl, ?_⟩
                      rw [HST.out]
                      exact HBW
                    case measure => simp [intOf]; omega
                · obtain rfl : k = nl := by omega
                  rw [List.take_of_length_le (by rw [← HNL.out]; exact Nat.le_refl _), HQ.out] at hB
                  obtain ⟨qp, q1, q2, q3⟩ := qr
                  have hpe : qp = P := HP.out.symm
                  subst hpe
                  have hbo : Below WO.heap.size WO wr := HB10.out.trans (by have := HI.out.2; rw [HSB.out] at this; exact this)
                  obtain ⟨c0, c1, c2, c3⟩ := HC.out
                  have hko := below_keeps hbo
                  replace c0 := hko _ _ c0
                  replace c1 := hko _ _ c1
                  replace c2 := hko _ _ c2
                  replace c3 := hko _ _ c3
                  unfold srC at hB
                  simp only at hB c1 c2 c3
                  have k0 := hB.cell 0 _ rfl
                  have k1 := hB.cell 1 _ rfl
                  have k2 := hB.cell 2 _ rfl
                  have k3 := hB.cell 3 _ rfl
                  have kl := hB.lt
                  have hix := index_run Try.underlying27 size_srow (rfl : some (⟨zb, zo, none⟩ : Addr) = some ⟨zb, zo, none⟩) i hlt (cap := zc)
                  have hzl := World.block_lt_of_cell? wr _ c0
                  have hne := row_neq qp (q1 : Int) (q2 : Int) (q3 : Int)
                  clear hB hbo hko hbq
                  go_upto_region 22 with fail
                  go_quiet (fail)
                  have HBW := hid (HBQ.out.trans ((below_drewN (Below.refl wr.heap.size wr) nq).mono HBQ.out.size))
                  clear c0 c1 c2 c3 k0 k1 k2 k3 kl hix hzl hne
                  go_wp2_with fail
                  go_roundw
                  case rel => exact ⟨i + 1, by go_num, hlt, HBW⟩
                  case measure => simp [intOf]; omega
            · obtain rfl : i = nz := by omega
              have hle : (i : Int) ≤ (nl : Int) := by omega
              have e1 : decide ((i : Int) ≤ (nl : Int)) = true := decide_eq_true hle
              have HE := hid (HTRUE.out _ (HB9.out.trans (HJ.out.mono HB9.out.size)))
              go_wp2_with fail
              exact HE.out
        · have e1 : ((zy : Int) != 0) = true := by simpa using hz2
          subst hz1
          clear H31 H41
          go_wp2_with fail
          exact HTRUE.out _ HB4.out
      · have e1 : ((zx : Int) != 0) = true := by simpa using hz1
        clear H31 H41
        go_wp2_with fail
        exact HTRUE.out _ HB4.out
end Go.Proofs.Ytphkmpnahnakaaa
