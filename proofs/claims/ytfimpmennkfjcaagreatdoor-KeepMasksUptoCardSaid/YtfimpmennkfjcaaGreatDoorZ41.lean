/- darningref19.Part: what a mask keeps, or leaves, of valid bytes (kpart). At most 2^30 bytes. -/
import Derived.Test.YtfimpmennkfjcaaGreatDoorZ30
import Derived.Test.YtfimpmennkfjcaaGreatDoorZ32
import Derived.Test.YtfimpmennkfjcaaGreatDoorZ34
import Derived.Test.YtfimpmennkfjcaaGreatDoorZ40
namespace Go.Proofs.YtfimpmennkfjcaaGreatDoor
open Go.RowKit Go.Shelf
/-- darningref19.Part of valid bytes, at most d deep -/
def RKPartOk (w0 : World) (sv : Value) (s : List Mes) (keep : Bool) (d : Nat) : Prop := ∀ (m : Nat) (w : World) (v mv : Value) (l : List UInt8) (ws : List (List Int)), m < s.length → Below w0.heap.size w0 w → Bytes w v l → l.length ≤ 1073741824 → WaysAt w mv ws → LightW ws → (vmsg s d m l).2 = 0 →
  Calls Tryz.prog 17 #[sv, .int .i64 (m : Int), v, mv, .bool keep] w fun e w' => ∃ v', e = .returned v' ∧ Own w' w.heap.size v' (kpart s keep d m ws l) ∧ Below w.heap.size w w'
theorem size_rvw (w : World) : (sizeOf 80).run Tryz.prog w = .ok 7 w := by kernel_rfl
set_option maxRecDepth 100000 in
set_option maxHeartbeats 8000000 in
theorem ref19_Part_step {w0 : World} {sv : Value} {s : List Mes} (hs : sright s = true) (hS0 : SchemaAt w0 sv s) (keep : Bool) (d : Nat) (hrec : ∀ d', d = d' + 1 → RKPartOk w0 sv s keep d') : RKPartOk w0 sv s keep d := by
  intro m w v mv l ws hm hw hb hl hM hL hv
  have HLL := hid hl
  have HRE := hid hrec
  obtain ⟨fs, HFS⟩ : ∃ fs, Hid (fs = (s.getD m .zero).fields) := ⟨_, rfl⟩
  have hS := hS0.below hw
  obtain ⟨-, sa, sc, rfl, hat⟩ := hS.open
  obtain ⟨sn, HSN⟩ : ∃ n, Hid (n = s.length) := ⟨_, rfl⟩
  obtain ⟨sb, so, fv, hsa, -, c0, c1, hF⟩ := hat m hm
  subst hsa
  rw [← HFS.out] at hF
  rw [← HSN.out] at hS0 hS HRE hm ⊢
  obtain ⟨nm, HNM⟩ : ∃ nm, Hid (nm = (s.getD m .zero).name) := ⟨_, rfl⟩
  rw [← HNM.out] at c0
  obtain ⟨-, va, vcap, rfl, -, -, -, -⟩ := hb.open
  obtain ⟨ln, HL⟩ : ∃ n, Hid (n = l.length) := ⟨_, rfl⟩
  obtain ⟨-, ma, mc, rfl, -, -⟩ := hM.open
  obtain ⟨mn, HMN⟩ : ∃ n, Hid (n = ws.length) := ⟨_, rfl⟩
  rw [← HMN.out] at hM ⊢
  rw [← HL.out] at hb ⊢
  obtain ⟨hfl, fa, fc, rfl, -⟩ := hF.open
  obtain ⟨fn, HFN⟩ : ∃ n, Hid (n = fs.length) := ⟨_, rfl⟩
  rw [← HFN.out] at hF c1
  obtain ⟨all, HALL⟩ : ∃ all, Hid (all = (vall fs l).1) := ⟨_, rfl⟩
  obtain ⟨zc, HZC⟩ : ∃ z, Hid (z = (vall fs l).2.1) := ⟨_, rfl⟩
  have hok := vall_ok hv
  rw [← HFS.out] at hok
  have hall := hok.1
  have hvs := hok.2
  rw [← HALL.out] at hvs
  have HVS := hid hvs
  obtain ⟨P, HP⟩ : ∃ P : VW → List UInt8, Hid (P = kpiece (ksub s keep d) fs keep ws l) := ⟨_, rfl⟩
  have HK : Hid (kpart s keep d m ws l = all.flatMap P) := by rw [Hid, kpart_eq, HALL.out, HP.out, HFS.out]
  have HKL : Hid ((all.flatMap P).length ≤ 1073741824) := by
    have h1 := kpart_le (keep := keep) (ws := ws) hv
    rw [HK.out] at h1
    show _ ≤ _
    omega
  obtain ⟨Q, HQ⟩ : ∃ Q : Ending → World → Prop, Hid (Q = fun e w' => ∃ v', e = .returned v' ∧ Own w' w.heap.size v' (kpart s keep d m ws l) ∧ Below w.heap.size w w') := ⟨_, rfl⟩
  rw [← HQ.out]
  have HEND : Hid (∀ v' w' base, w.heap.size ≤ base → Own w' base v' (all.flatMap P) → Below w.heap.size w w' → Q (.returned v') w') := by
    intro v' w' base h0 h1 h2
    rw [HQ.out]
    exact ⟨v', rfl, by rw [HK.out]; exact h1.mono h0, h2⟩
  have HA := hid (ref10_All hb (by rw [← HL.out] at hl; have := HL.out; omega) hF nm)
  have HALL3 := hid hall
  have HBY := hid hb
  have HFT := hid hF
  have HMW := hid (And.intro hM hL)
  have HHS := hid hw
  have HS0 := hid (And.intro hS0 hs)
  have HV := hid hv
  have HC01 := hid (And.intro c0 c1)
  clear hb hF hM hL hw hS0 hS hs hrec hat hok hall hvs hv HQ HK
  go_enter Tryz.func17, Tryz.ntmps17
  go_wp2_with fail
  refine HA.out.mono ?_
  rintro e w4 ⟨av, ab, rfl, hab, hrows, hb4⟩
  rw [← HALL.out] at hrows
  rw [← HZC.out, HALL3.out]
  obtain ⟨aa, ac, rfl⟩ := hrows.form
  obtain ⟨an, HAN⟩ : ∃ n, Hid (n = all.length) := ⟨_, rfl⟩
  have hanl : an ≤ 1073741824 := by
    have h1 : all.length ≤ l.length := by rw [HALL.out]; exact vall_len fs l
    have := HAN.out
    have := HLL.out
    omega
  rw [← HAN.out] at hrows ⊢
  have HROWS := hid hrows
  have HB4 := hid hb4
  have HSZ : Hid (w.heap.size ≤ w4.heap.size) := hb4.size
  clear hrows hb4 hab c0 c1 HA
  go_wp2_with fail
  go_loopw [14, 15] (fun v14 v15 wr => ∃ (k : Nat) (oa : Option Addr) (on oc : Nat) (acc : List UInt8), v14 = .slice oa on oc ∧ v15 = .int .i64 (k : Int) ∧ k ≤ an ∧ Hid (Own wr w4.heap.size (.slice oa on oc) acc ∧ acc ++ (all.drop k).flatMap P = all.flatMap P ∧ Below w4.heap.size w4 wr)) (fun _ v15 _ => an - (intOf v15).toNat)
  case atStart => exact ⟨0, none, 0, 0, [], rfl, rfl, by omega, own_nil _ _, by simp, Below.refl _ _⟩
  case round =>
    obtain ⟨k, oa, on, oc, acc, rfl, rfl, hk, HJ⟩ := hrel
    by_cases hlk : k < an
    · obtain ⟨x, hx⟩ : ∃ x, all[k]? = some x := ⟨_, List.getElem?_eq_getElem (by rw [← HAN.out]; exact hlk)⟩
      obtain ⟨vb, vo, haa, hvb1, hvb2, hvc⟩ := views_at HROWS.out (by rw [← HAN.out]; omega) k x hx
      subst haa
      have hvok := HVS.out x (List.mem_of_getElem? hx)
      obtain ⟨hv1, hv2, hv3, hvk⟩ := hvok.facts
      have HDR := hid (drop_flat (f := P) hx)
      have HVC : Hid (∀ W, Below w4.heap.size w4 W → ∀ j u, x.cells[j]? = some u → W.cell? ⟨vb, vo + k * 7 + j, none⟩ = some u) := fun W hW j u hu => below_keeps hW _ _ (hvc j u hu)
      have n0 := HVC.out wr HJ.out.2.2 0 _ rfl
      have n1 := HVC.out wr HJ.out.2.2 1 _ rfl
      have n2 := HVC.out wr HJ.out.2.2 2 _ rfl
      have n3 := HVC.out wr HJ.out.2.2 3 _ rfl
      have n4 := HVC.out wr HJ.out.2.2 4 _ rfl
      rw [Nat.add_zero] at n0
      have HC5 : Hid (∀ W, Below w4.heap.size w4 W → W.cell? ⟨vb, vo + k * 7 + 5, none⟩ = some (.int .i64 x.k)) := fun W hW => HVC.out W hW 5 _ rfl
      have HVOK := hid hvok
      obtain ⟨x0, HX0⟩ : ∃ x0, Hid (x0 = x) := ⟨_, rfl⟩
      rw [← HX0.out] at HDR HVOK
      obtain ⟨⟨x1, x2, x3, x4, x5⟩, xk, xrun⟩ := x
      simp only at n0 n1 n2 n3 n4 hv1 hv2 hv3 hvk
      have HC5 : Hid (∀ W, Below w4.heap.size w4 W → W.cell? ⟨vb, vo + k * 7 + 5, none⟩ = some (.int .i64 xk)) := HC5.out
      have hvl : vb < wr.heap.size := World.block_lt_of_cell? wr _ n0
      have HIX := hid (index_run Tryz.underlying74 size_rvw rfl k hlk (a := some ⟨vb, vo, none⟩) (cap := ac))
      have hix := HIX.out
      clear hvc hx hvok hvb1 hvb2 HVC
      obtain ⟨W6, HW6⟩ : ∃ W6, Hid (W6 = wr.alloc (.cells #[.int .i64 x1, .int .i64 x2, .int .i64 x3, .int .i64 x4, .int .i64 x5] 78)) := ⟨_, rfl⟩
      obtain ⟨VB, HVB⟩ : ∃ VB, Hid (VB = wr.heap.size) := ⟨_, rfl⟩
      have hb6 : Below wr.heap.size wr W6 := by rw [HW6.out]; exact (Below.refl _ _).alloc (Nat.le_refl _) _
      have hv6 : Blk W6 VB [.int .i64 x1, .int .i64 x2, .int .i64 x3, .int .i64 x4, .int .i64 x5] 78 := by rw [HW6.out, HVB.out]; exact Blk.new wr [.int .i64 x1, .int .i64 x2, .int .i64 x3, .int .i64 x4, .int .i64 x5] _
      have HB6 := hid hb6
      have HV6 := hid hv6
      have HB46 := hid (HJ.out.2.2.trans (hb6.mono HJ.out.2.2.size))
      have HBW6 := hid (HB4.out.trans (HB46.out.mono HB4.out.size))
      have HO6 := hid (HJ.out.1.below_of hb6)
      clear hb6 hv6
      have hcap : ln ≤ vcap := by obtain ⟨_, _, a', c', e', h3, _⟩ := HBY.out; cases e'; exact h3
      have hsl := slice_lh_run under_bytes size_u8 va ln vcap x3 x5 (by omega) (by have := HL.out; omega)
      have hxb := Bytes.sub HBY.out HL.out x3 x5 (by omega) (by rw [HL.out]; omega)
      obtain ⟨sv, HSV⟩ : ∃ sv, Hid (sliced va x3 x5 vcap 1 = sv) := ⟨_, rfl⟩
      rw [HSV.out] at hsl hxb
      obtain ⟨wa, wn, wc, rfl⟩ : ∃ a n c, sv = .slice a n c := ⟨_, _, _, HSV.out.symm⟩
      have HWB := hid hxb
      have HSL := hid hsl
      rw [← HFS.out] at hvk
      have HVD := hid (And.intro hv1 (And.intro hv2 hv3))
      have HVK := hid hvk
      have HAL : Hid (acc.length ≤ 1073741824) := by
        have h1 := congrArg List.length HJ.out.2.1
        rw [List.length_append] at h1
        have h2 := HKL.out
        show _ ≤ _
        omega
      clear hxb hvk hv1 hv2 hv3 hcap hsl
      have HXK : Hid (x0.k = xk ∧ vbytes l x0 = part l x4 x5 ∧ x0.r.start = x3 ∧ x0.r.to = x5 ∧ x0.r.number = x1) := by rw [HX0.out]; exact ⟨rfl, rfl, rfl, rfl, rfl⟩
      have HAPP : Hid (∀ W, Below W6.heap.size W6 W → ∃ a7 n7 c7 w7, (Builtin.append_ #[24, 24] 24 #[.slice oa on oc, .slice wa wn wc]).run Tryz.prog W = .ok (.slice a7 n7 c7) w7 ∧ Own w7 w4.heap.size (.slice a7 n7 c7) (acc ++ part l x3 x5) ∧ Below w4.heap.size w4 w7) := by
        intro W hW
        have hbw : Below w.heap.size w W := HBW6.out.trans (hW.mono HBW6.out.size)
        have hb4 : Below w4.heap.size w4 W := HB46.out.trans (hW.mono HB46.out.size)
        obtain ⟨v7, w7, hr7, hO7, hg7, -⟩ := own_append (HO6.out.below_of hW) (HWB.out.below hbw) (by have := HAL.out; have := HLL.out; unfold part; rw [List.length_take, List.length_drop]; omega) hb4.size
        obtain ⟨a7, c7, rfl⟩ := hO7.form
        exact ⟨a7, _, c7, w7, hr7, hO7, own_grown (HO6.out.below_of hW) hb4 hg7⟩
      have HWH := hid (ref13_Whole (HMW.out.1.below HBW6.out) (x1 : Int))
      obtain ⟨y, HY⟩ : ∃ y, Hid (y = ws.any (wholeW (x1 : Int))) := ⟨_, rfl⟩
      rw [← HY.out] at HWH
      go_upto_region 7 with fail
      rw [← HW6.out, ← HVB.out]
      clear n0 n1 n2 n3 n4
      have d0 := HV6.out.cell 0 _ rfl
      have dl := HV6.out.lt
      go_wp2_with fail
      refine HWH.out.mono ?_
      rintro e w8 ⟨rfl, hd8⟩
      have HB8 := hid hd8.below
      have HV8 := hid (HV6.out.below HB8.out)
      have HB48 := hid (HB46.out.trans (HB8.out.mono HB46.out.size))
      have HBW8 := hid (HB4.out.trans (HB48.out.mono HB4.out.size))
      have HU := hid (ref13_Under (HMW.out.1.below HBW8.out) HMW.out.2 (x1 : Int))
      obtain ⟨U, HUU⟩ : ∃ U, Hid (U = underW ws (x1 : Int)) := ⟨_, rfl⟩
      rw [← HUU.out] at HU
      have d0 := HV8.out.cell 0 _ rfl
      have dl := HV8.out.lt
      have n5 := HC5.out w8 HB48.out
      have hvl : vb < w8.heap.size := World.block_lt_of_cell? w8 _ n5
      clear hd8 HWH
      by_cases hneg : xk < 0
      · have HPX : Hid (P x0 = if keep = true then [] else part l x3 x5) := by
          rw [Hid, HP.out]; unfold kpiece; rw [HXK.out.1, if_pos hneg, HXK.out.2.2.1, HXK.out.2.2.2.1]
        have e1 : decide ((0 : Int) ≤ xk) = false := decide_eq_false (by omega)
        cases y
        all_goals
          go_wp2_with fail
          refine HU.out.mono ?_
          rintro e w9 ⟨v9, rfl, hU9, hb9⟩
          obtain ⟨-, ua, uc, rfl, -, -⟩ := hU9.open
          have HB9 := hid (HB8.out.trans (hb9.mono HB8.out.size))
          have HB49 := hid (HB48.out.trans (hb9.mono HB48.out.size))
          have HV9 := hid (HV8.out.below hb9)
          have n5 := HC5.out w9 HB49.out
          have hvl : vb < w9.heap.size := World.block_lt_of_cell? w9 _ n5
          have d2 := HV9.out.cell 2 _ rfl
          have d4 := HV9.out.cell 4 _ rfl
          have dl := HV9.out.lt
          have hsl := HSL.out
          clear hU9 hb9 d0
          cases keep
          · rw [if_neg (by decide)] at HPX
            obtain ⟨a7, n7, c7, w7, hr7, hO7, hb7⟩ := HAPP.out w9 HB9.out
            have HO7 := hid (And.intro hO7 hb7)
            clear hO7 hb7
            go_wp2_with (at_builtin; refine wpList_append_eq rfl _ _ _ rfl _ _ rfl rfl hr7 ?_)
            go_roundw
            case rel => exact ⟨k + 1, _, _, _, acc ++ part l x3 x5, rfl, by go_num, hlk, HO7.out.1, by rw [← HJ.out.2.1, HDR.out, HPX.out]; simp, HO7.out.2⟩
            case measure => simp [intOf]; omega
          · rw [if_pos rfl] at HPX
            go_wp2_with fail
            go_roundw
            case rel => exact ⟨k + 1, oa, on, oc, acc, rfl, by go_num, hlk, HO6.out.below_of HB9.out, by rw [← HJ.out.2.1, HDR.out, HPX.out]; simp, HB49.out⟩
            case measure => simp [intOf]; omega
      · obtain ⟨q, rfl, hq, hrun⟩ : ∃ q : Nat, xk = q ∧ q < fs.length ∧ (xrun = true → knumber (fs.getD q .zero).kind = true) := by
          rcases HVK.out with ⟨h, -⟩ | ⟨q, h1, h2, h3, -⟩
          · omega
          · exact ⟨q, h1, h2, fun h => (h3 h).2⟩
        obtain ⟨f, HF⟩ : ∃ f, Hid (f = fs.getD q .zero) := ⟨_, rfl⟩
        have hnum : f.number = (x1 : Int) := by
          obtain ⟨j0, hj0⟩ := HVOK.out.look
          rw [HXK.out.1] at hj0
          rcases vlook_cases (s.getD m .zero).fields l j0 with ⟨c, hc', e, -⟩ | ⟨r, h1, h2, h3, h4, h5, e | ⟨k', run, hk', e, h6, -⟩⟩
          · rw [e] at hj0; injection hj0 with e1 e2; injection e2 with e2 e3; injection e3 with e3 e4; exact absurd e4 hc'
          · rw [e] at hj0; injection hj0 with e1 e2; injection e2 with e2 e3; omega
          · rw [e] at hj0
            injection hj0 with e1 e2
            injection e2 with e2 e3
            have : k' = q := by omega
            subst this
            rw [HF.out, HFS.out, h6, e1, HXK.out.2.2.2.2]
        have HPX : Hid (P x0 = if y = true then (if keep = true then part l x3 x5 else []) else if U ≠ [] ∧ f.kind = 17 ∧ f.rep = false then part l x3 (x3 + tagN l x3) ++ (vput (ksub s keep d f.of U (part l x4 x5)).length ++ ksub s keep d f.of U (part l x4 x5)) else if keep = true then [] else part l x3 x5) := by
          rw [Hid, HP.out]
          unfold kpiece
          rw [HXK.out.1, if_neg (by omega), Int.toNat_natCast, ← HF.out, hnum, ← HY.out, ← HUU.out, HXK.out.2.1, HXK.out.2.2.1, HXK.out.2.2.2.1]
        have e1 : decide ((0 : Int) ≤ (q : Int)) = true := decide_eq_true (by omega)
        clear hnum
        cases y with
        | true =>
          rw [if_pos rfl] at HPX
          go_wp2_with fail
          refine HU.out.mono ?_
          rintro e w9 ⟨v9, rfl, hU9, hb9⟩
          obtain ⟨-, ua, uc, rfl, -, -⟩ := hU9.open
          have HB9 := hid (HB8.out.trans (hb9.mono HB8.out.size))
          have HB49 := hid (HB48.out.trans (hb9.mono HB48.out.size))
          have HV9 := hid (HV8.out.below hb9)
          have n5 := HC5.out w9 HB49.out
          have hvl : vb < w9.heap.size := World.block_lt_of_cell? w9 _ n5
          have d2 := HV9.out.cell 2 _ rfl
          have d4 := HV9.out.cell 4 _ rfl
          have dl := HV9.out.lt
          have hsl := HSL.out
          clear hU9 hb9 d0
          cases keep
          · rw [if_neg (by decide)] at HPX
            go_wp2_with fail
            go_roundw
            case rel => exact ⟨k + 1, oa, on, oc, acc, rfl, by go_num, hlk, HO6.out.below_of HB9.out, by rw [← HJ.out.2.1, HDR.out, HPX.out]; simp, HB49.out⟩
            case measure => simp [intOf]; omega
          · rw [if_pos rfl] at HPX
            obtain ⟨a7, n7, c7, w7, hr7, hO7, hb7⟩ := HAPP.out w9 HB9.out
            have HO7 := hid (And.intro hO7 hb7)
            clear hO7 hb7
            go_wp2_with (at_builtin; refine wpList_append_eq rfl _ _ _ rfl _ _ rfl rfl hr7 ?_)
            go_roundw
            case rel => exact ⟨k + 1, _, _, _, acc ++ part l x3 x5, rfl, by go_num, hlk, HO7.out.1, by rw [← HJ.out.2.1, HDR.out, HPX.out]; simp, HO7.out.2⟩
            case measure => simp [intOf]; omega
        | false =>
          rw [if_neg (by decide)] at HPX
          go_wp2_with fail
          refine HU.out.mono ?_
          rintro e w9 ⟨v9, rfl, hU9, hb9⟩
          obtain ⟨-, ua, uc, rfl, -, -⟩ := hU9.open
          obtain ⟨un, HUN⟩ : ∃ n, Hid (n = U.length) := ⟨_, rfl⟩
          rw [← HUN.out] at hU9 ⊢
          have HU9 := hid hU9
          have HB9 := hid (HB8.out.trans (hb9.mono HB8.out.size))
          have HB49 := hid (HB48.out.trans (hb9.mono HB48.out.size))
          have HBW9 := hid (HB4.out.trans (HB49.out.mono HB4.out.size))
          have HV9 := hid (HV8.out.below hb9)
          have n5 := HC5.out w9 HB49.out
          have hvl : vb < w9.heap.size := World.block_lt_of_cell? w9 _ n5
          have hsl := HSL.out
          clear hU9 hb9 d0 dl
          by_cases hu0 : 0 < un
          · obtain ⟨-, fa', fc', hfe, hfat⟩ := (HFT.out.below HBW9.out).open
            rw [← HFN.out] at hfe
            have hfa : fa = fa' := by injection hfe
            subst hfa
            obtain ⟨fb, fo, hfb, hok, g0, g1, g2, g3, g4, g5⟩ := hfat q hq
            rw [← HF.out] at hok g0 g1 g2 g3 g4 g5 hrun
            have HOKF := hid hok
            clear hfat hfe hok
            subst hfb
            have hqn : q < fn := by rw [HFN.out]; exact hq
            have hkw := below_keeps HBW9.out
            have c0 := hkw _ _ HC01.out.1
            have c1 := hkw _ _ HC01.out.2
            have hixf := index_run Tryz.underlying65 size_fld rfl q hqn (a := some ⟨fb, fo, none⟩) (cap := fc)
            have hgl := World.block_lt_of_cell? w9 _ g0
            have hsl6 := World.block_lt_of_cell? w9 _ c1
            have e2 : decide (0 < un) = true := decide_eq_true hu0
            clear hkw
            go_upto_region 10 with fail
            have q0 : w9.drew.cell? ⟨sb, so + m * 2 + 1, none⟩ = some (.slice (some ⟨fb, fo, none⟩) fn fc) ∧ w9.drew.cell? ⟨vb, vo + k * 7 + 5, none⟩ = some (.int .i64 (q : Int)) ∧ w9.drew.cell? ⟨fb, fo + q * 6, none⟩ = some (.string f.name) ∧ w9.drew.cell? ⟨fb, fo + q * 6 + 1, none⟩ = some (.int .i64 f.number) ∧ w9.drew.cell? ⟨fb, fo + q * 6 + 2, none⟩ = some (.int .i64 f.kind) ∧ w9.drew.cell? ⟨fb, fo + q * 6 + 3, none⟩ = some (.bool f.rep) ∧ w9.drew.cell? ⟨fb, fo + q * 6 + 4, none⟩ = some (.bool f.packed) ∧ w9.drew.cell? ⟨fb, fo + q * 6 + 5, none⟩ = some (.int .i64 f.of) := ⟨c1, n5, g0, g1, g2, g3, g4, g5⟩
            go_region_held3 (fun w' => w'.cell? ⟨sb, so + m * 2 + 1, none⟩ = some (.slice (some ⟨fb, fo, none⟩) fn fc) ∧ w'.cell? ⟨vb, vo + k * 7 + 5, none⟩ = some (.int .i64 (q : Int)) ∧ w'.cell? ⟨fb, fo + q * 6, none⟩ = some (.string f.name) ∧ w'.cell? ⟨fb, fo + q * 6 + 1, none⟩ = some (.int .i64 f.number) ∧ w'.cell? ⟨fb, fo + q * 6 + 2, none⟩ = some (.int .i64 f.kind) ∧ w'.cell? ⟨fb, fo + q * 6 + 3, none⟩ = some (.bool f.rep) ∧ w'.cell? ⟨fb, fo + q * 6 + 4, none⟩ = some (.bool f.packed) ∧ w'.cell? ⟨fb, fo + q * 6 + 5, none⟩ = some (.int .i64 f.of)) (first | (with_reducible exact q0) | go_keep) (fail)
            obtain ⟨FB, HFB⟩ : ∃ b, Hid (b = w9.heap.size) := ⟨_, rfl⟩
            obtain ⟨W10, HW10⟩ : ∃ W, Hid (W = (w9.alloc (.cells #[.string f.name, .int .i64 f.number, .int .i64 f.kind, .bool f.rep, .bool f.packed, .int .i64 f.of] 64)).drew) := ⟨_, rfl⟩
            have hb10 : Below w9.heap.size w9 W10 := by rw [HW10.out]; exact ((Below.refl _ _).alloc (Nat.le_refl _) _).drew
            have hf10 : Blk W10 FB [.string f.name, .int .i64 f.number, .int .i64 f.kind, .bool f.rep, .bool f.packed, .int .i64 f.of] 64 := by rw [HW10.out, HFB.out]; exact Blk.new w9 [.string f.name, .int .i64 f.number, .int .i64 f.kind, .bool f.rep, .bool f.packed, .int .i64 f.of] _
            rw [← HW10.out, ← HFB.out]
            have HF10 := hid hf10
            have HV10 := hid (HV9.out.below hb10)
            have HU10 := hid (HU9.out.below hb10)
            have HBF := hid (HB9.out.trans (hb10.mono HB9.out.size))
            have HB410 := hid (HB49.out.trans (hb10.mono HB49.out.size))
            have HBW10 := hid (HBW9.out.trans (hb10.mono HBW9.out.size))
            have d2 := HV10.out.cell 2 _ rfl
            have d4 := HV10.out.cell 4 _ rfl
            have dl := HV10.out.lt
            have f2 := HF10.out.cell 2 _ rfl
            have f3 := HF10.out.cell 3 _ rfl
            have fl := HF10.out.lt
            have n5 := HC5.out W10 HB410.out
            have hvl : vb < W10.heap.size := World.block_lt_of_cell? W10 _ n5
            clear q0 c0 c1 g0 g1 g2 g3 g4 g5 hgl hsl6 hixf hb10 hf10
            by_cases hc : f.kind = 17 ∧ f.rep = false
            · obtain ⟨hk17, hrep⟩ := hc
              have HC17 : Hid (U ≠ [] ∧ f.kind = 17 ∧ f.rep = false) := ⟨by rintro rfl; rw [HUN.out] at hu0; simp at hu0, hk17, hrep⟩
              rw [if_pos HC17.out] at HPX
              rw [hrep] at f3
              rw [hk17] at f2
              have hfm : f ∈ (s.getD m .zero).fields := by
                rw [HF.out, ← HFS.out]
                exact mem_getD fs q _ hq
              have hofb := (sright_field HS0.out.2 m (by rw [← HSN.out]; exact hm) f hfm).2.1 hk17
              obtain ⟨r, hr⟩ : ∃ r : Nat, f.of = r := ⟨f.of.toNat, by omega⟩
              obtain ⟨d', rfl, hvm⟩ := HVOK.out.sub (k := q) HXK.out.1 (by rw [← HFS.out, ← HF.out]; exact hk17)
              rw [← HFS.out, ← HF.out, HXK.out.2.1, hr, Int.toNat_natCast] at hvm
              obtain ⟨j0, hj0⟩ := HVOK.out.look
              obtain ⟨hrn, hst⟩ := vlook_next hj0
              rw [HXK.out.2.2.1] at hst
              subst hst
              obtain ⟨-, s2, s3, s4, s5, s6, -, -⟩ := rec_shape hrn
              rw [HXK.out.2.2.2.1] at s5 s6
              have hx4 : x0.r.at' = x4 := by rw [HX0.out]
              rw [hx4] at s4 s5
              obtain ⟨T1, T2, T3, T4, HT⟩ : ∃ T1 T2 T3 T4, Hid (tread (l.drop x3) = (T1, T2, T3, T4)) := ⟨_, _, _, _, rfl⟩
              have hT3 : T3 = tagN l x3 := by unfold tagN; rw [HT.out]
              have hcap : ln ≤ vcap := by obtain ⟨_, _, a', c', e', h3, _⟩ := HBY.out; cases e'; exact h3
              have hsl2 := slice_lh_run under_bytes size_u8 va ln vcap x4 x5 (by omega) (by have := HL.out; omega)
              have hxb2 := Bytes.sub HBY.out HL.out x4 x5 (by omega) (by rw [HL.out]; omega)
              obtain ⟨sv2, HSV2⟩ : ∃ sv, Hid (sliced va x4 x5 vcap 1 = sv) := ⟨_, rfl⟩
              rw [HSV2.out] at hsl2 hxb2
              obtain ⟨ya, yn, yc, rfl⟩ : ∃ a n c, sv2 = .slice a n c := ⟨_, _, _, HSV2.out.symm⟩
              have hslT := slice_lh_run under_bytes size_u8 va ln vcap x3 (x3 + T3) (by omega) (by have := HL.out; omega)
              have hpb := Bytes.sub HBY.out HL.out x3 (x3 + T3) (by omega) (by rw [HL.out]; omega)
              obtain ⟨svT, HSVT⟩ : ∃ sv, Hid (sliced va x3 (x3 + T3) vcap 1 = sv) := ⟨_, rfl⟩
              rw [HSVT.out] at hslT hpb
              obtain ⟨pa, pn, pc, rfl⟩ : ∃ a n c, svT = .slice a n c := ⟨_, _, _, HSVT.out.symm⟩
              have hslT' : ∀ W : World, (Instr.slice 24 (.slice va ln vcap) (some (.int .i64 (x3 : Int))) (some (.int .i64 ((x3 : Int) + (T3 : Int)))) none).run Tryz.prog W = .ok (.slice pa pn pc) W := fun W => by
                have := hslT W
                rwa [Int.natCast_add] at this
              have hp2 : (part l x4 x5).length ≤ 1073741824 := by have := HLL.out; rw [part_len l _ _ (by omega) (by omega)]; omega
              obtain ⟨V, HV1⟩ : ∃ V, Hid (V = kpart s keep d' r U (part l x4 x5)) := ⟨_, rfl⟩
              have hVl : V.length ≤ 1073741824 := by
                have := kpart_le (keep := keep) (ws := U) hvm
                rw [← HV1.out] at this
                omega
              have HREC := hid (HRE.out d' rfl r W10.drew _ (.slice ua un uc) _ U (by have := hofb.2; omega) ((HHS.out.trans (HBW10.out.mono HHS.out.size)).drew) ((hxb2.below HBW10.out).drewN 1) hp2 (HU10.out.keep fun _ _ h => h) (by rw [HUU.out]; exact underW_light HMW.out.2 _) hvm)
              rw [← HV1.out] at HREC
              have HPV : Hid (P x0 = part l x3 (x3 + T3) ++ (vput V.length ++ V)) := by
                have e : ksub s keep (d' + 1) f.of U (part l x4 x5) = V := by rw [HV1.out]; show kpart s keep d' f.of.toNat U (part l x4 x5) = _; rw [hr, Int.toNat_natCast]
                rw [Hid, HPX.out, e, hT3]
              have HVL := hid hVl
              have HPB := hid hpb
              have hx3l : x3 ≤ l.length := by omega
              have f5 := HF10.out.cell 5 _ rfl
              rw [hr] at f5
              have v3 := HV10.out.cell 3 _ rfl
              have HX3 := hid hx3l
              have hx3b : x3 ≤ 1073741824 := by have := HLL.out; omega
              have hT3b : T3 ≤ 10 := by omega
              clear hT3 hr hslT hfm hofb hrn hj0 hp2 hvm hcap hxb2 hVl hpb s2 s3 s4 s5 s6 HPX hx3l
              go_upto_region 12 with fail
              go_still_tail 11, (by kernel_rfl)
              change wpList _ _ _ _ _ W10.drew
              go_wp2_with fail
              refine HREC.out.mono ?_
              rintro e w11 ⟨v11, rfl, hO11, hb11⟩
              have HB11 := hid ((Below.refl W10.heap.size W10).drew.trans hb11)
              obtain ⟨xa, xc, rfl⟩ := hO11.form
              obtain ⟨vn, HVN⟩ : ∃ n, Hid (n = V.length) := ⟨_, rfl⟩
              rw [← HVN.out] at hO11 ⊢
              have HVK2 : Hid (∀ W' : World, (∀ b, W10.heap.size ≤ b → b < w11.heap.size → W'.heap[b]? = w11.heap[b]?) → Bytes W' (.slice xa vn xc) V) := fun W' h => by
                have h1 : Own W' W10.drew.heap.size (.slice xa vn xc) V := row_keep hO11 fun b cur hb he => h b hb (Array.getElem?_eq_some_iff.1 he).1
                exact h1.bytes (by have := HVL.out; omega)
              have HB611 := hid (HBF.out.trans (HB11.out.mono HBF.out.size))
              have HB411 := hid (HB410.out.trans (HB11.out.mono HB410.out.size))
              have HBW11 := hid (HBW10.out.trans (HB11.out.mono HBW10.out.size))
              have HV11 := hid (HV10.out.below HB11.out)
              have HTR := hid (ref03_Read (HBY.out.below HBW11.out) x3 HX3.out)
              rw [HT.out] at HTR
              clear hO11 hb11 f2 f3 f5 fl v3 d2 d4 dl n5 hvl
              have d2 := HV11.out.cell 2 _ rfl
              have dl := HV11.out.lt
              go_wp2_with fail
              refine HTR.out.mono ?_
              rintro e w12 ⟨rfl, rfl⟩
              obtain ⟨v14, w14, hr14, hO14, hg14, hob14⟩ := own_append (HO6.out.below_of HB611.out) (HPB.out.below HBW11.out) (by have := HAL.out; have := HLL.out; unfold part; rw [List.length_take, List.length_drop]; omega) HB411.out.size
              have hb414 := own_grown (HO6.out.below_of HB611.out) HB411.out hg14
              obtain ⟨qa, qc, rfl⟩ := hO14.form
              obtain ⟨qn, HQN⟩ : ∃ n, Hid (n = (acc ++ part l x3 (x3 + T3)).length) := ⟨_, rfl⟩
              rw [← HQN.out] at hO14 hr14 hob14
              have hqn1 : (acc ++ part l x3 (x3 + T3)).length ≤ 1099511627776 := by
                have := HAL.out; have := HLL.out; unfold part
                rw [List.length_append, List.length_take, List.length_drop]; omega
              have HQL := hid hqn1
              have HW14 := hid (And.intro hb414 (And.intro hg14 (And.intro hO14 hob14)))
              have hvn : vn ≤ 1073741824 := by have := HVL.out; have := HVN.out; omega
              have HPUT := hid (ref02_Put vn w14 (by omega))
              clear hO14 hg14 hb414 hqn1 hob14 HTR HREC HAPP
              go_wp2_with (at_builtin; refine wpList_append_eq (o := ⟨some 127, _, _, _, _, _⟩) rfl _ _ _ rfl _ _ rfl rfl hr14 ?_)
              refine HPUT.out.mono ?_
              rintro e w15 ⟨v15, rfl, hO15, hb15⟩
              obtain ⟨ra, rc, rfl⟩ := hO15.form
              obtain ⟨rn, HRN⟩ : ∃ n, Hid (n = (vput vn).length) := ⟨_, rfl⟩
              rw [← HRN.out] at hO15 ⊢
              have hg1 : w4.heap.size ≤ w14.heap.size := HW14.out.1.size
              have hvp := vput_le (x := vn) (by omega)
              have hb415 : Below w4.heap.size w4 w15 := HW14.out.1.trans (hb15.mono hg1)
              obtain ⟨v16, w16, hr16, hO16, hg16, -⟩ := own_append (HW14.out.2.2.1.below_of hb15) (hO15.bytes (by omega)) (by have := HQL.out; omega) hb415.size
              have hb416 := own_grown (HW14.out.2.2.1.below_of hb15) hb415 hg16
              obtain ⟨ta, tc, rfl⟩ := hO16.form
              obtain ⟨tn, HTN⟩ : ∃ n, Hid (n = ((acc ++ part l x3 (x3 + T3)) ++ vput vn).length) := ⟨_, rfl⟩
              rw [← HTN.out] at hO16 hr16
              have hV16 : Bytes w16 (.slice xa vn xc) V := by
                refine HVK2.out w16 fun b h1 h2 => ?_
                have h3 : w11.heap.size ≤ w14.heap.size := HW14.out.2.1.size
                have e16 : w16.heap[b]? = w15.heap[b]? := hg16.block b (by have := hb15.size; omega) fun e => by
                  rcases HW14.out.2.2.2 with h | h
                  · rw [h] at e
                    have h4 := (World.ownsRow.lt HO6.out b e.symm).2
                    have h5 := HBF.out.size
                    omega
                  · rw [h] at e
                    injection e with e
                    omega
                have e15 : w15.heap[b]? = w14.heap[b]? := hb15.block b (by omega)
                have e14 : w14.heap[b]? = w11.heap[b]? := HW14.out.2.1.block b h2 fun e => by
                  have h4 := (World.ownsRow.lt HO6.out b e.symm).2
                  have h5 := HBF.out.size
                  omega
                rw [e16, e15, e14]
              obtain ⟨v17, w17, hr17, hO17, hg17, -⟩ := own_append hO16 hV16 (by have := HVL.out; have := HQL.out; rw [List.length_append]; omega) hb416.size
              have hb417 := own_grown hO16 hb416 hg17
              obtain ⟨za, zc', rfl⟩ := hO17.form
              obtain ⟨zn, HZN⟩ : ∃ n, Hid (n = ((acc ++ part l x3 (x3 + T3)) ++ vput vn ++ V).length) := ⟨_, rfl⟩
              rw [← HZN.out] at hO17 hr17
              have HO17 := hid (And.intro hO17 hb417)
              have HACC : Hid ((acc ++ part l x3 (x3 + T3)) ++ vput vn ++ V = acc ++ P x0) := by
                rw [Hid, HPV.out, ← HVN.out]; simp
              clear hO15 hb15 hb415 hO16 hg16 hb416 hV16 hO17 hg17 hb417 hg1 hvn hvp HPUT
              go_wp2_with (at_builtin; first | refine wpList_append_eq (o := ⟨some 133, _, _, _, _, _⟩) rfl _ _ _ rfl _ _ rfl rfl hr16 ?_ | refine wpList_append_eq (o := ⟨some 136, _, _, _, _, _⟩) rfl _ _ _ rfl _ _ rfl rfl hr17 ?_)
              go_roundw
              case rel => exact ⟨k + 1, _, _, _, _, rfl, by go_num, hlk, HO17.out.1, by rw [HACC.out, ← HJ.out.2.1, HDR.out]; simp, HO17.out.2⟩
              case measure => simp [intOf]; omega
            · have HPX2 : Hid (P x0 = if keep = true then [] else part l x3 x5) := by
                rw [Hid, HPX.out, if_neg]
                rintro ⟨-, h2⟩
                exact hc h2
              have hcs : f.kind ≠ 17 ∨ (f.kind = 17 ∧ f.rep = true) := by
                by_cases h2 : f.kind = 17
                · refine .inr ⟨h2, ?_⟩
                  cases h3 : f.rep with
                  | true => rfl
                  | false => exact absurd ⟨h2, h3⟩ hc
                · exact .inl h2
              clear hc HPX
              rcases hcs with h2 | ⟨h2, h3⟩
              · have e4 : ((f.kind : Int) == 17) = false := by simpa using h2
                cases keep
                · rw [if_neg (by decide)] at HPX2
                  obtain ⟨a7, n7, c7, w7, hr7, hO7, hb7⟩ := HAPP.out _ HBF.out
                  have HO7 := hid (And.intro hO7 hb7)
                  clear hO7 hb7
                  go_wp2_with (at_builtin; refine wpList_append_eq rfl _ _ _ rfl _ _ rfl rfl hr7 ?_)
                  go_roundw
                  case rel => exact ⟨k + 1, _, _, _, acc ++ part l x3 x5, rfl, by go_num, hlk, HO7.out.1, by rw [← HJ.out.2.1, HDR.out, HPX2.out]; simp, HO7.out.2⟩
                  case measure => simp [intOf]; omega
                · rw [if_pos rfl] at HPX2
                  go_wp2_with fail
                  go_roundw
                  case rel => exact ⟨k + 1, oa, on, oc, acc, rfl, by go_num, hlk, HO6.out.below_of HBF.out, by rw [← HJ.out.2.1, HDR.out, HPX2.out]; simp, HB46.out.trans (HBF.out.mono HB46.out.size)⟩
                  case measure => simp [intOf]; omega
              · rw [h2] at f2
                rw [h3] at f3
                cases keep
                · rw [if_neg (by decide)] at HPX2
                  obtain ⟨a7, n7, c7, w7, hr7, hO7, hb7⟩ := HAPP.out _ HBF.out
                  have HO7 := hid (And.intro hO7 hb7)
                  clear hO7 hb7
                  go_wp2_with (at_builtin; refine wpList_append_eq rfl _ _ _ rfl _ _ rfl rfl hr7 ?_)
                  go_roundw
                  case rel => exact ⟨k + 1, _, _, _, acc ++ part l x3 x5, rfl, by go_num, hlk, HO7.out.1, by rw [← HJ.out.2.1, HDR.out, HPX2.out]; simp, HO7.out.2⟩
                  case measure => simp [intOf]; omega
                · rw [if_pos rfl] at HPX2
                  go_wp2_with fail
                  go_roundw
                  case rel => exact ⟨k + 1, oa, on, oc, acc, rfl, by go_num, hlk, HO6.out.below_of HBF.out, by rw [← HJ.out.2.1, HDR.out, HPX2.out]; simp, HB46.out.trans (HBF.out.mono HB46.out.size)⟩
                  case measure => simp [intOf]; omega
          · have HPX2 : Hid (P x0 = if keep = true then [] else part l x3 x5) := by
              rw [Hid, HPX.out, if_neg]
              rintro ⟨h1, -⟩
              have := List.length_pos_iff.2 h1
              have := HUN.out
              omega
            have e2 : decide (0 < un) = false := decide_eq_false hu0
            have HBF := HB9
            have d2 := HV9.out.cell 2 _ rfl
            have d4 := HV9.out.cell 4 _ rfl
            have dl := HV9.out.lt
            clear HPX
            cases keep
            · rw [if_neg (by decide)] at HPX2
              obtain ⟨a7, n7, c7, w7, hr7, hO7, hb7⟩ := HAPP.out _ HBF.out
              have HO7 := hid (And.intro hO7 hb7)
              clear hO7 hb7
              go_wp2_with (at_builtin; refine wpList_append_eq rfl _ _ _ rfl _ _ rfl rfl hr7 ?_)
              go_roundw
              case rel => exact ⟨k + 1, _, _, _, acc ++ part l x3 x5, rfl, by go_num, hlk, HO7.out.1, by rw [← HJ.out.2.1, HDR.out, HPX2.out]; simp, HO7.out.2⟩
              case measure => simp [intOf]; omega
            · rw [if_pos rfl] at HPX2
              go_wp2_with fail
              go_roundw
              case rel => exact ⟨k + 1, oa, on, oc, acc, rfl, by go_num, hlk, HO6.out.below_of HBF.out, by rw [← HJ.out.2.1, HDR.out, HPX2.out]; simp, HB46.out.trans (HBF.out.mono HB46.out.size)⟩
              case measure => simp [intOf]; omega
    · obtain rfl : k = an := by omega
      have HE := hid (HEND.out _ wr w4.heap.size HSZ.out (by
        have h := HJ.out.2.1
        rw [List.drop_eq_nil_of_le (by rw [← HAN.out]; exact Nat.le_refl _), List.flatMap_nil, List.append_nil] at h
        rw [← h]
        exact HJ.out.1) (HB4.out.trans (HJ.out.2.2.mono HB4.out.size)))
      go_wp2_with fail
      exact HE.out
theorem ref19_Part {w0 : World} {sv : Value} {s : List Mes} (hs : sright s = true) (hS0 : SchemaAt w0 sv s) (keep : Bool) : ∀ d, RKPartOk w0 sv s keep d
  | 0 => ref19_Part_step hs hS0 keep 0 fun _ h => by omega
  | d + 1 => ref19_Part_step hs hS0 keep (d + 1) fun d' h => by
    have e : d = d' := by omega
    subst e
    exact ref19_Part hs hS0 keep d
end Go.Proofs.YtfimpmennkfjcaaGreatDoor
