/- tree.of: what valid bytes mean (tof). At most 2^40 bytes. -/
import Derived.Test.YtbdeclkccchnoaaGreatZ17
import Derived.Test.YtbdeclkccchnoaaGreatZ19
namespace Go.Proofs.YtbdeclkccchnoaaGreat
open Go.RowKit Go.Shelf
set_option maxRecDepth 100000 in
set_option maxHeartbeats 8000000 in
theorem tree_of_step {w0 : World} {sv : Value} {s : List Mes} (hS : SchemaAt w0 sv s) (hs : sright s = true) (d : Nat) (hrec : ∀ d', d = d' + 1 → TOfOk w0 sv s d') : TOfOk w0 sv s d := by
  intro m w v l hm hC hv hl hok
  obtain ⟨hall, hvs⟩ := vall_ok hok
  have HC := hid hC
  have HV := hid hv
  have HOKV := hid hok
  have HRE := hid hrec
  obtain ⟨hslen, sa, scap, rfl, hat⟩ := hS.open
  obtain ⟨sb, so, fv, rfl, hnm, c0, c1, hfat⟩ := hat m hm
  clear hat
  obtain ⟨hvl, va, vcap, rfl, -, -, -, -⟩ := hv.open
  obtain ⟨ln, HL⟩ : ∃ ln, Hid (ln = l.length) := ⟨_, rfl⟩
  rw [← HL.out] at hl hvl HV ⊢
  obtain ⟨sn, HSN⟩ : ∃ sn, Hid (sn = s.length) := ⟨_, rfl⟩
  rw [← HSN.out] at hslen HRE ⊢
  have hmn : m < sn := by rw [HSN.out]; exact hm
  obtain ⟨fs, HFS⟩ : ∃ fs, Hid (fs = (s.getD m .zero).fields) := ⟨_, rfl⟩
  obtain ⟨nm, HNM⟩ : ∃ nm, Hid (nm = (s.getD m .zero).name) := ⟨_, rfl⟩
  rw [← HNM.out] at c0 hnm
  rw [← HFS.out] at hfat hall
  obtain ⟨all, HALL⟩ : ∃ all, Hid (all = (vall fs l).1) := ⟨_, rfl⟩
  rw [← HFS.out, ← HALL.out] at hvs
  have HVS := hid hvs
  have hkr := below_keeps hC
  replace c0 := hkr _ _ c0
  replace c1 := hkr _ _ c1
  have hft := hfat.keep hkr
  have HFT := hid hft
  have hfl200 : fs.length ≤ 200 := by rw [HFS.out]; exact sright_fields' hs m hm
  obtain ⟨Q, HQ⟩ : ∃ Q : Ending → World → Prop, Hid (Q = fun e w' => ∃ v', e = .returned v' ∧ Below w.heap.size w w' ∧ Apart 0 w.heap.size w' fun w2 => MsgAt (d + 1) w2 v' (tof s d m l)) := ⟨_, rfl⟩
  rw [← HQ.out]
  obtain ⟨hfl, fa, fc, rfl, -⟩ := hft.open
  obtain ⟨fn, HFN⟩ : ∃ fn, Hid (fn = fs.length) := ⟨_, rfl⟩
  rw [← HFN.out] at HFT c1 hfl hft
  obtain ⟨X, HX⟩ : ∃ X, Hid (X = w.heap.size) := ⟨_, rfl⟩
  obtain ⟨W1, HW1⟩ : ∃ W1, Hid (W1 = w.alloc (.cells #[.slice none 0 0, .slice none 0 0] 27)) := ⟨_, rfl⟩
  obtain ⟨W2, HW2⟩ : ∃ W2, Hid (W2 = W1.alloc (.cells #[.slice none 0 0, .slice none 0 0] 27)) := ⟨_, rfl⟩
  obtain ⟨W3, HW3⟩ : ∃ W3, Hid (W3 = W2.alloc (.cells #[.string nm, .slice fa fn fc] 47)) := ⟨_, rfl⟩
  have hb1 : Below w.heap.size w W1 := by rw [HW1.out]; exact (Below.refl _ _).alloc (Nat.le_refl _) _
  have hb2 : Below W1.heap.size W1 W2 := by rw [HW2.out]; exact (Below.refl _ _).alloc (Nat.le_refl _) _
  have hb3 : Below W2.heap.size W2 W3 := by rw [HW3.out]; exact (Below.refl _ _).alloc (Nat.le_refl _) _
  have hz1 : W1.heap.size = X + 1 := by rw [HW1.out, HX.out]; simp
  have hz2 : W2.heap.size = X + 1 + 1 := by rw [HW2.out, World.size_alloc, hz1]
  have hz3 : W3.heap.size = X + 1 + 1 + 1 := by rw [HW3.out, World.size_alloc, hz2]
  have hr1 : Blk W1 X [noneS, noneS] 27 := by rw [HW1.out, HX.out]; exact Blk.new w [noneS, noneS] _
  have hx2 : Blk W2 (X + 1) [noneS, noneS] 27 := by rw [HW2.out, ← hz1]; exact Blk.new W1 [noneS, noneS] _
  have hm3 : Blk W3 (X + 1 + 1) [.string nm, .slice fa fn fc] 47 := by rw [HW3.out, ← hz2]; exact Blk.new W2 [.string nm, .slice fa fn fc] _
  have hb23 : Below w.heap.size w W2 := hb1.trans (hb2.mono hb1.size)
  have hb03 : Below w.heap.size w W3 := hb23.trans (hb3.mono hb23.size)
  have m0 := hm3.cell 0 _ rfl
  have m1 := hm3.cell 1 _ rfl
  have HR3 := hid ((hr1.below hb2).below hb3)
  have HX3 := hid (hx2.below hb3)
  have HM3 := hid hm3
  have HB03 := hid hb03
  have HA := hid (view_All (HV.out.below hb03) (by rw [← HL.out]; exact hl) (hft.below hb03) nm)
  obtain ⟨zc, HZC⟩ : ∃ z, Hid (z = (vall fs l).2.1) := ⟨_, rfl⟩
  have e0 := below_keeps hb23 _ _ c0
  have e1 := below_keeps hb23 _ _ c1
  have hsb : sb < w.heap.size := World.block_lt_of_cell? w _ c0
  have hsb2 : sb < W2.heap.size := by rw [hz2]; have := HX.out; omega
  have HZ3 := hid hz3
  have HSUBS : Hid (∀ q, q < fs.length → SubCallT w0 (.slice (some ⟨sb, so, none⟩) sn scap) s d (fs.getD q .zero)) := by
    intro q hq
    have h1 := sub_callT hs HRE.out hm (q := q) (by rw [← HFS.out]; exact hq)
    rw [← HFS.out] at h1
    exact h1
  clear hrec hvs hC hv hkr hok hft hfat hb1 hb2 hb3 hr1 hx2 hm3 hb23 hb03 hS
  have hmm := @run_makeMap Tryz.prog
  go_enter Tryz.func22, Tryz.ntmps22
  go_upto_region 1 with fail
  rw [← HW1.out, ← HX.out]
  go_upto_region 2 with fail
  rw [← HW2.out]
  go_upto_region 3 with fail
  rw [← HW3.out]
  go_upto_region 5 with (go_at_call 38; refine HA.out.mono ?_; rintro e w4 ⟨av, ab, rfl, hab, hrows, hb4⟩; rw [← HALL.out] at hrows; rw [← HZC.out, hall]; obtain ⟨aa, ac, rfl⟩ := hrows.form)
  obtain ⟨r, HR⟩ : ∃ r, Hid (r = w4.heap.size) := ⟨_, rfl⟩
  obtain ⟨W5, HW5⟩ : ∃ W5, Hid (W5 = w4.alloc (.map #[] 0)) := ⟨_, rfl⟩
  rw [← HW5.out, ← HR.out]
  have hb5 : Below w4.heap.size w4 W5 := by rw [HW5.out]; exact (Below.refl _ _).alloc (Nat.le_refl _) _
  have hz5 : W5.heap.size = r + 1 := by rw [HW5.out, HR.out]; simp
  have hm5 : MapIs W5 r intK [] := by rw [HW5.out, HR.out]; exact heap_alloc_new w4 _
  have hXr : X + 1 + 1 < r := by rw [HR.out]; have := hb4.size; omega
  have HROWS := hid hrows
  have hb35 : Below W3.heap.size W3 W5 := hb4.trans (hb5.mono hb4.size)
  have hb05 : Below w.heap.size w W5 := HB03.out.trans (hb35.mono HB03.out.size)
  have hx5 : Blk W5 (X + 1) [noneS, noneS] 27 := HX3.out.below hb35
  have HX5 := hid hx5
  have HMI5 := hid hm5
  have HB05 := hid hb05
  have HAB := hid hab
  have HXR := hid hXr
  have HZ5 := hid hz5
  have hal : all.length ≤ l.length := by rw [HALL.out]; exact vall_len fs l
  obtain ⟨an, HAN⟩ : ∃ n, Hid (n = all.length) := ⟨_, rfl⟩
  rw [← HAN.out] at hal HROWS ⊢
  have hanb : an ≤ 1099511627776 := by have := HL.out; omega
  have HR5 : Hid (∀ wi, Fr W5 r (X + 1) wi → Blk wi X [noneS, noneS] 27 ∧ Blk wi (X + 1 + 1) [.string nm, .slice fa fn fc] 47 ∧ Below w.heap.size w wi ∧ (∀ b, b < w.heap.size → wi.heap[b]? = w.heap[b]?) ∧ (∀ b u j, ab ≤ b → b < r → w4.cell? ⟨b, j, none⟩ = some u → wi.cell? ⟨b, j, none⟩ = some u)) := by
    intro wi h
    have h3 := hb35.size
    have hk : ∀ b, b < W5.heap.size → b ≠ r → b ≠ X + 1 → wi.heap[b]? = W5.heap[b]? := h.block
    refine ⟨(hk X (by omega) (by omega) (by omega)).trans (HR3.out.below hb35), (hk (X + 1 + 1) (by omega) (by omega) (by omega)).trans (HM3.out.below hb35), ⟨h.os.trans hb05.os, h.tape.trans hb05.tape, h.output.trans hb05.output, Nat.le_trans hb05.size h.size, fun b hb => ?_⟩, fun b hb => ?_, fun b u j h1 h2 hc => ?_⟩
    · have := HX.out
      exact (hk b (by omega) (by omega) (by omega)).trans (hb05.block b hb)
    · have := HX.out
      exact (hk b (by omega) (by omega) (by omega)).trans (hb05.block b hb)
    · have h6 : W5.cell? ⟨b, j, none⟩ = some u := below_keeps hb5 _ _ hc
      rw [World.cell?_of_block (hk b (by omega) (by omega) (by have := HAB.out; have := HZ3.out; omega))]
      exact h6
  obtain ⟨unk, HUNK⟩ : ∃ unk : Nat → List (List UInt8), Hid (unk = fun k => ((all.take k).filter fun x => decide (x.k < 0)).map fun x => part l x.r.start x.r.to) := ⟨_, rfl⟩
  clear hb4 hb5 hb35 hb05 hm5 hz5 hx5 hrows hab hmm e0 e1 m0 m1 c0 c1 hsb hsb2 HA HR3 HX3 HM3
  go_wp2_with fail
  have hX0 : w.heap.size ≤ X + 1 := by rw [← HX.out]; omega
  have HX0 := hid hX0
  go_loopw [34] (fun v34 wi => ∃ (k : Nat) (has : Nat → Bool) (tag : Nat → Nat) (es : List (Int × Value)) (G : Nat → Nat) (WV VV : Nat → Value) (ua : Option Addr) (un uc : Nat), v34 = .int .i64 (k : Int) ∧ k ≤ an ∧ Hid (LI w.heap.size W5 r (X + 1) fs l (all.take k) has tag es G WV VV (.slice ua un uc) (unk k) wi ∧ ∀ q : Nat, has q = true → viewsOf (all.take k) (q : Int) ≠ [])) (fun v34 _ => an - (intOf v34).toNat)
  case atStart => exact ⟨0, fun _ => false, fun _ => 0, [], fun _ => 0, fun _ => noneS, fun _ => noneS, none, 0, 0, rfl, by omega, ⟨Fr.refl _ _ _, HX5.out, TSt.start HMI5.out, by rw [HUNK.out]; exact World.ownsRow_nil _ _ _ _, by simp [Value.ownBlock]⟩, fun _ h => by cases h⟩
  case round =>
    obtain ⟨k, has, tag, es, G, WV, VV, ua, un, uc, rfl, hk, HJ⟩ := hrel
    by_cases hlk : k < an
    · obtain ⟨x, hx⟩ : ∃ x, all[k]? = some x := ⟨_, List.getElem?_eq_getElem (by rw [← HAN.out]; exact hlk)⟩
      obtain ⟨vb, vo, haa, hvb1, hvb2, hvc⟩ := views_cells' HROWS.out (by rw [← HAN.out]; omega) k x hx
      rw [← HR.out] at hvb2
      subst haa
      have htk : all.take (k + 1) = all.take k ++ [x] := by rw [List.take_add_one, hx]; rfl
      have hst : unk (k + 1) = if x.k < 0 then unk k ++ [part l x.r.start x.r.to] else unk k := by
        rw [HUNK.out]
        simp only
        rw [htk, List.filter_append, List.map_append]
        by_cases h : x.k < 0
        · rw [if_pos h]; simp [h]
        · rw [if_neg h]; simp [h]
      obtain ⟨hbR, hbM, hbW, hlow, hcv⟩ := HR5.out wr HJ.out.1.fr
      have hvok := HVS.out x (List.mem_of_getElem? hx)
      have hmem : x ∈ all := List.mem_of_getElem? hx
      obtain ⟨hv1, hv2, hv3, hvk⟩ := hvok.facts
      rw [← HFS.out] at hvk
      have n0 := hcv vb _ (vo + k * 7 + 0) hvb1 hvb2 (hvc 0 _ rfl)
      have n1 := hcv vb _ (vo + k * 7 + 1) hvb1 hvb2 (hvc 1 _ rfl)
      have n2 := hcv vb _ (vo + k * 7 + 2) hvb1 hvb2 (hvc 2 _ rfl)
      have n3 := hcv vb _ (vo + k * 7 + 3) hvb1 hvb2 (hvc 3 _ rfl)
      have n4 := hcv vb _ (vo + k * 7 + 4) hvb1 hvb2 (hvc 4 _ rfl)
      have n5 := hcv vb _ (vo + k * 7 + 5) hvb1 hvb2 (hvc 5 _ rfl)
      have n6 := hcv vb _ (vo + k * 7 + 6) hvb1 hvb2 (hvc 6 _ rfl)
      rw [Nat.add_zero] at n0
      have HTK := hid htk
      have HST := hid hst
      have HMEM := hid hmem
      obtain ⟨⟨x1, x2, x3, x4, x5⟩, xk, xrun⟩ := x
      simp only at n0 n1 n2 n3 n4 n5 n6 hv1 hv2 hv3 hvk
      obtain ⟨W6, HW6⟩ : ∃ W6, Hid (W6 = wr.alloc (.cells #[.int .i64 x1, .int .i64 x2, .int .i64 x3, .int .i64 x4, .int .i64 x5, .int .i64 xk, .bool xrun] 93)) := ⟨_, rfl⟩
      obtain ⟨VB, HVB⟩ : ∃ VB, Hid (VB = wr.heap.size) := ⟨_, rfl⟩
      have hb6 : Below wr.heap.size wr W6 := by rw [HW6.out]; exact (Below.refl _ _).alloc (Nat.le_refl _) _
      have hv6 : Blk W6 VB [.int .i64 x1, .int .i64 x2, .int .i64 x3, .int .i64 x4, .int .i64 x5, .int .i64 xk, .bool xrun] 93 := by rw [HW6.out, HVB.out]; exact Blk.new wr [.int .i64 x1, .int .i64 x2, .int .i64 x3, .int .i64 x4, .int .i64 x5, .int .i64 xk, .bool xrun] _
      have hL6 := HJ.out.1.below HZ5.out (by have := HXR.out; have := HX0.out; omega) hb6
      have HL6 := hid hL6
      have HHAS := hid HJ.out.2
      have HV6 := hid hv6
      have HB6 : Hid (Below w.heap.size w W6) := hbW.trans (hb6.mono hbW.size)
      have c5 := hv6.cell 5 _ rfl
      clear hvc hst hx htk hcv hvok hmem hbR hbM hbW hlow hb6 hv6 hL6
      go_upto_region 8 with fail
      rw [← HW6.out, ← HVB.out]
      clear n0 n1 n2 n3 n4 n5 n6
      have hcap : ln ≤ vcap := by obtain ⟨_, _, a', c', e', h3, _⟩ := HV.out; cases e'; exact h3
      by_cases hxk : xk < 0
      · have HST' : Hid (unk (k + 1) = unk k ++ [part l x3 x5]) := by have := HST.out; rw [if_pos hxk] at this; exact this
        have hby : Bytes W6.drew (.slice va ln vcap) l := HV.out.below HB6.out.drew
        have HWH := hid (record_Whole hby ⟨x1, x2, x3, x4, x5⟩ (by simp only; omega) (by simp only; omega))
        simp only [Rec.val] at HWH
        have HPL : Hid ((part l x3 x5).length ≤ 1099511627776) := by show _ ≤ _; unfold part; rw [List.length_take, List.length_drop]; have := HL.out; omega
        have HUL : Hid ((unk k).length + 1 ≤ 1099511627777) := by
          have hUl : (unk k).length ≤ k := by
            rw [HUNK.out]; simp only [List.length_map]
            have h1 := List.length_filter_le (fun x : VW => decide (x.k < 0)) (all.take k)
            rw [List.length_take] at h1
            omega
          show _ ≤ _; omega
        have HNX : Hid (w.heap.size ≤ X + 1 ∧ X + 1 < r) := ⟨HX0.out, by have := HXR.out; omega⟩
        have d0 := HV6.out.cell 0 _ rfl
        have d1 := HV6.out.cell 1 _ rfl
        have d2 := HV6.out.cell 2 _ rfl
        have d3 := HV6.out.cell 3 _ rfl
        have d4 := HV6.out.cell 4 _ rfl
        have e0 : W6.drew.cell? ⟨X + 1, 1, none⟩ = some (.slice ua un uc) := HL6.out.xb.cell 1 _ rfl
        have k0 : W6.drew.cell? ⟨VB, 0, none⟩ = some (.int .i64 x1) := d0
        have k1 : W6.drew.cell? ⟨VB, 1, none⟩ = some (.int .i64 x2) := d1
        have k2 : W6.drew.cell? ⟨VB, 2, none⟩ = some (.int .i64 x3) := d2
        have k3 : W6.drew.cell? ⟨VB, 3, none⟩ = some (.int .i64 x4) := d3
        have k4 : W6.drew.cell? ⟨VB, 4, none⟩ = some (.int .i64 x5) := d4
        clear hby hv1 hv2 hv3 hvk hcap
        go_wp2_with fail
        go_region_law (first | (go_simp; go_at_call 39; (with_reducible refine HWH.out.mono ?_); rintro e w7 ⟨v7, rfl, hO7, hb7⟩; obtain ⟨a7, m7, c7, rfl⟩ := own_form' hO7; have hk1 : ∀ p u, W6.drew.cell? p = some u → w7.cell? p = some u := below_keeps hb7; have e1 : w7.cell? ⟨X + 1, 1, none⟩ = some (.slice ua un uc) := hk1 _ _ e0; have hcv := (hO7.bytes (by have := HPL.out; omega)).str; have hL7 := HL6.out.below HZ5.out (by have := HNX.out; omega) ((Below.refl W6.heap.size W6).drew.trans hb7); have hz7 : X + 1 < w7.heap.size := hL7.xb.lt; obtain ⟨a8, n8, c8, w8, hr8, hB8, tag8, hL8⟩ := hL7.push HZ5.out HNX.out.1 HNX.out.2 (x := ⟨⟨x1, x2, x3, x4, x5⟩, xk, xrun⟩) hxk (part l x3 x5) HUL.out; have e4 : (w7.alloc (.cells #[.string ⟨(part l x3 x5).toArray⟩] 9)).cell? ⟨X + 1, 1, none⟩ = some (.slice ua un uc) := (hL7.xb.alloc _).cell 1 _ rfl; have e5 := hB8.cell 1 _ rfl; have z5 := hB8.free 1; have l5 := hB8.lt; have HR8 := hid hr8; have HL8 := hid hL8; clear hr8 hL8 hL7 hO7 hb7 hk1 hB8) | (refine step_append_eq rfl (.tmp 42) (.tmp 48) _ rfl _ _ rfl rfl HR8.out ?_))
        all_goals
          go_wp2_with fail
          refine ⟨⟨k + 1, has, tag8, es, G, WV, VV, a8, n8, c8, by go_num, hlk, ?_, ?_⟩, by simp [intOf]; omega⟩
          · rw [HTK.out, HST'.out]; exact HL8.out
          · intro q hq
            rw [HTK.out, viewsOf_snoc, if_neg (by simp only; omega)]
            exact HHAS.out q hq
      · obtain ⟨q, rfl, hq, hrk⟩ : ∃ q : Nat, xk = q ∧ q < fs.length ∧ (xrun = true → knumber (fs.getD q .zero).kind = true) := by
          rcases hvk with ⟨h, -⟩ | ⟨q, h1, h2, h3, -⟩
          · omega
          · exact ⟨q, h1, h2, fun h => (h3 h).2⟩
        have HNX : Hid (w.heap.size ≤ X + 1 ∧ X + 1 < r) := ⟨HX0.out, by have := HXR.out; omega⟩
        have HST' : Hid (unk (k + 1) = unk k) := by have := HST.out; rw [if_neg hxk] at this; exact this
        have hlk6 := pcs_lookup HL6.out.ts.map (q : Int)
        go_upto_region 10 with fail
        go_cut [55] from 51 to 54 (fun s55 wx => s55 = .bool (!has q) ∧ Hid (wx = W6))
        case first =>
          cases hhq : has q with
          | true =>
            rw [(HL6.out.ts.hass q hq hhq).1] at hlk6
            simp only [Option.getD] at hlk6
            go_wp2_with fail
            go_meet
            case rel => exact ⟨by rw [hhq]; rfl, rfl⟩
          | false =>
            rw [(HL6.out.ts.hasnt q hq hhq).1] at hlk6
            simp only [Option.getD] at hlk6
            go_wp2_with fail
            go_meet
            case rel => exact ⟨by rw [hhq]; rfl, rfl⟩
        case rest =>
          obtain ⟨rfl, hwx⟩ := hcut
          have hwx' := hwx.out
          subst hwx'
          clear hwx
          obtain ⟨f, HF⟩ : ∃ f, Hid (f = fs.getD q .zero) := ⟨_, rfl⟩
          obtain ⟨-, fa', fc', hfe, hfat⟩ := (HFT.out.below HB6.out).open
          rw [← HFN.out] at hfe
          have hfa : fa = fa' := by injection hfe
          subst hfa
          obtain ⟨fb, fo, hfb, hok, g0, g1, g2, g3, g4, g5⟩ := hfat q hq
          rw [← HF.out] at hok g0 g1 g2 g3 g4 g5 hrk
          have HOKF := hid hok
          have HRK := hid hrk
          clear hfat hfe hok hrk
          obtain ⟨hbR, hbM, hbW, hlow, -⟩ := HR5.out wc HL6.out.fr
          have m1 := hbM.cell 1 _ rfl
          have hqn : q < fn := by rw [HFN.out]; exact hq
          subst hfb
          go_upto_if 55 with fail
          go_cut [55] from 56 to 66 (fun s55 wx => ∃ (has : Nat → Bool) (tag : Nat → Nat) (es : List (Int × Value)) (G : Nat → Nat) (WV VV : Nat → Value), Hid (LI w.heap.size W5 r (X + 1) fs l (all.take k) has tag es G WV VV (.slice ua un uc) (unk k) wx ∧ has q = true ∧ (∀ p : Nat, has p = true → viewsOf (all.take k) (p : Int) ≠ [] ∨ p = q) ∧ Blk wx VB [.int .i64 x1, .int .i64 x2, .int .i64 x3, .int .i64 x4, .int .i64 x5, .int .i64 (q : Int), .bool xrun] 93))
          case first =>
            cases hhq : has q with
            | true =>
              go_wp2_with fail
              go_meet
              case rel => exact ⟨has, tag, es, G, WV, VV, HL6.out, hhq, fun p hp => .inl (HHAS.out p hp), HV6.out⟩
            | false =>
              obtain ⟨w8, HW8⟩ : ∃ w8, Hid (w8 = putMap (wc.alloc (.cells (f.cells ++ [noneS, noneS]).toArray 98)) r intK (es ++ [((q : Int), Value.pointer (some ⟨wc.heap.size, 0, none⟩))])) := ⟨_, rfl⟩
              obtain ⟨i1, i2, i3, i4⟩ := HL6.out.insert HZ5.out HNX.out.1 HNX.out.2 hq hhq HF.out w8 HW8.out
              have hins : (Instr.mapUpdate 89 (.map (some r)) (.int .i64 (q : Int)) (.pointer (some ⟨wc.heap.size, 0, none⟩))).run Tryz.prog (wc.alloc (.cells #[.string f.name, .int .i64 f.number, .int .i64 f.kind, .bool f.rep, .bool f.packed, .int .i64 f.of, .slice none 0 0, .slice none 0 0] 98)) = .ok () w8 := i1
              have hins2 : (Instr.mapUpdate 89 (.map (some r)) (.int .i64 (q : Int)) (.pointer (some ⟨wc.heap.size, 0, none⟩))).run Tryz.prog (wc.alloc (.cells #[.string f.name, .int .i64 f.number, .int .i64 f.kind, .bool f.rep, .bool f.packed, .int .i64 f.of, .slice none 0 0, .slice none 0 0] 98)).drew = .ok () w8.drew := by
                have h1 := HL6.out.ts.map
                have hA : Below wc.heap.size wc (wc.alloc (.cells #[.string f.name, .int .i64 f.number, .int .i64 f.kind, .bool f.rep, .bool f.packed, .int .i64 f.of, .slice none 0 0, .slice none 0 0] 98)) := (Below.refl _ _).alloc (Nat.le_refl _) _
                have h2 : MapIs (wc.alloc (.cells #[.string f.name, .int .i64 f.number, .int .i64 f.kind, .bool f.rep, .bool f.packed, .int .i64 f.of, .slice none 0 0, .slice none 0 0] 98)).drew r intK es := (hA.block r (by have := HL6.out.fr.size; have := HZ5.out; omega)).trans h1
                have h3 := pcs_insert h2 (q : Int) (.pointer (some ⟨wc.heap.size, 0, none⟩)) (HL6.out.ts.hasnt q hq hhq).1
                rw [h3, HW8.out]
                rfl
              have c5a : (wc.alloc (.cells #[.string f.name, .int .i64 f.number, .int .i64 f.kind, .bool f.rep, .bool f.packed, .int .i64 f.of, .slice none 0 0, .slice none 0 0] 98)).drew.cell? ⟨VB, 5, none⟩ = some (.int .i64 (q : Int)) := (HV6.out.alloc _).cell 5 _ rfl
              have HI4 := hid i4
              have HI2 := hid i2
              have HI3 := hid i3
              clear i1 i2 i3 i4 hbR hbW hlow hlk6
              go_wp2_with fail
              go_big_region
              all_goals
                go_wp2_with fail
                go_meet
                case rel =>
                  refine ⟨_, _, _, _, _, _, HI4.out.below HZ5.out (by have := HNX.out; omega) (Below.refl w8.heap.size w8).drew, upd_same _ _ _, fun p hp => ?_, ?_⟩
                  · by_cases hpq : p = q
                    · exact .inr hpq
                    · rw [upd_other _ _ _ hpq] at hp; exact .inl (HHAS.out p hp)
                  · exact (HI2.out VB HV6.out.lt (by have := HVB.out; have := HJ.out.1.fr.size; have := HZ5.out; omega)).trans HV6.out
          case rest =>
            obtain ⟨has, tag, es, G, WV, VV, HM⟩ := hcut
            obtain ⟨x, HX0'⟩ : ∃ x : VW, Hid (x = ⟨⟨x1, x2, x3, x4, x5⟩, (q : Int), xrun⟩) := ⟨_, rfl⟩
            rw [← HX0'.out] at HTK HMEM
            have HXK : Hid (x.k = (q : Int)) := by rw [HX0'.out]; rfl
            have HVBY : Hid (vbytes l x = part l x4 x5) := by rw [HX0'.out]; rfl
            obtain ⟨hg, hent⟩ := HM.out.1.ts.hass q hq HM.out.2.1
            have hlkp := pcs_lookup (w := wc.drew) HM.out.1.ts.map (q : Int)
            rw [hg] at hlkp
            simp only [Option.getD] at hlkp
            obtain ⟨-, -, -, hlow2, -⟩ := HR5.out wc HM.out.1.fr
            have hsl := slice_lh_run under_bytes size_u8 va ln vcap x4 x5 (by omega) (by have := HL.out; omega)
            have hxb := HV.out.sub HL.out x4 x5 (by omega) (by rw [HL.out]; omega)
            obtain ⟨sv, HSV⟩ : ∃ sv, Hid (sliced va x4 x5 vcap 1 = sv) := ⟨_, rfl⟩
            rw [HSV.out] at hsl hxb
            have hbv : ∀ w', (∀ b, b < w.heap.size → w'.heap[b]? = wc.drew.heap[b]?) → Bytes w' sv (vbytes l x) := fun w' hw' => by
              rw [HVBY.out]
              refine Seg.keep hxb fun p u hu => ?_
              rw [World.cell?_of_block ((hw' p.block (World.block_lt_of_cell? w p hu)).trans (hlow2 p.block (World.block_lt_of_cell? w p hu)))]
              exact hu
            have hxs : (∀ y ∈ viewsOf (all.take k) (q : Int), Thin y) ∧ vsum (viewsOf (all.take k) (q : Int)) ≤ l.length := by rw [HALL.out]; exact part_views fs l k _
            have hxs2 : (∀ y ∈ viewsOf (all.take (k + 1)) (q : Int), Thin y) ∧ vsum (viewsOf (all.take (k + 1)) (q : Int)) ≤ l.length := by rw [HALL.out]; exact part_views fs l (k + 1) _
            rw [HTK.out, viewsOf_snoc, if_pos HXK.out, vsum_app] at hxs2
            have hll : l.length ≤ 1099511627776 := by have := HL.out; omega
            have hxt : Thin x := hxs2.1 x (by simp)
            have hxv : vsize x ≤ 1099511627776 := by
              have : vsum [x] = vsize x := by unfold vsum; simp
              omega
            have hA1 : ((viewsOf (all.take k) (q : Int)).flatMap (pieceW f l)).length ≤ 1099511627776 := by
              have := flat_sum (pieceW f l) List.length rfl (fun a b => List.length_append) _ fun y hy => piece_words (hxs.1 y hy)
              omega
            have hA2 : ((viewsOf (all.take k) (q : Int)).flatMap (pieceB f l)).length ≤ 1099511627776 := by
              have := (pcsB_len (f := f) (l := l) hxs.1 (by omega)).2.2.2
              exact this
            have hA3 : (vbytes l x).length ≤ 1099511627776 := by
              have := vbytes_len l x
              unfold Thin at hxt
              omega
            have hA4 : (pieceW f l x).length ≤ 1099511627776 := Nat.le_trans (piece_words hxt) hxv
            rw [← HF.out] at hent
            have hn0B : w.heap.size ≤ r + 1 := by have := HNX.out; omega
            have hpd := hent.pcs.below (Below.refl wc.heap.size wc).drew hn0B
            have hP := pieces_add (w := wc.drew) (n0 := w.heap.size) (B := r + 1) hpd hn0B hA1 hA2 hbv hA3 hA4 (by rw [HX0'.out]; exact HRK.out)
            have hPv : viewV x.r x.k x.run = .agg #[.int .i64 x1, .int .i64 x2, .int .i64 x3, .int .i64 x4, .int .i64 x5, .int .i64 (q : Int), .bool xrun] := by rw [HX0'.out]; rfl
            rw [hPv] at hP
            have HP := hid hP
            have c0 := HM.out.2.2.2.cell 0 _ rfl
            have c1 := HM.out.2.2.2.cell 1 _ rfl
            have c2 := HM.out.2.2.2.cell 2 _ rfl
            have c3 := HM.out.2.2.2.cell 3 _ rfl
            have c4 := HM.out.2.2.2.cell 4 _ rfl
            have c5 := HM.out.2.2.2.cell 5 _ rfl
            have c6 := HM.out.2.2.2.cell 6 _ rfl
            have hlk0 := pcs_lookup (w := wc) HM.out.1.ts.map (q : Int)
            rw [hg] at hlk0
            simp only [Option.getD] at hlk0
            clear hpd hn0B hbv hxs hxs2 hxt hxv hA1 hA2 hA3 hA4 hP hPv hent hg hlow2 hxb hll hlow hbR hbM hbW
            go_wp2_with fail
            go_still_tail 13, (by kernel_rfl)
            change wpList _ _ _ _ _ wc.drew
            go_wp2_with fail
            refine HP.out.mono ?_
            rintro e w9 ⟨rfl, wv', vv', hp9, hs9⟩
            rw [HF.out] at hp9
            obtain ⟨tag9, WV9, VV9, hL9⟩ := (HM.out.1.below HZ5.out (by have := HNX.out; omega) (Below.refl wc.heap.size wc).drew).add HZ5.out HNX.out.1 HNX.out.2 hq HM.out.2.1 HXK.out hp9 hs9
            have HL9 := hid hL9
            clear hL9 hp9 hs9
            go_wp2_with fail
            refine ⟨⟨k + 1, has, tag9, es, G, WV9, VV9, ua, un, uc, by go_num, hlk, ?_, ?_⟩, by simp [intOf]; omega⟩
            · rw [HTK.out, HST'.out]; exact HL9.out
            · intro p hp
              rw [HTK.out, viewsOf_snoc]
              by_cases hpq : x.k = (p : Int)
              · rw [if_pos hpq]; simp
              · rw [if_neg hpq]
                rcases HM.out.2.2.1 p hp with h | h
                · exact h
                · exact absurd (by rw [h]; exact HXK.out) hpq
    · obtain rfl : k = an := by omega
      have htk : all.take k = all := by rw [HAN.out]; exact List.take_length
      rw [htk] at HJ
      obtain ⟨hbR, hbM, hbW, hlow, -⟩ := HR5.out wr HJ.out.1.fr
      have m0 := hbM.cell 0 _ rfl
      have m1 := hbM.cell 1 _ rfl
      have hSO := hid (schema_Sorted nm (HFT.out.below hbW) (by omega))
      have HBWR := hid hbW
      obtain ⟨Z, HZ⟩ : ∃ Z, Hid (Z = wr.heap.size) := ⟨_, rfl⟩
      clear hbR hbM hbW hlow
      go_upto_region 14 with fail
      go_wp2_with (go_at_call 41; refine hSO.out.mono ?_; rintro e w8 ⟨oa, oc, rfl, hord, hb8⟩; rw [sortedF_len, ← HFN.out])
      have hL8 := HJ.out.1.below HZ5.out (by have := HXR.out; have := HX0.out; omega) hb8
      have HL8 := hid hL8
      have HHAS := hid HJ.out.2
      have hG8 : ∀ p : Nat, p < fs.length → has p = true → r + 1 ≤ G p ∧ G p < Z ∧ tag (G p) = p + 1 := fun p hp hh => by
        obtain ⟨-, e⟩ := HJ.out.1.ts.hass p hp hh
        exact ⟨e.pcs.bg, by rw [HZ.out]; exact e.pcs.box.lt, e.tg⟩
      have HG8 := hid hG8
      have hs8 := hb8.size
      rw [← HZ.out] at hs8 hord
      have HS8 := hid hs8
      have HORD := hid hord
      have HXW : Hid (X + 1 < Z) := by rw [HZ.out]; exact HJ.out.1.xb.lt
      obtain ⟨FV, HFV⟩ : ∃ FV : Int → Val (M d), Hid (FV = fun i => fieldV (tsub s d) (fs.getD i.toNat .zero) l (viewsOf all i)) := ⟨_, rfl⟩
      obtain ⟨vals, HVALS⟩ : ∃ vals : Nat → List (Val (M d)), Hid (vals = fun t => (((sortedF fs).take t).map FV).filter fun v => decide (0 < many v)) := ⟨_, rfl⟩
      obtain ⟨S, HSS⟩ : ∃ S : Nat → Prop, Hid (S = fun b => r + 1 ≤ b ∧ ∀ p : Nat, p < fs.length → has p = true → b ≠ G p) := ⟨_, rfl⟩
      clear hL8 hG8 hs8 hord hb8 HJ m0 m1
      go_loopw [85] (fun v85 wi => ∃ (i : Nat) (xa : Option Addr) (xn xc : Nat), v85 = .int .i64 (i : Int) ∧ i ≤ fn ∧ Hid (L2 w8 (X + 1) has G ((sortedF fs).take i) wi ∧ Blk wi (X + 1) [.slice xa xn xc, .slice ua un uc] 27 ∧ xn = (vals i).length ∧ xn ≤ i ∧ RowsOnS S (ValP' d) 52 4 w8.heap.size wi (.slice xa xn xc) (vals i))) (fun v85 _ => fn - (intOf v85).toNat)
      case atStart => exact ⟨0, none, 0, 0, rfl, by omega, L2.refl _ _ _ _, HL8.out.xb, by rw [HVALS.out]; rfl, by omega, by rw [HVALS.out]; exact RowsOnS.nil _ _ _ _ _ _⟩
      case round =>
        obtain ⟨i, xa, xn, xc, rfl, hi, HI⟩ := hrel
        by_cases hlt : i < fn
        · obtain ⟨ord, hoi⟩ : ∃ x, (sortedF fs)[i]? = some x := ⟨_, List.getElem?_eq_getElem (by rw [sortedF_len, ← HFN.out]; exact hlt)⟩
          obtain ⟨hr0, hr1⟩ := sortedF_mem (List.mem_of_getElem? hoi)
          obtain ⟨q, rfl⟩ : ∃ q : Nat, ord = (q : Int) := ⟨ord.toNat, by omega⟩
          have hq : q < fs.length := by omega
          have htk2 : (sortedF fs).take (i + 1) = (sortedF fs).take i ++ [(q : Int)] := by rw [List.take_add_one, hoi]; rfl
          have hnd : (q : Int) ∉ (sortedF fs).take i := by
            intro hmem
            have h1 := sortedF_nodup fs
            rw [← List.take_append_drop (i + 1) (sortedF fs), htk2] at h1
            have h2 := (List.nodup_append.1 (List.nodup_append.1 h1).1).2.2
            exact h2 _ hmem _ (by simp) rfl
          have hsame : ∀ b, b < w8.heap.size → b ≠ X + 1 → (∀ p : Nat, p < fs.length → has p = true → p ≠ q → b ≠ G p) → wr.heap[b]? = w8.heap[b]? := fun b h1 h2 h3 => HI.out.1.block b h1 h2 fun p hp hh => by
            have hpq : p ≠ q := by rintro rfl; exact hnd hp
            have hpm := sortedF_mem (List.mem_of_mem_take hp)
            exact h3 p (by omega) hh hpq
          obtain ⟨og, rfl, hog, hrow⟩ : ∃ g, oa = some ⟨g, 0, none⟩ ∧ Z ≤ g ∧ IRow w8 g (sortedF fs) := by
            rcases HORD.out with h | h
            · rw [h] at hoi; simp at hoi
            · exact h
          have hBG : ∀ p : Nat, p < fs.length → has p = true → r + 1 ≤ G p ∧ G p < Z := fun p hp hh => ⟨(HG8.out p hp hh).1, (HG8.out p hp hh).2.1⟩
          have hrlt : r < w8.heap.size := by have := HL8.out.fr.size; have := HZ5.out; omega
          have hmap : MapIs wr r intK es := (hsame r hrlt (by have := HXR.out; omega) fun p hp hh _ => by have := (hBG p hp hh).1; omega).trans HL8.out.ts.map
          have hcell : wr.cell? ⟨og, i, none⟩ = some (.int .i64 (q : Int)) := by
            have h1 := hrow.cell i (by rw [sortedF_len, ← HFN.out]; exact hlt)
            rw [World.cell?_of_block (hsame og hrow.lt (by have := HXW.out; omega) fun p hp hh _ => by have := (hBG p hp hh).2; omega)]
            rw [h1, List.getD_eq_getElem?_getD, hoi]; rfl
          have hogl : og < wr.heap.size := World.block_lt_of_cell? wr _ hcell
          have hVST : vals (i + 1) = if 0 < many (FV (q : Int)) then vals i ++ [FV (q : Int)] else vals i := by
            rw [HVALS.out]
            simp only
            rw [htk2, List.map_append, List.filter_append]
            by_cases h : 0 < many (FV (q : Int))
            · rw [if_pos h]; simp [h]
            · rw [if_neg h]; simp [h]
          have HVST := hid hVST
          have hlkp := pcs_lookup (w := wr) hmap (q : Int)
          have HTK2 := hid htk2
          have HSAME := hid hsame
          cases hhq : has q with
          | false =>
            obtain ⟨e1, e2⟩ := HL8.out.ts.hasnt q hq hhq
            rw [e1] at hlkp
            simp only [Option.getD] at hlkp
            have hmz : many (FV (q : Int)) = 0 := by rw [HFV.out]; simp only; rw [e2]; exact many_nil _ _ _
            have hv : vals (i + 1) = vals i := by rw [HVST.out, if_neg (by omega)]
            have HHQ := hid hhq
            clear hrow hmap hVST hnd hBG hsame hoi htk2 e2 hmz
            go_wp2_with fail
            refine ⟨⟨i + 1, xa, xn, xc, by go_num, hlt, ?_⟩, by simp [intOf]; omega⟩
            rw [HTK2.out, hv]
            exact ⟨HI.out.1.more rfl rfl rfl (Nat.le_refl _) fun _ _ _ _ => rfl, HI.out.2.1, HI.out.2.2.1, by have := HI.out.2.2.2.1; omega, HI.out.2.2.2.2⟩
          | true =>
            obtain ⟨e1, e2⟩ := HL8.out.ts.hass q hq hhq
            rw [e1] at hlkp
            simp only [Option.getD] at hlkp
            have hXr := HXR.out
            have hX0' := HX0.out
            have hE := e2.keep (w' := wr) (tag' := tag) (fun b hb => hsame b (by omega) (by omega) fun p hp hh _ => by have := (hBG p hp hh).1; omega)
              (fun b h1 h2 h3 => hsame b h2 (by omega) fun p hp hh hpq => by rintro rfl; have := (HG8.out p hp hh).2.2; omega) (fun _ _ => rfl)
            obtain ⟨-, -, hbw8, -, -⟩ := HR5.out w8 HL8.out.fr
            have hbw : Below w.heap.size w wr := ⟨HI.out.1.os.trans hbw8.os, HI.out.1.tape.trans hbw8.tape, HI.out.1.output.trans hbw8.output, Nat.le_trans hbw8.size HI.out.1.size, fun b hb => (hsame b (by omega) (by omega) fun p hp hh _ => by have := (hBG p hp hh).1; omega).trans (hbw8.block b hb)⟩
            have hpv : (∀ x ∈ viewsOf all (q : Int), Thin x) ∧ vsum (viewsOf all (q : Int)) ≤ l.length := by
              have h1 := part_views fs l k (q : Int)
              rw [← HALL.out, htk] at h1; exact h1
            have hFR := field_recs' hs hm HOKV.out HFS.out hq rfl HALL.out
            have hokf : (fs.getD q .zero).Ok := HFT.out.2 _ (getD_mem fs .zero hq)
            have hw0w := HC.out.size
            have hPV := pieces_value (HSUBS.out q hq) (HC.out.trans (hbw.mono hw0w)) hE.pcs (by omega) (by omega) hFR.out (HHAS.out q hhq) hpv.1 (by have := HL.out; omega) (by have := HL.out; omega) hokf
            have hFVq : FV (q : Int) = fieldV (tsub s d) (fs.getD q .zero) l (viewsOf all (q : Int)) := by rw [HFV.out]; rfl
            rw [← hFVq] at hPV
            have HPV := hid hPV
            have HE := hid hE
            have HGQ := hid (hBG q hq hhq)
            have HHQ := hid hhq
            have hx0 := HI.out.2.1.cell 0 _ rfl
            clear hrow hmap hVST hnd hBG hsame hoi htk2 e2 hE hbw8 hbw hpv hFR hokf hPV hFVq
            go_upto_region 20 with (go_at_call 42; refine HPV.out.mono ?_; rintro e w9 ⟨u0, u1, u2, u3, rfl, hg9, hval⟩; obtain ⟨nv, a1, n1, c1, a2, n2, c2, a3, n3, c3, rfl, rfl, rfl, rfl⟩ := val_form (hval w9 fun _ _ _ => rfl))
            obtain ⟨W10, HW10⟩ : ∃ W10, Hid (W10 = w9.alloc (.cells #[.int .i64 nv, .slice a1 n1 c1, .slice a2 n2 c2, .slice a3 n3 c3] 52)) := ⟨_, rfl⟩
            obtain ⟨VX, HVX⟩ : ∃ VX, Hid (VX = w9.heap.size) := ⟨_, rfl⟩
            rw [← HW10.out, ← HVX.out]
            have hb10 : Below w9.heap.size w9 W10 := by rw [HW10.out]; exact (Below.refl _ _).alloc (Nat.le_refl _) _
            have hz10 : W10.heap.size = w9.heap.size + 1 := by rw [HW10.out]; simp
            have hvx : Blk W10 VX [.int .i64 nv, .slice a1 n1 c1, .slice a2 n2 c2, .slice a3 n3 c3] 52 := by rw [HW10.out, HVX.out]; exact Blk.new w9 [.int .i64 nv, .slice a1 n1 c1, .slice a2 n2 c2, .slice a3 n3 c3] _
            have hsz9 := hg9.size
            have hsz8 := HI.out.1.size
            have hs8 := HS8.out
            have hgq := HGQ.out
            have hk10 : ∀ b, b < wr.heap.size → b ≠ G q → W10.heap[b]? = wr.heap[b]? := fun b h1 h2 => (hb10.block b (by omega)).trans (hg9.block b h1 (fun e => h2 (Option.some.inj e)))
            have hxw := HXW.out
            have hxb10 : Blk W10 (X + 1) [.slice xa xn xc, .slice ua un uc] 27 := (hk10 (X + 1) (by omega) (by omega)).trans HI.out.2.1
            have hrow10 := HI.out.2.2.2.2.later (w2 := W10) (fun b h1 h2 => hk10 b h1 (by
              rintro rfl
              rcases h2 with h2 | h2
              · rw [HSS.out] at h2; exact h2.2 q hq HHQ.out rfl
              · have := (HI.out.2.2.2.2.own _ h2).1; omega)) (by omega)
            have hMore : ∀ w', w'.os = W10.os → w'.tape = W10.tape → w'.output = W10.output → W10.heap.size ≤ w'.heap.size → (∀ b, b < w8.heap.size → b ≠ X + 1 → w'.heap[b]? = W10.heap[b]?) → L2 w8 (X + 1) has G ((sortedF fs).take (i + 1)) w' := by
              intro w' h1 h2 h3 h4 h5
              rw [HTK2.out]
              have o1 : W10.os = wr.os := by rw [HW10.out]; exact hg9.os
              have o2 : W10.tape = wr.tape := by rw [HW10.out]; exact hg9.tape
              have o3 : W10.output = wr.output := by rw [HW10.out]; exact hg9.output
              exact HI.out.1.more (h1.trans o1) (h2.trans o2) (h3.trans o3) (by omega) fun b g1 g2 g3 => (h5 b g1 g2).trans (hk10 b (by omega) (g3 HHQ.out))
            have HMORE := hid hMore
            by_cases hm0 : 0 < many (FV (q : Int))
            · rw [decide_eq_true hm0]
              have hv : vals (i + 1) = vals i ++ [FV (q : Int)] := by rw [HVST.out, if_pos hm0]
              have hP : ∀ w', (∀ b, b < W10.heap.size → (Value.slice xa xn xc).ownBlock ≠ some b → S b → w'.heap[b]? = W10.heap[b]?) → ValP' d w' [.int .i64 nv, .slice a1 n1 c1, .slice a2 n2 c2, .slice a3 n3 c3] (FV (q : Int)) := by
                intro w' hw'
                refine hval w' fun b h1 h2 => ?_
                have hSb : S b ∧ (Value.slice xa xn xc).ownBlock ≠ some b := by
                  rcases h2 with h2 | h2
                  · refine ⟨?_, fun e => by have := (HI.out.2.2.2.2.own b e).2; omega⟩
                    rw [HSS.out]
                    refine ⟨by have := HL8.out.fr.size; have := HZ5.out; omega, fun p hp hh => by have := (HG8.out p hp hh).2.1; omega⟩
                  · have hbb := (HE.out.pcs.words.own b h2).1
                    have htg := HE.out.tw b h2
                    have hlt8 : b < w8.heap.size := by
                      obtain ⟨-, e⟩ := HL8.out.ts.hass q hq HHQ.out
                      exact (e.pcs.words.own b h2).2
                    refine ⟨?_, fun e => by have := (HI.out.2.2.2.2.own b e).1; omega⟩
                    rw [HSS.out]
                    refine ⟨hbb, fun p hp hh => ?_⟩
                    rintro rfl
                    have h3 := (HG8.out p hp hh).2.2
                    have hpq : p = q := by omega
                    subst hpq
                    exact HE.out.pcs.wg h2
                exact (hw' b (by omega) hSb.2 hSb.1).trans (hb10.block b h1)
              have hxn : xn ≤ 1099511627776 := by have := HI.out.2.2.2.1; have := HFN.out; omega
              have hbs : w8.heap.size ≤ W10.heap.size := by omega
              obtain ⟨a5, c5, w5, hr5, hO5, hB5⟩ := val_push hrow10 hbs HI.out.2.2.1.symm hP hxn
              clear hP
              have d0 := hvx.cell 0 _ rfl
              have d1 := hvx.cell 1 _ rfl
              have d2 := hvx.cell 2 _ rfl
              have d3 := hvx.cell 3 _ rfl
              have x10 := hxb10.cell 0 _ rfl
              have hxb5 : Blk w5 (X + 1) [.slice xa xn xc, .slice ua un uc] 27 := (hB5.block (X + 1) (by omega)).trans hxb10
              have x5 := hxb5.cell 0 _ rfl
              have z5 := hxb5.free 0
              have l5 := hxb5.lt
              have HR5' := hid hr5
              have HO5 := hid hO5
              have HB5 := hid hB5
              have HX5' := hid hxb5
              clear hz10 hg9 hval hb10 hvx hk10 hxb10 hrow10 hMore hm0 hlkp hr5 hO5 hB5 hxb5
              go_wp2_with (at_builtin; refine wpList_append_eq rfl _ _ _ rfl _ _ rfl rfl HR5'.out ?_)
              refine ⟨⟨i + 1, a5, xn + 1, c5, by go_num, hlt, HMORE.out _ HB5.out.os HB5.out.tape HB5.out.output (by simpa using HB5.out.size) (fun b h1 h2 => (Below.heap_setCell _ _ _ b (by show b ≠ X + 1; exact h2)).trans (HB5.out.block b h1)), by simpa using HX5'.out.set 0 (.slice a5 (xn + 1) c5), by rw [hv, List.length_append, ← HI.out.2.2.1]; rfl, by have := HI.out.2.2.2.1; omega, ?_⟩, by simp [intOf]; omega⟩
              rw [hv]
              refine HO5.out.later (fun b _ h2 => Below.heap_setCell _ _ _ b ?_) (by simp)
              show b ≠ X + 1
              rcases h2 with h2 | h2
              · rw [HSS.out] at h2
                have := h2.1
                omega
              · have := (HO5.out.own b h2).1
                omega
            · rw [decide_eq_false hm0]
              have hv : vals (i + 1) = vals i := by rw [HVST.out, if_neg hm0]
              have HX10 := hid hxb10
              have HR10 := hid hrow10
              clear hg9 hval hb10 hvx hk10 hxb10 hrow10 hMore hm0 hlkp
              go_wp2_with fail
              refine ⟨⟨i + 1, xa, xn, xc, by go_num, hlt, HMORE.out _ rfl rfl rfl (Nat.le_refl _) (fun _ _ _ => rfl), HX10.out, by rw [hv]; exact HI.out.2.2.1, by have := HI.out.2.2.2.1; omega, by rw [hv]; exact HR10.out⟩, by simp [intOf]; omega⟩
        · obtain rfl : i = fn := by omega
          have hrlt : r < w8.heap.size := by have := HL8.out.fr.size; have := HZ5.out; omega
          have hXr := HXR.out
          have hX0' := HX0.out
          have hBG : ∀ p : Nat, p < fs.length → has p = true → r + 1 ≤ G p := fun p hp hh => (HG8.out p hp hh).1
          have hsame : ∀ b, b < r + 1 → b ≠ X + 1 → wr.heap[b]? = w8.heap[b]? := fun b h1 h2 => HI.out.1.block b (by omega) h2 fun p hp hh => by
            have hpm := sortedF_mem (List.mem_of_mem_take hp)
            have := hBG p (by omega) hh
            omega
          obtain ⟨hbR8, -, hbw8, -, -⟩ := HR5.out w8 HL8.out.fr
          have hbR : Blk wr X [noneS, noneS] 27 := (hsame X (by omega) (by omega)).trans hbR8
          have hbw : Below w.heap.size w wr := ⟨HI.out.1.os.trans hbw8.os, HI.out.1.tape.trans hbw8.tape, HI.out.1.output.trans hbw8.output, Nat.le_trans hbw8.size HI.out.1.size, fun b hb => (hsame b (by omega) (by omega)).trans (hbw8.block b hb)⟩
          have HBW2 := hid hbw
          have HSM := hid hsame
          have x0 := HI.out.2.1.cell 0 _ rfl
          have x1 := HI.out.2.1.cell 1 _ rfl
          have r0 := hbR.cell 0 _ rfl
          have r1 := hbR.cell 1 _ rfl
          have rf0 := hbR.free 0
          have rf1 := hbR.free 1
          have rl := hbR.lt
          clear hbR8 hbw8 hbR hbw hsame hBG
          go_wp2_with fail
          refine bodyPost_ret (v := .agg #[.slice xa xn xc, .slice ua un uc]) ?_ rfl ?_
          · simp [results, Tryz.results22, go_sem, r0, r1]
          · rw [HQ.out]
            have HFX : Hid (∀ b, b ≠ X → (((wr.setCell ⟨X, 0, none⟩ (.slice xa xn xc)).setCell ⟨X, 1, none⟩ (.slice ua un uc))).heap[b]? = wr.heap[b]?) := fun b hb => by
              rw [Below.heap_setCell _ _ _ b (by show b ≠ X; exact hb), Below.heap_setCell _ _ _ b (by show b ≠ X; exact hb)]
            have hwX : w.heap.size = X := HX.out.symm
            refine ⟨_, rfl, (HBW2.out.setCell (by show w.heap.size ≤ X; omega) _).setCell (by show w.heap.size ≤ X; omega) _, fun w9 hw9 => ?_⟩
            have hag : ∀ b, r + 1 ≤ b → b < wr.heap.size → w9.heap[b]? = wr.heap[b]? := fun b hb hlt2 =>
              (hw9 b (by simpa using hlt2) (.inr (by omega))).trans (HFX.out b (by omega))
            have hvl := HI.out.2.2.2.2.at (w' := w9) (by have := HI.out.2.2.1; have := HI.out.2.2.2.1; omega) (fun b hb hc => hag b (by
              rcases hc with hc | hc
              · rw [HSS.out] at hc; exact hc.1
              · have := (HI.out.2.2.2.2.own b hc).1; omega) hb)
            have hul : StrsAt w9 (.slice ua un uc) (unk k) := by
              have hk2 : (unk k).length ≤ k := by
                rw [HUNK.out]; simp only [List.length_map]
                have h1 := List.length_filter_le (fun x : VW => decide (x.k < 0)) (all.take k)
                rw [List.length_take] at h1
                omega
              have hown : w9.ownsRow (r + 1) 9 1 (.slice ua un uc) (unk k).length ((unk k).map strV) := by
                refine owned_keep (w := w8) HL8.out.un fun b e => ?_
                have hb := HL8.out.un.own b e
                have htg := HL8.out.tg b e
                have h1 : wr.heap[b]? = w8.heap[b]? := HI.out.1.block b hb.2 (by omega) fun p hp hh => by
                  rintro rfl
                  have hpm := sortedF_mem (List.mem_of_mem_take hp)
                  have := (HG8.out p (by omega) hh).2.2
                  omega
                exact (hag b hb.1 (Nat.lt_of_lt_of_le hb.2 HI.out.1.size)).trans h1
              refine StrsOwn.strs (base := r + 1) hown (by omega) fun t ht => ?_
              rw [HUNK.out] at ht
              obtain ⟨x, -, rfl⟩ := List.mem_map.1 ht
              unfold part
              rw [List.length_take, List.length_drop]
              have := HL.out
              omega
            have htf : M.vals (tof s d m l) = vals i ∧ M.unk (tof s d m l) = unk k := by
              rw [tof_msg]
              refine ⟨?_, ?_⟩
              · show (msgOf (tsub s d) (s.getD m .zero).fields l).vals = _
                rw [HVALS.out, HFV.out, HALL.out, HFS.out]
                unfold msgOf
                simp only
                rw [List.take_of_length_le (by rw [sortedF_len, HFN.out, HFS.out]; exact Nat.le_refl _)]
              · show (msgOf (tsub s d) (s.getD m .zero).fields l).unk = _
                rw [HUNK.out, HALL.out, HFS.out]
                unfold msgOf
                simp only
                rw [List.take_of_length_le (by rw [HAN.out, HALL.out, HFS.out]; exact Nat.le_refl _)]
            refine ⟨_, _, rfl, ?_, ?_⟩
            · rw [htf.1]; exact hvl
            · rw [htf.2]; exact hul
theorem tree_of {w0 : World} {sv : Value} {s : List Mes} (hS : SchemaAt w0 sv s) (hs : sright s = true) : ∀ d, TOfOk w0 sv s d
  | 0 => tree_of_step hS hs 0 fun _ h => by cases h
  | d + 1 => tree_of_step hS hs (d + 1) fun d' h => by
    obtain rfl : d = d' := by omega
    exact tree_of hS hs d
end Go.Proofs.YtbdeclkccchnoaaGreat
