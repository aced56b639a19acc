/- What the checker's message returns, by induction on the depth that is left; valid.check, valid.Check. What valid.Check returns: vcheck. Bytes of at most 2 to the 47. What darningref09.Ends returns as its code: runCount's. Bytes of at most 2 to the 40 (the slice of the ends must fit). -/
import Derived.Test.YtbcpeckmnmhfhaaGreatZ11
import Derived.Test.YtbcpeckmnmhfhaaGreatZ17
import Derived.Laws.AppendOwn
import Derived.OwnWalk
import Derived.Maps.AppendAt
namespace Go.Proofs.YtbcpeckmnmhfhaaGreat
open Go.RowKit
theorem grown_set (w : World) (r j : Nat) (v : Value) : w.grownBy (w.setCell ⟨r, j, none⟩ v) (some r) :=
  have hb := (Below.refl 0 w).setCell (p := ⟨r, j, none⟩) (Nat.zero_le _) v
  ⟨hb.os, hb.tape, hb.output, hb.size, fun k _ hr => Below.heap_setCell w _ _ k (fun e => hr (by rw [e]))⟩
theorem view_Look_fails {w : World} {v vf : Value} {l : List UInt8} {fs : List Fld} (h : Bytes w v l) (hf : FieldsAt w vf fs) (nm : ByteArray) (i : Nat) (hi63 : i ≤ 9223372036854775807) (c : Nat) (e : vlook fs l i = (.none, 0, false, c)) :
    Calls Tryz.prog 71 #[.agg #[.string nm, vf], v, .int .i64 i] w fun e w' => e = .returned (.tuple #[viewV .none 0 false, .int .u8 c]) ∧ Below w.heap.size w w' := by
  have := view_Look h hf nm i hi63
  rw [e] at this
  exact this
theorem view_Look_tells {w : World} {v vf : Value} {l : List UInt8} {fs : List Fld} (h : Bytes w v l) (hf : FieldsAt w vf fs) (nm : ByteArray) (i : Nat) (hi63 : i ≤ 9223372036854775807) (r : Rec) (k : Int) (run : Bool) (e : vlook fs l i = (r, k, run, 0)) :
    Calls Tryz.prog 71 #[.agg #[.string nm, vf], v, .int .i64 i] w fun e w' => e = .returned (.tuple #[viewV r k run, .int .u8 0]) ∧ Below w.heap.size w w' := by
  have := view_Look h hf nm i hi63
  rw [e] at this
  exact this
set_option maxRecDepth 100000 in
set_option maxHeartbeats 4000000 in
theorem valid_message_step {w0 : World} {cb : Nat} {sv : Value} {s : List Mes} (hS : SchemaAt w0 sv s) (hs : sright s = true) (d : Nat) (hrec : d ≠ 0 → MsgC w0 cb sv s (d - 1)) : MsgC w0 cb sv s d := by
  rintro m depth fr zf zd zm w v l rfl rfl rfl hm hC hv hl hd
  obtain ⟨x, HX⟩ : ∃ x, Hid (x = vmsg s d m l) := ⟨_, rfl⟩
  rw [← HX.out]
  have HX0 : Hid (x = vfrom s d m l 0) := by rw [Hid, HX.out, vmsg_from]
  obtain ⟨dd, hblk⟩ := hC.blk
  have HBK := hid hblk
  have HC := hid hC
  have HS := hid hS
  have HV := hid hv
  obtain ⟨hslen, sa, scap, rfl, hat⟩ := hS.open
  obtain ⟨sb, so, fv, rfl, hnm, c0, c1, hfat⟩ := hat m hm
  clear hat hS
  obtain ⟨hvl, va, vcap, rfl, -, -, -, -⟩ := hv.open
  obtain ⟨ln, HL⟩ : ∃ ln, Hid (ln = l.length) := ⟨_, rfl⟩
  rw [← HL.out] at hl hvl HV ⊢
  obtain ⟨sn, HSN⟩ : ∃ sn, Hid (sn = s.length) := ⟨_, rfl⟩
  have HRE := hid hrec
  clear hrec
  rw [← HSN.out] at hslen HBK HS HRE ⊢
  have hmn : m < sn := by rw [HSN.out]; exact hm
  have HC0 := hid c0
  have HC1 := hid c1
  have HFT := hid hfat
  clear c0 c1 hfat hblk hC hv
  have k0 := HBK.out.cell 0 _ rfl
  have k1 := HBK.out.cell 1 _ rfl
  have kz := HBK.out.free
  have kl := HBK.out.lt
  go_enter Tryz.func70, Tryz.ntmps70
  go_upto_region 1 with fail
  go_cut [] (fun wx => Hid (Chk w0 cb (.slice (some ⟨sb, so, none⟩) sn scap) wx ∧ w.grownBy wx (some cb)))
  case first =>
    go_wp2
    all_goals
      go_meet
      case rel =>
        exact ⟨⟨HC.out.le, HC.out.below.setCell HC.out.le _, ⟨_, HBK.out.set 1 _⟩⟩, grown_set _ _ _ _⟩
  case rest =>
    have HCC := hcut
    clear k0 k1 kz kl hcut
    go_wp2
    go_loopw [14, 15] (fun v14 _ wr => ∃ i : Nat, i ≤ ln ∧ v14 = .int .i64 i ∧ Hid (Chk w0 cb (.slice (some ⟨sb, so, none⟩) sn scap) wr ∧ w.grownBy wr (some cb)) ∧ Hid (x = vfrom s d m l i)) (fun v14 _ _ => ln - (intOf v14).toNat)
    case atStart => exact ⟨0, by omega, rfl, HCC, HX0⟩
    case round =>
      obtain ⟨i, hi, rfl, HCR, HXI⟩ := hrel
      obtain ⟨dr, hbr⟩ := HCR.out.1.blk
      have hkr := below_keeps HCR.out.1.below
      have k0 := hbr.cell 0 _ rfl
      have c0 := hkr _ _ HC0.out
      have c1 := hkr _ _ HC1.out
      have kl := hbr.lt
      have HVR := hid (HV.out.keep hkr)
      have HFR := hid (HFT.out.keep hkr)
      clear hkr hbr
      obtain ⟨nm, HNM⟩ : ∃ nm, Hid (nm = (s.getD m .zero).name) := ⟨_, rfl⟩
      rw [← HNM.out] at c0
      by_cases hlt : i < ln
      · have hxi := HXI.out
        rw [vfrom_at, if_neg (by have := HL.out; omega)] at hxi
        rcases vlook_cases (s.getD m .zero).fields l i with ⟨c, hc, e, hc256⟩ | ⟨r, h1, h2, h3, h4, -, hcase⟩
        · rw [e, if_pos hc] at hxi
          obtain rfl : x = (i, c) := hxi
          have HE := hid e
          have ec : ((c : Int) != 0) = true := by simp; omega
          have HCNZ := hid hc
          have w1 : IntKind.i64.wrap ((fr : Int) + (i : Int)) = fr + i := IntWalk.i64_in _ (by omega)
          clear e hc
          go_wp2_with (go_at_call 71; refine (view_Look_fails HVR.out HFR.out nm i (by omega) c HE.out).mono ?_; rintro e w1 ⟨rfl, hb1⟩; unfold viewV Rec.none)
          go_ret2
          refine ⟨ret2 (int_eq (k := .i64) (a := (fr : Int) + i) ?_) rfl, (HCR.out.1.later hb1).later ((Below.refl _ _).alloc (Nat.le_refl _) _), grown_below (grown_below HCR.out.2 hb1) ((Below.refl _ _).alloc (Nat.le_refl _) _)⟩
          first | rfl | (rw [if_neg HCNZ.out]; simp)
        · rcases hcase with e | ⟨k, run, hk, e, hkn, hrun, hnr⟩
          · rw [e, if_neg (by simp)] at hxi
            have hv0 : vval (vrec s d) (decide (d = 0)) (s.getD m .zero).fields l (r, -1, false, 0) = (0, 0) := rfl
            rw [hv0, if_neg (by simp)] at hxi
            have HX1 := hid hxi
            have HE := hid e
            have HR4 := hid (show i < r.to ∧ r.to ≤ ln by rw [HL.out]; omega)
            clear e hxi h1 h2 h3 h4
            obtain ⟨r1, r2, r3, r4, r5⟩ := r
            go_wp2_with (go_at_call 71; refine (view_Look_tells HVR.out HFR.out nm i (by omega) _ _ _ HE.out).mono ?_; rintro e w1 ⟨rfl, hb1⟩; unfold viewV; have HC1' := hid ((HCR.out.1.later hb1).later ((Below.refl w1.heap.size w1).alloc (Nat.le_refl _) (.cells #[.int .i64 r1, .int .i64 r2, .int .i64 r3, .int .i64 r4, .int .i64 r5, .int .i64 (-1), .bool false] 131))); have HG1 := hid (grown_below (grown_below HCR.out.2 hb1) ((Below.refl w1.heap.size w1).alloc (Nat.le_refl _) (.cells #[.int .i64 r1, .int .i64 r2, .int .i64 r3, .int .i64 r4, .int .i64 r5, .int .i64 (-1), .bool false] 131))); have HNB := hid (Blk.new w1 [.int .i64 r1, .int .i64 r2, .int .i64 r3, .int .i64 r4, .int .i64 r5, .int .i64 (-1), .bool false] 131); have hcl : cb < w1.heap.size := (Nat.lt_of_lt_of_le kl hb1.size); clear hb1)
            refine (valid_value_unknown m depth fr ⟨r1, r2, r3, r4, r5⟩ HC1'.out _).mono ?_
            rintro e w3 ⟨⟨p, rfl, -⟩, hC3, hg3⟩
            have v4 := (HNB.out.grown hg3 (by omega)).cell 4 _ rfl
            have HC3 := hid (And.intro hC3 (grown_grown HG1.out hg3))
            clear hC3 hg3
            go_wp2
            go_roundw
            case rel => exact ⟨r5, HR4.out.2, rfl, HC3, HX1⟩
            case measure => have h9 := HR4.out; simp [intOf]; omega
          · rw [e, if_neg (by simp)] at hxi
            have HE := hid e
            have HR4 := hid (show r.start < r.at' ∧ r.at' ≤ r.to ∧ r.to ≤ l.length ∧ i < r.to ∧ r.to ≤ ln by rw [HL.out]; omega)
            have HXI2 := hid hxi
            have HRU := hid (fun h => (hrun h).2.1)
            have HK := hid hk
            clear e hxi h1 h2 h3 h4 hrun hnr hkn hk
            obtain ⟨r1, r2, r3, r4, r5⟩ := r
            obtain ⟨y, HY⟩ : ∃ y, Hid (y = vval (vrec s d) (decide (d = 0)) (s.getD m .zero).fields l (⟨r1, r2, r3, r4, r5⟩, (k : Int), run, 0)) := ⟨_, rfl⟩
            have hx2 := HXI2.out
            rw [← HY.out] at hx2
            have HX2 := hid hx2
            clear hx2 HXI2
            go_wp2_with (go_at_call 71; refine (view_Look_tells HVR.out HFR.out nm i (by omega) _ _ _ HE.out).mono ?_; rintro e w1 ⟨rfl, hb1⟩; unfold viewV; have HC1' := hid ((HCR.out.1.later hb1).later ((Below.refl w1.heap.size w1).alloc (Nat.le_refl _) (.cells #[.int .i64 r1, .int .i64 r2, .int .i64 r3, .int .i64 r4, .int .i64 r5, .int .i64 k, .bool run] 131))); have HG1 := hid (grown_below (grown_below HCR.out.2 hb1) ((Below.refl w1.heap.size w1).alloc (Nat.le_refl _) (.cells #[.int .i64 r1, .int .i64 r2, .int .i64 r3, .int .i64 r4, .int .i64 r5, .int .i64 k, .bool run] 131))); have HNB := hid (Blk.new w1 [.int .i64 r1, .int .i64 r2, .int .i64 r3, .int .i64 r4, .int .i64 r5, .int .i64 k, .bool run] 131); have hcl : cb < w1.heap.size := (Nat.lt_of_lt_of_le kl hb1.size); clear hb1)
            have hval := valid_value_known HS.out hs d m depth fr hm HV.out (by have := HL.out; omega) hd HRE.out ⟨r1, r2, r3, r4, r5⟩ HR4.out.1 HR4.out.2.1 HR4.out.2.2.1 k HK.out run HRU.out HC1'.out
            rw [← HY.out] at hval
            refine hval.mono ?_
            rintro e w3 ⟨⟨p, rfl, hp⟩, hC3, hg3⟩
            have v4 := (HNB.out.grown hg3 (by omega)).cell 4 _ rfl
            have HC3 := hid (And.intro hC3 (grown_grown HG1.out hg3))
            have HP := hid hp
            clear hC3 hg3 hp hval
            obtain ⟨y1, y2⟩ := y
            by_cases hy : y2 = 0
            · subst hy
              have HX3 : Hid (x = vfrom s d m l r5) := by rw [Hid, HX2.out, if_neg (by simp)]
              go_wp2
              go_roundw
              case rel => exact ⟨r5, HR4.out.2.2.2.2, rfl, HC3, HX3⟩
              case measure => have h9 := HR4.out; simp [intOf]; omega
            · obtain rfl : x = (y1, y2) := by rw [HX2.out, if_pos hy]
              have ey : ((y2 : Int) != 0) = true := by simp; omega
              have HYN := hid hy
              obtain rfl : p = fr + y1 := HP.out hy
              clear hy
              go_wp2
              go_ret2
              refine ⟨ret2 (int_eq (k := .i64) (a := ((fr + y1 : Nat) : Int)) ?_) rfl, HC3.out.1, HC3.out.2⟩
              first | rfl | (rw [if_neg HYN.out])
      · obtain rfl : i = ln := by omega
        obtain rfl : x = (0, 0) := by rw [HXI.out, vfrom_at, if_pos (by rw [HL.out]; exact Nat.le_refl _)]
        go_wp2
        go_ret2
        exact ⟨ret2 (int_eq (k := .i64) (a := 0) (by simp)) rfl, HCR.out.1, HCR.out.2⟩
theorem valid_message {w0 : World} {cb : Nat} {sv : Value} {s : List Mes} (hS : SchemaAt w0 sv s) (hs : sright s = true) : ∀ d, MsgC w0 cb sv s d
  | 0 => valid_message_step hS hs 0 (fun h => absurd rfl h)
  | d + 1 => valid_message_step hS hs (d + 1) (fun _ => valid_message hS hs d)
end Go.Proofs.YtbcpeckmnmhfhaaGreat
namespace Go.Proofs.YtbcpeckmnmhfhaaGreat
open Go.RowKit
/-- place, code -/
def vcheck (s : List Mes) (root : Int) (l : List UInt8) (d : Int) : Nat × Nat :=
  if argsCode s root d ≠ 0 then (0, argsCode s root d) else (if (vmsg s d.toNat root.toNat l).2 = 0 then 0 else (vmsg s d.toNat root.toNat l).1, (vmsg s d.toNat root.toNat l).2)
theorem args_ok {s : List Mes} {root d : Int} (h : argsCode s root d = 0) : sright s = true ∧ 0 ≤ root ∧ root < s.length ∧ 0 ≤ d ∧ d ≤ 64 := by
  unfold argsCode at h
  by_cases h1 : sright s = false
  · rw [if_pos h1] at h; omega
  rw [if_neg h1] at h
  by_cases h2 : root < 0 ∨ (s.length : Int) ≤ root ∨ d < 0 ∨ 64 < d
  · rw [if_pos h2] at h; omega
  exact ⟨by simpa using h1, by omega, by omega, by omega, by omega⟩
theorem args_cases (s : List Mes) (root d : Int) : argsCode s root d = 0 ∨ argsCode s root d = 9 ∨ argsCode s root d = 2 := by
  unfold argsCode
  split
  · exact .inr (.inl rfl)
  · split
    · exact .inr (.inr rfl)
    · exact .inl rfl
set_option maxRecDepth 100000 in
set_option maxHeartbeats 4000000 in
theorem valid_check {w : World} {vs vb : Value} {s : List Mes} {l : List UInt8} (hS : SchemaAt w vs s) (hb : Bytes w vb l) (root d : Int) :
    Calls Tryz.prog 54 #[vs, .int .i64 root, vb, .int .i64 d] w fun e w' => (∃ n : Int, e = .returned (.tuple #[.int .i64 (vcheck s root l d).1, .int .i64 n, .int .u8 (vcheck s root l d).2])) ∧ Below w.heap.size w w' := by
  have HA := hid (valid_Args hS root d)
  rcases args_cases s root d with h | h | h
  · obtain ⟨g1, g2, g3, g4, g5⟩ := args_ok h
    obtain ⟨m, rfl⟩ : ∃ m : Nat, root = m := ⟨root.toNat, by omega⟩
    obtain ⟨k, rfl⟩ : ∃ k : Nat, d = k := ⟨d.toNat, by omega⟩
    obtain ⟨x, HX⟩ : ∃ x, Hid (x = vmsg s k m l) := ⟨_, rfl⟩
    have hx : vcheck s m l k = (if x.2 = 0 then 0 else x.1, x.2) := by
      unfold vcheck
      rw [if_neg (by rw [h]; decide), HX.out]; rfl
    obtain ⟨z, HZ⟩ : ∃ z : Nat, Hid (z = if x.2 = 0 then 0 else x.1) := ⟨_, rfl⟩
    rw [hx, ← HZ.out]
    rw [h] at HA
    clear hx h
    obtain ⟨hslen, sa, scap, rfl, -⟩ := hS.open
    obtain ⟨hbl, va, vcap, rfl, -, -, -, -⟩ := hb.open
    obtain ⟨ln, HL⟩ : ∃ ln, Hid (ln = l.length) := ⟨_, rfl⟩
    rw [← HL.out] at hbl hb ⊢
    obtain ⟨sn, HSN⟩ : ∃ sn, Hid (sn = s.length) := ⟨_, rfl⟩
    rw [← HSN.out] at hslen hS HA ⊢
    have HS := hid hS
    have HB := hid hb
    have H3 := hid g3
    clear g3 hS hb
    go_enter Tryz.func54, Tryz.ntmps54
    go_wp2_with (go_at_call 69; refine HA.out.mono ?_; rintro e w1 ⟨rfl, hb1⟩)
    have HC := hid (show Chk w w1.heap.size (.slice sa sn scap) (w1.alloc (.cells #[.slice sa sn scap, .int .i64 0] 152)) from ⟨hb1.size, hb1.alloc hb1.size _, ⟨0, Blk.new w1 [.slice sa sn scap, .int .i64 0] _⟩⟩)
    have hM := valid_message HS.out g1 k m 0 0 0 0 k _ _ l rfl rfl (by omega) (by have := H3.out; omega) HC.out HB.out (by rw [← HL.out]; omega) (by omega)
    rw [← HX.out] at hM
    refine hM.mono ?_
    rintro e w2 ⟨rfl, hC2, hg2⟩
    obtain ⟨dd, hbk⟩ := hC2.blk
    have b1 := hbk.cell 1 _ rfl
    have hle := hbk.lt
    have HW2 := hid hC2.below
    clear hbk hC2 hg2 hb1 hM
    simp only [Nat.zero_add]
    rw [← HZ.out]
    obtain ⟨x1, x2⟩ := x
    simp only
    go_wp2_with fail
    go_quiet (fail)
    go_wp2
    go_ret3
    exact ⟨⟨_, rfl⟩, below_drewN HW2.out _⟩
  all_goals
    have hx : vcheck s root l d = (0, argsCode s root d) := by
      unfold vcheck
      rw [if_pos (by rw [h]; decide)]
    rw [hx, h]
    rw [h] at HA
    clear hx
    go_enter Tryz.func54, Tryz.ntmps54
    go_wp2_with (go_at_call 69; refine HA.out.mono ?_; rintro e w1 ⟨rfl, hb1⟩)
    go_ret3
    exact ⟨⟨0, rfl⟩, hb1⟩
set_option maxRecDepth 100000 in
theorem valid_Check {w : World} {vs vb : Value} {s : List Mes} {l : List UInt8} (hS : SchemaAt w vs s) (hb : Bytes w vb l) (root d : Int) :
    Calls Tryz.prog 35 #[vs, .int .i64 root, vb, .int .i64 d] w fun e w' => e = .returned (.tuple #[.int .i64 (vcheck s root l d).1, .int .u8 (vcheck s root l d).2]) ∧ Below w.heap.size w w' := by
  go_enter Tryz.func35, Tryz.ntmps35
  go_wp2_with (go_at_call 54; refine (valid_check hS hb root d).mono ?_; rintro e w1 ⟨⟨n, rfl⟩, hb1⟩)
  go_ret2
  exact ⟨rfl, hb1⟩
end Go.Proofs.YtbcpeckmnmhfhaaGreat
namespace Go.Proofs.YtbcpeckmnmhfhaaGreat
open Go.RowKit
theorem kwire_num (k : Int) (h : knumber k = true) : kwire k = if k < 9 then 0 else if k < 12 then 5 else 1 := by
  have h' : 1 ≤ k ∧ k ≤ 14 := of_decide_eq_true h
  unfold kwire
  rw [if_neg (by omega), if_neg (by omega)]
  by_cases h1 : k < 9
  · rw [if_neg (by omega), if_neg (by omega), if_pos h1]
  · rw [if_neg h1]
    by_cases h2 : k < 12
    · rw [if_neg (by omega), if_pos (by omega), if_pos h2]
    · rw [if_pos (by omega), if_neg h2]
set_option maxRecDepth 100000 in
set_option maxHeartbeats 4000000 in
theorem ref09_Ends {w : World} {v : Value} {l : List UInt8} (h : Bytes w v l) (hsm : l.length ≤ 1099511627776) (k : Int) (hk : knumber k = true) :
    Calls Tryz.prog 44 #[.int .i64 k, v] w fun e w' => (∃ o, e = .returned (.tuple #[o, .int .i64 (runCount (kwire k) l).2])) ∧ Below w.heap.size w w' := by
  obtain ⟨hlen, a, cap, rfl, -, -, -, hcell⟩ := h.open
  obtain ⟨n, HN⟩ : ∃ n, Hid (n = l.length) := ⟨_, rfl⟩
  obtain ⟨x, HX⟩ : ∃ x, Hid (x = (runCount (kwire k) l).2) := ⟨_, rfl⟩
  rw [← HX.out]
  have H := hid h
  rw [← HN.out] at hlen hcell hsm ⊢
  clear hcell
  have HK := hid hk
  clear hk h
  go_enter Tryz.func44, Tryz.ntmps44
  go_wp2_with (go_at_call 27; refine (ref06_Number k _).mono ?_; rintro e w' ⟨rfl, rfl⟩; rw [HK.out])
  obtain ⟨i0, hinf, hz0, hz1, hz2⟩ := info_parts (show (Tryz.prog.info? 3).map (fun i => (i.zero, i.size, i.bytes)) = some (some (.int .i64 0), 1, 8) by kernel_rfl)
  have HZ := hid (And.intro hinf (And.intro hz0 (And.intro hz1 hz2)))
  clear hinf hz0 hz1 hz2
  go_loopw [6, 7] (fun v6 v7 wr => ∃ i : Nat, i ≤ n ∧ v7 = .int .i64 i ∧ Hid ((runCount (kwire k) (l.drop i)).2 = x) ∧ (∃ cnt row, Hid (wr.ownsRow w.heap.size 3 1 v6 cnt row) ∧ Hid (cnt ≤ i)) ∧ Hid (Below w.heap.size w wr)) (fun _ v7 _ => n - (intOf v7).toNat)
  case atStart => exact ⟨0, by omega, rfl, HX.out.symm, ⟨0, [], World.ownsRow_nil _ _ _ _, Nat.le_refl _⟩, Below.refl _ _⟩
  case round =>
    obtain ⟨i, hi, rfl, HR, ⟨cnt, row, HOWN, HCN⟩, HBEL⟩ := hrel
    by_cases hlt : i < n
    · have hwr : Bytes wr (.slice a n cap) l := by
        have := H.out.keep (below_keeps HBEL.out)
        rw [HN.out]; exact this
      have hne : l.drop i ≠ [] := by
        intro e
        have := congrArg List.length e
        simp at this
        have := HN.out
        omega
      have HNE := hid hne
      clear hne
      rcases runSize_cases (kwire k) (l.drop i) with ⟨m, e, h1, h2, h3⟩ | ⟨c, e, hc⟩
      · have HE := hid e
        have HST := hid (runCount_step (kwire k) (l.drop i) HNE.out m e)
        have hin : i + m ≤ n := by rw [List.length_drop] at h3; have := HN.out; omega
        clear e h3
        have HWR := hid hwr
        clear hwr
        by_cases hk9 : k < 9
        · have hv : ∃ wv, Hid (vread (l.drop i) = (wv, m, 0)) := by
            have := HE.out
            unfold runSize at this
            rw [if_pos (by have := HK.out; unfold kwire; simp [knumber] at this; (repeat (first | rw [if_neg (by omega)] | rw [if_pos (by omega)])))] at this
            injection this with e1 e2
            exact ⟨(vread (l.drop i)).1, by rw [Hid, ← e1, ← e2]⟩
          obtain ⟨wv, HVR⟩ := hv
          go_wp2_with (first | (go_at_call 51; refine (ref02_Read_at HWR.out _ i rfl (by rw [← HN.out]; omega)).mono ?_; rintro e w' ⟨rfl, rfl⟩; rw [HVR.out]) | (at_builtin; (refine wpList_append_own _ rfl _ _ 45 rfl w.heap.size 3 i0 (.int .i64 0) 1 8 Tryz.underlying45 HZ.out.1 HZ.out.2.1 HZ.out.2.2.1 HZ.out.2.2.2 rfl (by decide) _ _ _ rfl (HOWN.out.alloc _) ⟨wr.heap.size, 0, none⟩ 1 1 [.int .i64 ((i : Int) + (m : Int))] rfl rfl (cell_one_new _ _ _) (by simp [Value.oneCell']) (by have := HCN.out; simp only [maxLen]; omega) (by have := HCN.out; omega) (by have := HBEL.out.size; simp; omega) ?_); intro v' w1 hown' hgrow _))
          go_roundw
          case rel =>
            refine ⟨i + m, hin, by go_num, ?_, ⟨cnt + 1, _, hown', by have := HCN.out; show cnt + 1 ≤ i + m; omega⟩, ?_⟩
            · have h5 := HST.out
              rw [List.drop_drop] at h5
              rw [Hid, ← HR.out, h5]
              by_cases h6 : (runCount (kwire k) (l.drop (i + m))).2 = 0 <;> simp [h6]
            · exact (HBEL.out.alloc HBEL.out.size _).grown hgrow (by simp; have := HBEL.out.size; omega) (fun q e => (HOWN.out.lt q e).1)
          case measure => simp [intOf]; omega
        · have hmm : m = if kwire k = 1 then 8 else 4 := by
            have h7 := HE.out
            unfold runSize at h7
            rw [if_neg (by rw [kwire_num k HK.out, if_neg hk9]; split <;> decide)] at h7
            by_cases h8 : (l.drop i).length < (if kwire k = 1 then 8 else 4)
            · rw [if_pos h8] at h7; cases h7
            · rw [if_neg h8] at h7; exact (congrArg Prod.fst h7).symm
          by_cases hk12 : k < 12
          · obtain rfl : m = 4 := by
              rw [hmm, kwire_num k HK.out, if_neg hk9, if_pos hk12]; rfl
            clear hmm
            go_wp2_with (at_builtin; (refine wpList_append_own _ rfl _ _ 45 rfl w.heap.size 3 i0 (.int .i64 0) 1 8 Tryz.underlying45 HZ.out.1 HZ.out.2.1 HZ.out.2.2.1 HZ.out.2.2.2 rfl (by decide) _ _ _ rfl (HOWN.out.alloc _) ⟨wr.heap.size, 0, none⟩ 1 1 [.int .i64 ((i : Int) + 4)] rfl rfl (cell_one_new _ _ _) (by simp [Value.oneCell']) (by have := HCN.out; simp only [maxLen]; omega) (by have := HCN.out; omega) (by have := HBEL.out.size; simp; omega) ?_); intro v' w1 hown' hgrow _)
            go_roundw
            case rel =>
              refine ⟨i + 4, hin, by go_num, ?_, ⟨cnt + 1, _, hown', by have := HCN.out; show cnt + 1 ≤ i + 4; omega⟩, ?_⟩
              · have h5 := HST.out
                rw [List.drop_drop] at h5
                rw [Hid, ← HR.out, h5]
                by_cases h6 : (runCount (kwire k) (l.drop (i + 4))).2 = 0 <;> simp [h6]
              · exact (HBEL.out.alloc HBEL.out.size _).grown hgrow (by simp; have := HBEL.out.size; omega) (fun q e => (HOWN.out.lt q e).1)
            case measure => simp [intOf]; omega
          · obtain rfl : m = 8 := by
              rw [hmm, kwire_num k HK.out, if_neg hk9, if_neg hk12]; rfl
            clear hmm
            go_wp2_with (at_builtin; (refine wpList_append_own _ rfl _ _ 45 rfl w.heap.size 3 i0 (.int .i64 0) 1 8 Tryz.underlying45 HZ.out.1 HZ.out.2.1 HZ.out.2.2.1 HZ.out.2.2.2 rfl (by decide) _ _ _ rfl (HOWN.out.alloc _) ⟨wr.heap.size, 0, none⟩ 1 1 [.int .i64 ((i : Int) + 8)] rfl rfl (cell_one_new _ _ _) (by simp [Value.oneCell']) (by have := HCN.out; simp only [maxLen]; omega) (by have := HCN.out; omega) (by have := HBEL.out.size; simp; omega) ?_); intro v' w1 hown' hgrow _)
            go_roundw
            case rel =>
              refine ⟨i + 8, hin, by go_num, ?_, ⟨cnt + 1, _, hown', by have := HCN.out; show cnt + 1 ≤ i + 8; omega⟩, ?_⟩
              · have h5 := HST.out
                rw [List.drop_drop] at h5
                rw [Hid, ← HR.out, h5]
                by_cases h6 : (runCount (kwire k) (l.drop (i + 8))).2 = 0 <;> simp [h6]
              · exact (HBEL.out.alloc HBEL.out.size _).grown hgrow (by simp; have := HBEL.out.size; omega) (fun q e => (HOWN.out.lt q e).1)
            case measure => simp [intOf]; omega
      · have HE := hid e
        have HBD := hid (runCount_bad (kwire k) (l.drop i) HNE.out c (by omega) (by rw [e]))
        obtain rfl : x = c := by rw [← HR.out, HBD.out]
        have HWR := hid hwr
        clear hwr e
        by_cases hk9 : k < 9
        · obtain ⟨wv, HVR⟩ : ∃ wv, Hid (vread (l.drop i) = (wv, 0, x)) := by
            have := HE.out
            unfold runSize at this
            rw [if_pos (by rw [kwire_num k HK.out, if_pos hk9])] at this
            injection this with e1 e2
            exact ⟨(vread (l.drop i)).1, by rw [Hid, ← e1, ← e2]⟩
          have e1 : ((x : Int) == 0) = false := by simp; omega
          have e2 : ((x : Int) != 0) = true := by simp; omega
          have HCC := hid hc
          clear hc
          go_wp2_with (go_at_call 51; refine (ref02_Read_at HWR.out _ i rfl (by rw [← HN.out]; omega)).mono ?_; rintro e w' ⟨rfl, rfl⟩; rw [HVR.out])
          go_ret2
          exact ⟨⟨_, rfl⟩, HBEL.out⟩
        · by_cases hk12 : k < 12
          · obtain ⟨rfl, hs⟩ : x = 3 ∧ n < i + 4 := by
              have h7 := HE.out
              unfold runSize at h7
              rw [if_neg (by rw [kwire_num k HK.out, if_neg hk9]; split <;> decide)] at h7
              by_cases h8 : (l.drop i).length < (if kwire k = 1 then 8 else 4)
              · rw [if_pos h8] at h7
                rw [kwire_num k HK.out, if_neg hk9, if_pos hk12, List.length_drop] at h8
                have := HN.out
                exact ⟨(congrArg Prod.snd h7).symm, by simp at h8; omega⟩
              · rw [if_neg h8] at h7; have := congrArg Prod.snd h7; simp at this; omega
            go_wp2
            go_ret2
            exact ⟨⟨_, rfl⟩, HBEL.out⟩
          · obtain ⟨rfl, hs⟩ : x = 3 ∧ n < i + 8 := by
              have h7 := HE.out
              unfold runSize at h7
              rw [if_neg (by rw [kwire_num k HK.out, if_neg hk9]; split <;> decide)] at h7
              by_cases h8 : (l.drop i).length < (if kwire k = 1 then 8 else 4)
              · rw [if_pos h8] at h7
                rw [kwire_num k HK.out, if_neg hk9, if_neg hk12, List.length_drop] at h8
                have := HN.out
                exact ⟨(congrArg Prod.snd h7).symm, by simp at h8; omega⟩
              · rw [if_neg h8] at h7; have := congrArg Prod.snd h7; simp at this; omega
            go_wp2
            go_ret2
            exact ⟨⟨_, rfl⟩, HBEL.out⟩
    · obtain rfl : i = n := by omega
      obtain rfl : x = 0 := by
        rw [← HR.out, List.drop_eq_nil_of_le (by rw [HN.out]; exact Nat.le_refl _), runCount_nil]
      go_wp2
      go_ret2
      exact ⟨⟨_, rfl⟩, HBEL.out⟩
end Go.Proofs.YtbcpeckmnmhfhaaGreat
