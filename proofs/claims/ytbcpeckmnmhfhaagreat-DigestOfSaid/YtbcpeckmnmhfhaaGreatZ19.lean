/- What darningref11.First returns: vfrom; darningref11.Check. Bytes of at most 2 to the 40 (darningref09.Ends appends). The frames of a stream: plain law; the iterator frames.frames$1, whose rounds are these frames. darninglaw07.Few returns a bool, whatever the schema. Slices of slices of bytes: read (BytesL), and of the call's own (Rows). -/
import Derived.Test.YtbcpeckmnmhfhaaGreatZ07
import Derived.Test.YtbcpeckmnmhfhaaGreatZ17
import Derived.Test.YtbcpeckmnmhfhaaGreatZ18
namespace Go.Proofs.YtbcpeckmnmhfhaaGreat
open Go.RowKit
def FirstC (w0 : World) (sv : Value) (s : List Mes) (d : Nat) : Prop :=
  ∀ (m : Nat) (zd : Int) (w : World) (v : Value) (l : List UInt8), zd = d → m < s.length → Below w0.heap.size w0 w → Bytes w0 v l → l.length ≤ 1099511627776 →
    Calls Tryz.prog 22 #[sv, .int .i64 m, v, .int .i64 zd] w fun e w' =>
      e = .returned (.tuple #[.int .i64 (if (vmsg s d m l).2 = 0 then 0 else (vmsg s d m l).1 : Nat), .int .i64 (vmsg s d m l).2]) ∧ Below w.heap.size w w'
theorem ref10_Look_fails {w : World} {v vf : Value} {l : List UInt8} {fs : List Fld} (h : Bytes w v l) (hf : FieldsAt w vf fs) (nm : ByteArray) (i : Nat) (c : Nat) (e : vlook fs l i = (.none, 0, false, c)) :
    Calls Tryz.prog 43 #[.agg #[.string nm, vf], v, .int .i64 i] w fun e w' => e = .returned (.tuple #[viewV .none 0 false, .int .i64 c]) ∧ Below w.heap.size w w' := by
  have := ref10_Look h hf nm i
  rw [e] at this
  exact this
theorem ref10_Look_tells {w : World} {v vf : Value} {l : List UInt8} {fs : List Fld} (h : Bytes w v l) (hf : FieldsAt w vf fs) (nm : ByteArray) (i : Nat) (r : Rec) (k : Int) (run : Bool) (e : vlook fs l i = (r, k, run, 0)) :
    Calls Tryz.prog 43 #[.agg #[.string nm, vf], v, .int .i64 i] w fun e w' => e = .returned (.tuple #[viewV r k run, .int .i64 0]) ∧ Below w.heap.size w w' := by
  have := ref10_Look h hf nm i
  rw [e] at this
  exact this
theorem vloop_place (rec : Nat → List UInt8 → Nat × Nat) (deep : Bool) (fs : List Fld) (l : List UInt8) (hrec : ∀ o x, (rec o x).1 ≤ x.length) : ∀ (k i : Nat), (vloop rec deep fs l k i).1 ≤ l.length
  | 0, _ => Nat.zero_le _
  | k + 1, i => by
    rw [vloop]
    by_cases hi : l.length ≤ i
    · rw [if_pos hi]; exact Nat.zero_le _
    rw [if_neg hi]
    by_cases hc : (vlook fs l i).2.2.2 ≠ 0
    · rw [if_pos hc]; show i ≤ l.length; omega
    rw [if_neg hc]
    by_cases hv : (vval rec deep fs l (vlook fs l i)).2 ≠ 0
    · rw [if_pos hv]
      rcases vlook_cases fs l i with ⟨c, h, e, -⟩ | ⟨r, h1, h2, h3, h4, -, e | ⟨j, run, -, e, -⟩⟩
      · rw [e] at hc; exact absurd h (by simpa using hc)
      · rw [e]; exact Nat.zero_le _
      · rw [e]
        have h5 := hrec (fs.getD j .zero).of.toNat (part l r.at' r.to)
        rw [part_len l _ _ h3 h4] at h5
        unfold vval
        rw [if_neg (by show ¬ ((j : Int) < 0); omega)]
        simp only [Int.toNat_natCast]
        split
        · show r.start ≤ _; omega
        · split
          · split
            · exact Nat.zero_le _
            · show r.start ≤ _; omega
          · split
            · split
              · show r.start ≤ _; omega
              · show r.at' + _ ≤ _; omega
            · exact Nat.zero_le _
    · rw [if_neg hv]; exact vloop_place rec deep fs l hrec k _
theorem vmsg_place (s : List Mes) : ∀ (d m : Nat) (l : List UInt8), (vmsg s d m l).1 ≤ l.length
  | 0, _m, l => vloop_place _ _ _ l (fun _ _ => Nat.zero_le _) _ _
  | d + 1, _m, l => vloop_place _ _ _ l (vmsg_place s d) _ _
set_option maxRecDepth 100000 in
set_option maxHeartbeats 4000000 in
theorem ref11_First_step {w0 : World} {sv : Value} {s : List Mes} (hS : SchemaAt w0 sv s) (hs : sright s = true) (d : Nat) (hd : d ≤ 1000) (hrec : d ≠ 0 → FirstC w0 sv s (d - 1)) : FirstC w0 sv s d := by
  rintro m zd w v l rfl hm hC hv hl
  obtain ⟨x, HX⟩ : ∃ x, Hid (x = vmsg s d m l) := ⟨_, rfl⟩
  rw [← HX.out]
  have HX0 : Hid (x = vfrom s d m l 0) := by rw [Hid, HX.out, vmsg_from]
  have HC := hid hC
  have HS := hid hS
  have HV := hid hv
  obtain ⟨hslen, sa, scap, rfl, hat⟩ := hS.open
  obtain ⟨sb, so, fv, rfl, hnm, c0, c1, hfat⟩ := hat m hm
  clear hat hS
  obtain ⟨hvl, va, vcap, rfl, -, -, -, -⟩ := hv.open
  obtain ⟨ln, HL⟩ : ∃ ln, Hid (ln = l.length) := ⟨_, rfl⟩
  rw [← HL.out] at hl hvl HV ⊢
  obtain ⟨sn, HSN⟩ : ∃ sn, Hid (sn = s.length) := ⟨_, rfl⟩
  have HRE := hid hrec
  clear hrec
  rw [← HSN.out] at hslen HS HRE ⊢
  have hmn : m < sn := by rw [HSN.out]; exact hm
  have HC0 := hid c0
  have HC1 := hid c1
  have HFT := hid hfat
  clear c0 c1 hfat hC hv
  go_enter Tryz.func22, Tryz.ntmps22
  go_wp2
  go_loopw [10, 11] (fun v10 _ wr => ∃ i : Nat, i ≤ ln ∧ v10 = .int .i64 i ∧ Hid (Below w.heap.size w wr) ∧ Hid (x = vfrom s d m l i)) (fun v10 _ _ => ln - (intOf v10).toNat)
  case atStart => exact ⟨0, by omega, rfl, Below.refl _ _, HX0⟩
  case round =>
    obtain ⟨i, hi, rfl, HCR, HXI⟩ := hrel
    have hkr := below_keeps (HC.out.trans (HCR.out.mono HC.out.size))
    have c0 := hkr _ _ HC0.out
    have c1 := hkr _ _ HC1.out
    have HVR := hid (HV.out.keep hkr)
    have HFR := hid (HFT.out.keep hkr)
    clear hkr
    obtain ⟨nm, HNM⟩ : ∃ nm, Hid (nm = (s.getD m .zero).name) := ⟨_, rfl⟩
    rw [← HNM.out] at c0
    by_cases hlt : i < ln
    · have hxi := HXI.out
      rw [vfrom_at, if_neg (by have := HL.out; omega)] at hxi
      rcases vlook_cases (s.getD m .zero).fields l i with ⟨c, hc, e, hc256⟩ | ⟨r, h1, h2, h3, h4, -, hcase⟩
      · rw [e, if_pos hc] at hxi
        obtain rfl : x = (i, c) := hxi
        have HE := hid e
        have ec : ((c : Int) != 0) = true := by simp; omega
        have HCNZ := hid hc
        clear e hc
        go_wp2_with (go_at_call 43; refine (ref10_Look_fails HVR.out HFR.out nm i c HE.out).mono ?_; rintro e w1 ⟨rfl, hb1⟩; unfold viewV Rec.none)
        go_ret2
        refine ⟨ret2 (int_eq (k := .i64) (a := (i : Int)) ?_) rfl, (HCR.out.trans (hb1.mono HCR.out.size)).alloc (by have := HCR.out.size; have := hb1.size; omega) _⟩
        first | rfl | (rw [if_neg HCNZ.out])
      · rcases hcase with e | ⟨k, run, hk, e, hkn, hrun, hnr⟩
        · rw [e, if_neg (by simp)] at hxi
          have hv0 : vval (vrec s d) (decide (d = 0)) (s.getD m .zero).fields l (r, -1, false, 0) = (0, 0) := rfl
          rw [hv0, if_neg (by simp)] at hxi
          have HX1 := hid hxi
          have HE := hid e
          have HR4 := hid (show i < r.to ∧ r.at' ≤ r.to ∧ r.to ≤ ln by rw [HL.out]; omega)
          clear e hxi h1 h2 h3 h4
          obtain ⟨r1, r2, r3, r4, r5⟩ := r
          simp only at HR4
          have hcut := HV.out.cut HL.out r4 r5 (by have := HR4.out; omega) (by have := HR4.out; omega)
          obtain ⟨pa, pcap, hps, -, hpb⟩ := hcut
          have HPB := hid hpb
          clear hpb
          go_wp2_with (go_at_call 43; refine (ref10_Look_tells HVR.out HFR.out nm i _ _ _ HE.out).mono ?_; rintro e w1 ⟨rfl, hb1⟩; unfold viewV; have HNB := hid (Blk.new w1 [.int .i64 r1, .int .i64 r2, .int .i64 r3, .int .i64 r4, .int .i64 r5, .int .i64 (-1), .bool false] 83); have HB1 := hid ((HCR.out.trans (hb1.mono HCR.out.size)).alloc (by have := HCR.out.size; have := hb1.size; omega) (.cells #[.int .i64 r1, .int .i64 r2, .int .i64 r3, .int .i64 r4, .int .i64 r5, .int .i64 (-1), .bool false] 83)); clear hb1)
          go_roundw
          case rel => exact ⟨r5, HR4.out.2.2, rfl, HB1.out, HX1⟩
          case measure => have h9 := HR4.out; simp [intOf]; omega
        · rw [e, if_neg (by simp)] at hxi
          have HE := hid e
          have HR4 := hid (show i < r.to ∧ r.at' ≤ r.to ∧ r.to ≤ ln ∧ r.start = i by rw [HL.out]; omega)
          have HXI2 := hid hxi
          have HRU := hid (fun h => (hrun h).2.1)
          have HK := hid hk
          clear e hxi h1 h2 h3 h4 hrun hnr hkn hk
          obtain ⟨r1, r2, r3, r4, r5⟩ := r
          simp only at HR4
          obtain ⟨hflen, fa, fcap, rfl, hf⟩ := HFT.out.open
          obtain ⟨fb, fo, rfl, hok, g0, g1, g2, g3, g4, g5⟩ := hf k HK.out
          clear hf
          obtain ⟨f, HF⟩ : ∃ f, Hid (f = (s.getD m .zero).fields.getD k .zero) := ⟨_, rfl⟩
          rw [← HF.out] at hok g0 g1 g2 g3 g4 g5 HRU
          have HOF := hid (sright_field hs m hm f (by rw [HF.out]; exact getD_mem _ _ HK.out))
          obtain ⟨n, HN⟩ : ∃ n, Hid (n = (s.getD m .zero).fields.length) := ⟨_, rfl⟩
          have hkn : k < n := by rw [HN.out]; exact HK.out
          rw [← HN.out] at hflen c1 HFR HFT HC1
          obtain ⟨f1, f2, f3, f4, f5, f6⟩ := f
          simp only at g0 g1 g2 g3 g4 g5 HOF HRU
          obtain ⟨y, HY⟩ : ∃ y, Hid (y = vval (vrec s d) (decide (d = 0)) (s.getD m .zero).fields l (⟨r1, r2, r3, r4, r5⟩, (k : Int), run, 0)) := ⟨_, rfl⟩
          have hx2 := HXI2.out
          rw [← HY.out] at hx2
          have HX2 := hid hx2
          clear hx2 HXI2
          have hval : y = if run = true then (r3, (runCount (kwire f3) (part l r4 r5)).2) else
              if f3 = 15 then (if ufirst (part l r4 r5) = (part l r4 r5).length then (0, 0) else (r3, 7)) else
              if f3 = 17 then (if decide (d = 0) = true then (r3, 8) else (r4 + (vrec s d f6.toNat (part l r4 r5)).1, (vrec s d f6.toNat (part l r4 r5)).2)) else (0, 0) := by
            rw [HY.out]
            unfold vval
            rw [if_neg (by show ¬ ((k : Int) < 0); omega)]
            simp only [Int.toNat_natCast]
            rw [← HF.out]
          have HVAL := hid hval
          clear hval
          have HG := hid (And.intro g0 (And.intro g1 (And.intro g2 (And.intro g3 (And.intro g4 g5)))))
          clear g0 g1 g2 g3 g4 g5
          have hcut := HV.out.cut HL.out r4 r5 (by have := HR4.out; omega) (by have := HR4.out; omega)
          obtain ⟨pa, pcap, hps, -, hpb⟩ := hcut
          have HPB := hid hpb
          clear hpb
          go_wp2_with (go_at_call 43; refine (ref10_Look_tells HVR.out HFR.out nm i _ _ _ HE.out).mono ?_; rintro e w1 ⟨rfl, hb1⟩; unfold viewV; have HNB := hid (Blk.new w1 [.int .i64 r1, .int .i64 r2, .int .i64 r3, .int .i64 r4, .int .i64 r5, .int .i64 k, .bool run] 83); have HB1 := hid ((HCR.out.trans (hb1.mono HCR.out.size)).alloc (by have := HCR.out.size; have := hb1.size; omega) (.cells #[.int .i64 r1, .int .i64 r2, .int .i64 r3, .int .i64 r4, .int .i64 r5, .int .i64 k, .bool run] 83)); clear hb1)
          obtain ⟨W1, HW1⟩ : ∃ W1, Hid (W1 = w1.alloc (.cells #[.int .i64 r1, .int .i64 r2, .int .i64 r3, .int .i64 r4, .int .i64 r5, .int .i64 k, .bool run] 83)) := ⟨_, rfl⟩
          have HV1 : Hid (Blk W1 w1.heap.size [.int .i64 r1, .int .i64 r2, .int .i64 r3, .int .i64 r4, .int .i64 r5, .int .i64 k, .bool run] 83) := by rw [HW1.out]; exact HNB.out
          have HB2 : Hid (Below w.heap.size w W1) := by rw [HW1.out]; exact HB1.out
          rw [← HW1.out]
          obtain ⟨vb, HVB⟩ : ∃ vb, Hid (vb = w1.heap.size) := ⟨_, rfl⟩
          rw [← HVB.out] at HV1 ⊢
          clear c0 c1
          have hk1 := below_keeps (HC.out.trans (HB2.out.mono HC.out.size))
          have c1 := hk1 _ _ HC1.out
          have g0 := hk1 _ _ HG.out.1
          have g1 := hk1 _ _ HG.out.2.1
          have g2 := hk1 _ _ HG.out.2.2.1
          have g3 := hk1 _ _ HG.out.2.2.2.1
          have g4 := hk1 _ _ HG.out.2.2.2.2.1
          have g5 := hk1 _ _ HG.out.2.2.2.2.2
          have x5 := HV1.out.cell 5 _ rfl
          have l1 := World.block_lt_of_cell? W1 _ c1
          have l2 := World.block_lt_of_cell? W1 _ g1
          have lv := HV1.out.lt
          simp only at l1 l2
          clear hk1
          go_region_held3 (fun w' => w'.cell? ⟨sb, so + m * 2 + 1, none⟩ = some (.slice (some ⟨fb, fo, none⟩) n fcap) ∧ w'.cell? ⟨fb, fo + k * 6, none⟩ = some (.string f1) ∧ w'.cell? ⟨fb, fo + k * 6 + 1, none⟩ = some (.int .i64 f2) ∧ w'.cell? ⟨fb, fo + k * 6 + 2, none⟩ = some (.int .i64 f3) ∧ w'.cell? ⟨fb, fo + k * 6 + 3, none⟩ = some (.bool f4) ∧ w'.cell? ⟨fb, fo + k * 6 + 4, none⟩ = some (.bool f5) ∧ w'.cell? ⟨fb, fo + k * 6 + 5, none⟩ = some (.int .i64 f6) ∧ w'.cell? ⟨vb, 5, none⟩ = some (.int .i64 k)) (first | (with_reducible exact ⟨c1, g0, g1, g2, g3, g4, g5, x5⟩) | go_keep) (fail)
          have HF2 := hid (Blk.new W1 [.string f1, .int .i64 f2, .int .i64 f3, .bool f4, .bool f5, .int .i64 f6] 60)
          obtain ⟨W2, HW2⟩ : ∃ W2, Hid (W2 = (W1.alloc (.cells #[.string f1, .int .i64 f2, .int .i64 f3, .bool f4, .bool f5, .int .i64 f6] 60)).drew) := ⟨_, rfl⟩
          have HB3 : Hid (Below W1.heap.size W1 W2) := by rw [HW2.out]; exact ((Below.refl _ _).alloc (Nat.le_refl _) _).drew
          have HF3 : Hid (Blk W2 W1.heap.size [.string f1, .int .i64 f2, .int .i64 f3, .bool f4, .bool f5, .int .i64 f6] 60) := by rw [HW2.out]; exact HF2.out
          have HV2 := hid (HV1.out.below HB3.out)
          have HB4 := hid (HB2.out.trans (HB3.out.mono HB2.out.size))
          have HBP : Hid (Bytes W2 (.slice pa (r5 - r4) pcap) (part l r4 r5)) := HPB.out.keep (below_keeps (HC.out.trans (HB4.out.mono HC.out.size)))
          have HPL : Hid ((part l r4 r5).length = r5 - r4) := part_len l r4 r5 HR4.out.2.1 (by have := HL.out; have := HR4.out; omega)
          rw [← HW2.out]
          clear HF2 HW2 HB3 c1 g0 g1 g2 g3 g4 g5 x5 l1 l2 lv HV1 HW1
          obtain ⟨fx, HFX⟩ : ∃ fx, Hid (fx = W1.heap.size) := ⟨_, rfl⟩
          rw [← HFX.out] at HF3 ⊢
          have x6 := HV2.out.cell 6 _ rfl
          have x3 := HV2.out.cell 3 _ rfl
          have x4 := HV2.out.cell 4 _ rfl
          have y2 := HF3.out.cell 2 _ rfl
          have y5 := HF3.out.cell 5 _ rfl
          have hHR : i < r5 ∧ r4 ≤ r5 ∧ r5 ≤ ln ∧ r3 = i := HR4.out
          obtain ⟨hi5, h45, h5n, rfl⟩ := hHR
          cases run with
          | true =>
            obtain rfl : y = (r3, (runCount (kwire f3) (part l r4 r5)).2) := by rw [HVAL.out, if_pos rfl]
            obtain ⟨c, HCC⟩ : ∃ c, Hid (c = (runCount (kwire f3) (part l r4 r5)).2) := ⟨_, rfl⟩
            have hen := ref09_Ends HBP.out (by rw [HPL.out]; omega) f3 (HRU.out rfl)
            rw [← HCC.out] at hen HX2
            have HEN := hid hen
            clear hen
            by_cases hc : c = 0
            · subst hc
              have HX3 : Hid (x = vfrom s d m l r5) := by rw [Hid, HX2.out, if_neg (by simp)]
              go_wp2_with (go_at_call 44; refine HEN.out.mono ?_; rintro e w3 ⟨⟨o, rfl⟩, hb3⟩; have HB5 := hid (HB4.out.trans (hb3.mono HB4.out.size)); have z4 := (HV2.out.below hb3).cell 4 _ rfl; clear hb3)
              go_roundw
              case rel => exact ⟨r5, h5n, rfl, HB5.out, HX3⟩
              case measure => simp [intOf]; omega
            · obtain rfl : x = (r3, c) := by rw [HX2.out, if_pos hc]
              have ey : ((c : Int) != 0) = true := by simp; omega
              have HYN := hid hc
              clear hc
              go_wp2_with (go_at_call 44; refine HEN.out.mono ?_; rintro e w3 ⟨⟨o, rfl⟩, hb3⟩; have HB5 := hid (HB4.out.trans (hb3.mono HB4.out.size)); clear hb3)
              go_ret2
              refine ⟨ret2 (int_eq (k := .i64) (a := (r3 : Int)) ?_) rfl, HB5.out⟩
              first | rfl | (rw [if_neg HYN.out])
          | false =>
            by_cases h15 : f3 = 15
            · subst h15
              by_cases hu : ufirst (part l r4 r5) = (part l r4 r5).length
              · obtain rfl : y = (0, 0) := by rw [HVAL.out, if_neg (by decide), if_pos rfl, if_pos hu]
                have HX3 : Hid (x = vfrom s d m l r5) := by rw [Hid, HX2.out, if_neg (by simp)]
                have HU : Hid (decide (ufirst (part l r4 r5) = (part l r4 r5).length) = true) := decide_eq_true hu
                clear hu
                go_wp2_with (go_at_call 45; refine (ref04_Right HBP.out).mono ?_; rintro e w3 ⟨rfl, hb3⟩; rw [HU.out]; have HB5 := hid (HB4.out.trans (hb3.mono HB4.out.size)); have z4 := (HV2.out.below hb3).cell 4 _ rfl; have z2 := (HF3.out.below hb3).cell 2 _ rfl; clear hb3)
                go_roundw
                case rel => exact ⟨r5, h5n, rfl, HB5.out, HX3⟩
                case measure => simp [intOf]; omega
              · obtain rfl : y = (r3, 7) := by rw [HVAL.out, if_neg (by decide), if_pos rfl, if_neg hu]
                obtain rfl : x = (r3, 7) := by rw [HX2.out, if_pos (by simp)]
                have HU : Hid (decide (ufirst (part l r4 r5) = (part l r4 r5).length) = false) := decide_eq_false hu
                clear hu
                go_wp2_with (go_at_call 45; refine (ref04_Right HBP.out).mono ?_; rintro e w3 ⟨rfl, hb3⟩; rw [HU.out]; have HB5 := hid (HB4.out.trans (hb3.mono HB4.out.size)); clear hb3)
                go_ret2
                exact ⟨ret2 (int_eq (k := .i64) (a := (r3 : Int)) (by simp)) rfl, HB5.out⟩
            · have e15 : (f3 == 15) = false := by simpa using h15
              by_cases h17 : f3 = 17
              · subst h17
                by_cases h0 : d = 0
                · subst h0
                  obtain rfl : y = (r3, 8) := by rw [HVAL.out, if_neg (by decide), if_neg (by decide), if_pos rfl, if_pos (by decide)]
                  obtain rfl : x = (r3, 8) := by rw [HX2.out, if_pos (by simp)]
                  go_wp2
                  go_ret2
                  exact ⟨ret2 (int_eq (k := .i64) (a := (r3 : Int)) (by simp)) rfl, HB4.out⟩
                · obtain ⟨d', HD⟩ : ∃ d', Hid (d = d' + 1) := ⟨d - 1, by show d = d - 1 + 1; omega⟩
                  have hM : FirstC w0 (.slice (some ⟨sb, so, none⟩) sn scap) s d' := by have := HRE.out h0; rwa [show d - 1 = d' by have := HD.out; omega] at this
                  obtain ⟨o, rfl⟩ : ∃ o : Nat, f6 = o := ⟨f6.toNat, by have := (HOF.out.2.1 rfl).1; omega⟩
                  have hon : o < s.length := by have := (HOF.out.2.1 rfl).2; omega
                  obtain rfl : y = (r4 + (vmsg s d' o (part l r4 r5)).1, (vmsg s d' o (part l r4 r5)).2) := by
                    rw [HVAL.out, if_neg (by decide), if_neg (by decide), if_pos rfl, if_neg (by simpa using h0), HD.out]; rfl
                  have HM := hid (fun zd h1 => hM o zd W2 _ (part l r4 r5) h1 hon (HC.out.trans (HB4.out.mono HC.out.size)) HPB.out (by rw [HPL.out]; omega))
                  obtain ⟨z, HZZ⟩ : ∃ z : Nat, Hid (z = if (vmsg s d' o (part l r4 r5)).2 = 0 then 0 else (vmsg s d' o (part l r4 r5)).1) := ⟨_, rfl⟩
                  obtain ⟨q1, q2, HQ⟩ : ∃ q1 q2, Hid (vmsg s d' o (part l r4 r5) = (q1, q2)) := ⟨_, _, rfl⟩
                  rw [← HZZ.out] at HM
                  rw [HQ.out] at HM HX2 HZZ
                  clear hM h0
                  have ed : ((d : Int) == 0) = false := by have := HD.out; simp; omega
                  have w1 : IntKind.i64.wrap ((d : Int) - 1) = d - 1 := IntWalk.i64_in _ (by omega)
                  by_cases hq : q2 = 0
                  · subst hq
                    have HX3 : Hid (x = vfrom s d m l r5) := by rw [Hid, HX2.out, if_neg (by simp)]
                    go_wp2_with fail
                    refine (HM.out _ (by have := HD.out; omega)).mono ?_
                    rintro e w3 ⟨rfl, hb3⟩
                    have HB5 := hid (HB4.out.trans (hb3.mono HB4.out.size))
                    have z4 := (HV2.out.below hb3).cell 4 _ rfl
                    clear hb3
                    go_wp2
                    go_roundw
                    case rel => exact ⟨r5, h5n, rfl, HB5.out, HX3⟩
                    case measure => simp [intOf]; omega
                  · obtain rfl : x = (r4 + q1, q2) := by rw [HX2.out, if_pos hq]
                    obtain rfl : z = q1 := by rw [HZZ.out, if_neg hq]
                    have ey : ((q2 : Int) != 0) = true := by simp; omega
                    have HYN := hid hq
                    clear hq
                    have w2 : IntKind.i64.wrap ((r4 : Int) + (z : Int)) = r4 + z := by
                      have h6 := vmsg_place s d' o (part l r4 r5)
                      rw [HQ.out, HPL.out] at h6
                      simp only at h6
                      exact IntWalk.i64_in _ (by omega)
                    go_wp2_with fail
                    refine (HM.out _ (by have := HD.out; omega)).mono ?_
                    rintro e w3 ⟨rfl, hb3⟩
                    have HB5 := hid (HB4.out.trans (hb3.mono HB4.out.size))
                    have z3 := (HV2.out.below hb3).cell 3 _ rfl
                    clear hb3
                    go_wp2
                    go_ret2
                    refine ⟨ret2 (int_eq (k := .i64) (a := (r4 : Int) + z) ?_) rfl, HB5.out⟩
                    first | rfl | (rw [if_neg HYN.out]; simp)
              · have e17 : (f3 == 17) = false := by simpa using h17
                obtain rfl : y = (0, 0) := by rw [HVAL.out, if_neg (by decide), if_neg h15, if_neg h17]
                have HX3 : Hid (x = vfrom s d m l r5) := by rw [Hid, HX2.out, if_neg (by simp)]
                go_wp2
                go_roundw
                case rel => exact ⟨r5, h5n, rfl, HB4.out, HX3⟩
                case measure => simp [intOf]; omega
    · obtain rfl : i = ln := by omega
      obtain rfl : x = (0, 0) := by rw [HXI.out, vfrom_at, if_pos (by rw [HL.out]; exact Nat.le_refl _)]
      go_wp2
      go_ret2
      exact ⟨ret2 (int_eq (k := .i64) (a := 0) (by simp)) rfl, HCR.out⟩
theorem ref11_First {w0 : World} {sv : Value} {s : List Mes} (hS : SchemaAt w0 sv s) (hs : sright s = true) : ∀ d, d ≤ 1000 → FirstC w0 sv s d
  | 0, h => ref11_First_step hS hs 0 h (fun h => absurd rfl h)
  | d + 1, h => ref11_First_step hS hs (d + 1) h (fun _ => ref11_First hS hs d (by omega))
set_option maxRecDepth 100000 in
set_option maxHeartbeats 4000000 in
theorem ref11_Check {w : World} {vs vb : Value} {s : List Mes} {l : List UInt8} (hS : SchemaAt w vs s) (hb : Bytes w vb l) (hl : l.length ≤ 1099511627776) (root d : Int) :
    Calls Tryz.prog 10 #[vs, .int .i64 root, vb, .int .i64 d] w fun e w' => e = .returned (.tuple #[.int .i64 (vcheck s root l d).1, .int .i64 (vcheck s root l d).2]) ∧ Below w.heap.size w w' := by
  have HA := hid (ref11_Args hS root d)
  rcases args_cases s root d with h | h | h
  · obtain ⟨g1, g2, g3, g4, g5⟩ := args_ok h
    obtain ⟨m, rfl⟩ : ∃ m : Nat, root = m := ⟨root.toNat, by omega⟩
    obtain ⟨k, rfl⟩ : ∃ k : Nat, d = k := ⟨d.toNat, by omega⟩
    have hx : vcheck s m l k = (if (vmsg s k m l).2 = 0 then 0 else (vmsg s k m l).1, (vmsg s k m l).2) := by
      unfold vcheck
      rw [if_neg (by rw [h]; decide)]; rfl
    rw [hx]
    have HF := hid (fun w1 (hb1 : Below w.heap.size w w1) => ref11_First hS g1 k (by omega) m k w1 vb l rfl (by omega) hb1 hb hl)
    obtain ⟨z, HZ⟩ : ∃ z : Nat, Hid (z = if (vmsg s k m l).2 = 0 then 0 else (vmsg s k m l).1) := ⟨_, rfl⟩
    rw [← HZ.out] at HF ⊢
    rw [h] at HA
    clear hx h
    obtain ⟨hslen, sa, scap, rfl, -⟩ := hS.open
    obtain ⟨hbl, va, vcap, rfl, -, -, -, -⟩ := hb.open
    clear g3
    go_enter Tryz.func10, Tryz.ntmps10
    go_wp2_with (first | (go_at_call 21; refine HA.out.mono ?_; rintro e w1 ⟨rfl, hb1⟩) | (go_at_call 22; refine (HF.out _ (by assumption)).mono ?_; rintro e w2 ⟨rfl, hb2⟩))
    go_ret2
    exact ⟨rfl, hb1.trans (hb2.mono hb1.size)⟩
  all_goals
    have hx : vcheck s root l d = (0, argsCode s root d) := by
      unfold vcheck
      rw [if_pos (by rw [h]; decide)]
    rw [hx, h]
    rw [h] at HA
    clear hx
    go_enter Tryz.func10, Tryz.ntmps10
    go_wp2_with (go_at_call 21; refine HA.out.mono ?_; rintro e w1 ⟨rfl, hb1⟩)
    go_ret2
    exact ⟨rfl, hb1⟩
end Go.Proofs.YtbcpeckmnmhfhaaGreat
namespace Go.Proofs.YtbcpeckmnmhfhaaGreat
open Go.RowKit Go.Shelf
attribute [local go_sem] Oper.semAt_some
/-- A frame: its number, its place, where its bytes begin and end, the code -/
structure Ev where
  i : Nat
  at' : Nat
  ff : Nat
  tt : Nat
  c : Nat
/-- what yield is handed -/
def Ev.val (a : Option Addr) (ln cap : Nat) (e : Ev) : Value := .agg #[if e.c = 0 then sliced a (min e.ff (min e.tt ln)) (min e.tt ln) cap 1 else .slice none 0 0, .int .i64 e.at', .int .u8 e.c]
def Ev.enc (a : Option Addr) (ln cap : Nat) (e : Ev) : Array Value := #[.int .i64 e.i, e.val a ln cap]
end Go.Proofs.YtbcpeckmnmhfhaaGreat
namespace Go.Proofs.YtbcpeckmnmhfhaaGreat
open Go.RowKit
set_option maxRecDepth 100000 in
set_option maxHeartbeats 4000000 in
theorem law07_Few {w : World} {v : Value} {s : List Mes} (hS : SchemaAt w v s) :
    Calls Tryz.prog 5 #[v] w fun e w' => (∃ b, e = .returned (.bool b)) ∧ Below w.heap.size w w' := by
  obtain ⟨hlen, a, cap, rfl, hat⟩ := hS.open
  obtain ⟨n, HN⟩ : ∃ n, Hid (n = s.length) := ⟨_, rfl⟩
  rw [← HN.out] at hat hlen ⊢
  have HAT := hid hat
  clear hat hS
  go_enter Tryz.func5, Tryz.ntmps5
  go_wp2_with fail
  go_loopw [3, 4, 5] (fun v3 v4 _ wr => ∃ (z : Int) (i : Nat), v3 = .int .i64 z ∧ i ≤ n ∧ v4 = .int .i64 i ∧ Hid (Below w.heap.size w wr)) (fun _ v4 _ _ => n - (intOf v4).toNat)
  case atStart => exact ⟨0, 0, rfl, by omega, rfl, Below.refl _ _⟩
  case round =>
    obtain ⟨z, i, rfl, hi, rfl, HB⟩ := hrel
    by_cases hlt : i < n
    · have hat := HAT.out
      obtain ⟨b, o, fv, ha, hnm, c0, c1, hfs⟩ := hat i hlt
      obtain ⟨fl, fa, fcap, rfl, hft⟩ := hfs.open
      clear hat hfs
      obtain ⟨fn, HFN⟩ : ∃ fn, Hid (fn = (s.getD i .zero).fields.length) := ⟨_, rfl⟩
      obtain ⟨nm, HNM⟩ : ∃ nm, Hid (nm = (s.getD i .zero).name) := ⟨_, rfl⟩
      rw [← HFN.out] at fl c1 hft
      rw [← HNM.out] at hnm c0
      have HFT := hid hft
      clear hft
      have hkr := below_keeps HB.out
      replace c0 := hkr _ _ c0
      replace c1 := hkr _ _ c1
      clear hkr
      have hix := index_run Tryz.underlying23 size_mes ha i hlt (cap := cap)
      have hbl : b < wr.heap.size := World.block_lt_of_cell? wr _ c0
      clear ha
      go_wp2_with fail
      go_quiet (fail)
      go_wp2_with fail
      obtain ⟨wo, HWO⟩ : ∃ wo, Hid (wo = wr.drewN nq) := ⟨_, rfl⟩
      rw [← HWO.out]
      have HBO : Hid (Below w.heap.size w wo) := by rw [HWO.out]; exact below_drewN HB.out _
      replace c1 : wo.cell? ⟨b, o + i * 2 + 1, none⟩ = some (.slice fa fn fcap) := by rw [HWO.out]; exact c1
      clear c0 hbl
      have HC1 := hid c1
      clear c1
      go_loopw [3, 5] (fun v3 v5 wq => ∃ (z : Int) (k : Nat), v3 = .int .i64 z ∧ k ≤ fn ∧ v5 = .int .i64 k ∧ Hid (Below wo.heap.size wo wq)) (fun _ v5 _ => fn - (intOf v5).toNat)
      case atStart => exact ⟨_, 0, rfl, by omega, rfl, Below.refl _ _⟩
      case round =>
        obtain ⟨z2, k, rfl, hk, rfl, HBQ⟩ := hrel
        have c1 := below_keeps HBQ.out _ _ HC1.out
        have hbl : b < wr.heap.size := World.block_lt_of_cell? wr _ c1
        by_cases hlk : k < fn
        · have hft := HFT.out
          obtain ⟨b2, o2, ha2, hok, g0, -⟩ := hft k hlk
          clear hft
          have hkr := below_keeps (HBO.out.trans (HBQ.out.mono HBO.out.size))
          replace g0 := hkr _ _ g0
          clear hkr
          obtain ⟨fx, HFX⟩ : ∃ fx, Hid (fx = (s.getD i .zero).fields.getD k .zero) := ⟨_, rfl⟩
          rw [← HFX.out] at hok g0
          have hsz := hok.name
          have hix2 := index_run Tryz.underlying53 size_fld ha2 k hlk (cap := fcap)
          have hbl2 : b2 < wr.heap.size := World.block_lt_of_cell? wr _ g0
          clear ha2 hok
          go_wp2_with fail
          go_roundw
          case rel => exact ⟨_, k + 1, rfl, hlk, by go_num, HBQ⟩
          case measure => simp [intOf]; omega
        · go_wp2_with fail
          go_roundw
          case rel => exact ⟨_, i + 1, rfl, hlt, by go_num, HBO.out.trans (HBQ.out.mono HBO.out.size)⟩
          case measure => simp [intOf]; omega
    · go_wp2_with fail
      go_ret
      exact ⟨⟨_, rfl⟩, HB.out⟩
end Go.Proofs.YtbcpeckmnmhfhaaGreat
namespace Go.Proofs.YtbcpeckmnmhfhaaGreat
open Go.RowKit Go.Shelf
/-- A [][]byte reads as ls. -/
def BytesL (w : World) (v : Value) (ls : List (List UInt8)) : Prop :=
  ∃ vs : List Value, vs.length = ls.length ∧ Seg w v 1 ls.length vs ∧ ∀ j, j < ls.length → Bytes w (vs.getD j undef) (ls.getD j [])
theorem BytesL.keep {w w' : World} {v : Value} {ls : List (List UInt8)} (h : BytesL w v ls) (hk : ∀ p u, w.cell? p = some u → w'.cell? p = some u) : BytesL w' v ls :=
  let ⟨vs, h1, h2, h3⟩ := h
  ⟨vs, h1, h2.keep hk, fun j hj => (h3 j hj).keep hk⟩
/-- What a walk wants. -/
theorem BytesL.open {w : World} {v : Value} {ls : List (List UInt8)} (h : BytesL w v ls) :
    ls.length ≤ 140737488355328 ∧ ∃ a cap, v = .slice a ls.length cap ∧ (a = none → cap = 0) ∧
      ∀ k, k < ls.length → ∃ b o x, a = some ⟨b, o, none⟩ ∧ w.cell? ⟨b, o + k, none⟩ = some x ∧ Bytes w x (ls.getD k []) := by
  obtain ⟨vs, h1, ⟨_, h2, a, cap, hv, h3, h4, h5, h6⟩, hb⟩ := h
  refine ⟨h2, a, cap, hv, h5, fun k hk => ?_⟩
  have hx : vs[k]? = some (vs.getD k undef) := by simp [List.getD, h1, hk]
  obtain ⟨b, o, ha, hc⟩ := h6 k _ hx
  exact ⟨b, o, _, ha, hc, hb k hk⟩
/-- A [][]byte of the call's own, whose elements are the call's own. -/
def Rows (W : World) (base : Nat) (lv : Value) (ls : List (List UInt8)) : Prop :=
  ∃ vs : List Value, W.ownsRow base 24 1 lv ls.length vs ∧ vs.length = ls.length ∧ ∀ j, j < ls.length → Own W base (vs.getD j undef) (ls.getD j [])
theorem Rows.keep {W W' : World} {base : Nat} {lv : Value} {ls : List (List UInt8)} (h : Rows W base lv ls)
    (hk : ∀ b cur e, base ≤ b → W.heap[b]? = some (.cells cur e (0, 0)) → e = 24 ∨ e = 5 → W'.heap[b]? = W.heap[b]?) : Rows W' base lv ls :=
  let ⟨vs, h1, h2, h3⟩ := h
  ⟨vs, row_keep h1 (fun b cur hb he => hk b cur _ hb he (.inl rfl)), h2, fun j hj => row_keep (h3 j hj) (fun b cur hb he => hk b cur _ hb he (.inr rfl))⟩
theorem Rows.later {W W' : World} {base : Nat} {lv : Value} {ls : List (List UInt8)} (h : Rows W base lv ls) (hb : Below W.heap.size W W') : Rows W' base lv ls :=
  h.keep fun b _cur _e _ he _ => hb.block b (Array.getElem?_eq_some_iff.1 he).1
theorem blk_ne {W : World} {b b' : Nat} {cs : List Value} {T T' : TypeId} {cur : Array Value} (h : Blk W b cs T) (h' : W.heap[b']? = some (.cells cur T' (0, 0))) (hne : T ≠ T') : b' ≠ b := by
  rintro rfl
  unfold Blk at h
  rw [h] at h'
  injection h' with h'
  injection h' with _ ht
  exact hne ht
/-- A store into a box of another type. -/
theorem Rows.set {W : World} {base B : Nat} {lv x : Value} {ls : List (List UInt8)} {cs : List Value} {T : TypeId} (h : Rows W base lv ls) (hB : Blk W B cs T) (h1 : T ≠ 24) (h2 : T ≠ 5) (j : Nat) :
    Rows (W.setCell ⟨B, j, none⟩ x) base lv ls :=
  h.keep fun b cur e _ he hee => Below.heap_setCell W _ _ b (by
    show b ≠ B
    rcases hee with rfl | rfl
    · exact blk_ne hB he h1
    · exact blk_ne hB he h2)
theorem Own.mono {W : World} {b b' : Nat} {v : Value} {l : List UInt8} (h : Own W b v l) (hb : b' ≤ b) : Own W b' v l :=
  ⟨h.1, h.2.imp id (fun ⟨g, cap, cur, hv, hg, r⟩ => ⟨g, cap, cur, hv, Nat.le_trans hb hg, r⟩)⟩
theorem Rows.mono {W : World} {b b' : Nat} {v : Value} {ls : List (List UInt8)} (h : Rows W b v ls) (hb : b' ≤ b) : Rows W b' v ls :=
  let ⟨vs, h1, h2, h3⟩ := h
  ⟨vs, ⟨h1.1, h1.2.imp id (fun ⟨g, cap, cur, hv, hg, r⟩ => ⟨g, cap, cur, hv, Nat.le_trans hb hg, r⟩)⟩, h2, fun j hj => (h3 j hj).mono hb⟩
theorem Own.form {w : World} {base : Nat} {v : Value} {l : List UInt8} (h : Own w base v l) : ∃ a c, v = .slice a l.length c := by
  rcases h.2 with ⟨rfl, h0⟩ | ⟨g, cap, cur, rfl, _⟩
  · exact ⟨none, 0, by rw [h0]⟩
  · exact ⟨_, _, rfl⟩
theorem Rows.form {w : World} {base : Nat} {v : Value} {ls : List (List UInt8)} (h : Rows w base v ls) : ∃ a c, v = .slice a ls.length c := by
  obtain ⟨vs, h1, -, -⟩ := h
  rcases h1.2 with ⟨rfl, h0⟩ | ⟨g, cap, cur, rfl, _⟩
  · exact ⟨none, 0, by rw [h0]⟩
  · exact ⟨_, _, rfl⟩
end Go.Proofs.YtbcpeckmnmhfhaaGreat
