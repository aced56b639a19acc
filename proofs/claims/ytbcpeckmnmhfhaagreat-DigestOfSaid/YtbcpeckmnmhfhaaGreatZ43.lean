/- digest.sheet: the sheet of a right meaning (mkSh). Meanings of at most 2^40 things. -/
import Derived.Test.YtbcpeckmnmhfhaaGreatZ13
import Derived.Test.YtbcpeckmnmhfhaaGreatZ21
import Derived.Test.YtbcpeckmnmhfhaaGreatZ38
import Derived.Test.YtbcpeckmnmhfhaaGreatZ40
import Derived.Test.YtbcpeckmnmhfhaaGreatZ41
import Derived.Test.YtbcpeckmnmhfhaaGreatZ42
import Derived.Deep.RegionHeld3
import Derived.Deep.RegionLaw
import Derived.Deep.CutBlock
import Derived.Deep.CutRange
namespace Go.Proofs.YtbcpeckmnmhfhaaGreat
open Go.RowKit Go.Shelf
def DShOk (w0 : World) (sv : Value) (s : List Mes) (d : Nat) : Prop := ∀ (m : Nat) (w : World) (v : Value) (x : M d), m < s.length → Below w0.heap.size w0 w → MsgAt d w0 v x → rightB s d (m : Int) x = true → mwt d x ≤ 1099511627776 →
  Calls Tryz.prog 19 #[sv, .int .i64 (m : Int), v] w fun e w' => ∃ v', e = .returned v' ∧ Below w.heap.size w w' ∧ Apart 0 w.heap.size w' fun w2 => ShAt d w2 v' (mkSh s d (m : Int) x)
theorem size_tval' (w : World) : (sizeOf 103).run Tryz.prog w = .ok 4 w := by kernel_rfl
theorem info_line : (Tryz.prog.info? 95).map (fun i => (i.zero, i.size, i.bytes)) = some (some (.agg #[.int .i64 0, .int .u64 0, .pointer none]), 3, 24) := by kernel_rfl
def mkLin (s : List Mes) (d : Nat) (fs : List Fld) (v : Val (M d)) : Lin (Sh d) := ⟨v.num, dVal d v, if subF (fs.getD (fieldAt fs v.num).toNat .zero) = true then v.subs.head?.map (mkSh s d (fs.getD (fieldAt fs v.num).toNat .zero).of) else none⟩
theorem fits_sub1 {α : Type} {R : Int → α → Bool} {f : Fld} {v : Val α} (h : fitsB R f v = true) (hk : f.kind = 17) (hr : f.rep = false) : ∃ y, v.subs = [y] ∧ R f.of y = true := by
  unfold fitsB at h
  by_cases h0 : v.words.length + v.texts.length + v.subs.length = 0 ∨ 1 < v.words.length + v.texts.length + v.subs.length ∧ f.rep = false
  · rw [if_pos h0] at h; cases h
  · rw [if_neg h0, if_neg (by rw [hk]; decide), if_pos hk, Bool.and_eq_true] at h
    have h1 : v.words.length = 0 ∧ v.texts.length = 0 := of_decide_eq_true h.1
    have h2 : v.subs.length = 1 := by
      by_cases h3 : 1 < v.words.length + v.texts.length + v.subs.length
      · exact absurd (.inr ⟨h3, hr⟩) h0
      · have : ¬ v.words.length + v.texts.length + v.subs.length = 0 := fun h => h0 (.inl h)
        omega
    match hs : v.subs, h2 with
    | [y], _ =>
      rw [hs] at h
      exact ⟨y, rfl, by simpa using h.2⟩
theorem right_range1 {s : List Mes} : ∀ {d : Nat} {root : Int} {y : M d}, rightB s d root y = true → ∃ r : Nat, root = r ∧ r < s.length
  | 0, _, _, h => by cases h
  | d + 1, root, y, h => by
    unfold rightB at h
    by_cases h0 : root < 0 ∨ (s.length : Int) ≤ root
    · rw [if_pos h0] at h; cases h
    · exact ⟨root.toNat, by omega, by omega⟩
theorem ShAt.form : ∀ {d : Nat} {w : World} {v : Value} {x : Sh d}, ShAt d w v x → ∃ b, v = .pointer (some ⟨b, 0, none⟩)
  | 0, _, _, _, h => h.elim
  | _ + 1, _, _, _, h => by obtain ⟨b, _, e, -⟩ := h; exact ⟨b, e⟩
set_option maxRecDepth 100000 in
set_option maxHeartbeats 16000000 in
theorem digest_sheet_step {w0 : World} {sv : Value} {s : List Mes} (hS0 : SchemaAt w0 sv s) (d : Nat) (hrec : DShOk w0 sv s d) : DShOk w0 sv s (d + 1) := by
  intro m w v x hm hw hx hr hwt
  have HWT := hid hwt
  have HRE := hid hrec
  have HXM := hid (hx.keep (below_keeps hw))
  obtain ⟨fs, HFS⟩ : ∃ fs, Hid (fs = (s.getD m .zero).fields) := ⟨_, rfl⟩
  obtain ⟨-, sa, sc, rfl, hat⟩ := hS0.open
  obtain ⟨sn, HSN⟩ : ∃ n, Hid (n = s.length) := ⟨_, rfl⟩
  obtain ⟨sb, so, fv, hsa, -, c0, c1, hF⟩ := hat m hm
  subst hsa
  rw [← HFS.out] at hF
  obtain ⟨nm, HNM⟩ : ∃ nm, Hid (nm = (s.getD m .zero).name) := ⟨_, rfl⟩
  rw [← HNM.out] at c0
  obtain ⟨vv, uv, rfl, hV, hU⟩ := hx
  obtain ⟨-, va, vc, rfl, -, hva⟩ := hV.open
  obtain ⟨-, ua, uc, huv, -, -⟩ := hU.open
  obtain ⟨hfl, fa, fc, rfl, hfat⟩ := hF.open
  have hok : ValsOk (fitsB (rightB s d)) fs (M.vals x) := by
    unfold rightB at hr
    by_cases h0 : (m : Int) < 0 ∨ (s.length : Int) ≤ (m : Int)
    · rw [if_pos h0] at hr; cases hr
    · rw [if_neg h0, Bool.and_eq_true, Int.toNat_natCast, ← HFS.out] at hr
      exact (valsOk_of hr.1).1
  have HOK := hid hok
  obtain ⟨un, HUN⟩ : ∃ n, Hid (n = (M.unk x).length) := ⟨_, rfl⟩
  obtain ⟨vn, HVN⟩ : ∃ n, Hid (n = (M.vals x).length) := ⟨_, rfl⟩
  obtain ⟨fn, HFN⟩ : ∃ n, Hid (n = fs.length) := ⟨_, rfl⟩
  rw [← HUN.out] at huv
  subst huv
  rw [← HSN.out] at hS0 HRE hm ⊢
  rw [← HVN.out] at hV HXM ⊢
  have hU' := hU
  rw [← HFN.out] at hF c1 hfat hfl
  have hvn : vn ≤ 1099511627776 := by rw [HVN.out]; exact (unk_len x hwt).2
  obtain ⟨D, HD⟩ : ∃ D, Hid (D = dMsg (d + 1) x) := ⟨_, rfl⟩
  obtain ⟨U, HUU⟩ : ∃ U, Hid (U = dUnk (M.unk x)) := ⟨_, rfl⟩
  obtain ⟨L, HL⟩ : ∃ L, Hid (L = mkLin s d fs) := ⟨_, rfl⟩
  obtain ⟨Q, HQ⟩ : ∃ Q : Ending → World → Prop, Hid (Q = fun e w' => ∃ v', e = .returned v' ∧ Below w.heap.size w w' ∧ Apart 0 w.heap.size w' fun w2 => ShAt (d + 1) w2 v' (mkSh s (d + 1) (m : Int) x)) := ⟨_, rfl⟩
  rw [← HQ.out]
  obtain ⟨X, HX⟩ : ∃ X, Hid (X = w.heap.size) := ⟨_, rfl⟩
  obtain ⟨W1, HW1⟩ : ∃ W1, Hid (W1 = w.alloc (.cells #[.slice va vn vc, .slice ua un uc] 63)) := ⟨_, rfl⟩
  have hb1 : Below w.heap.size w W1 := by rw [HW1.out]; exact (Below.refl _ _).alloc (Nat.le_refl _) _
  have hx1 : Blk W1 X [.slice va vn vc, .slice ua un uc] 63 := by rw [HW1.out, HX.out]; exact Blk.new w [.slice va vn vc, .slice ua un uc] _
  have HDM : Hid (∀ W, Below W1.heap.size W1 W → Calls Tryz.prog 18 #[.agg #[.slice va vn vc, .slice ua un uc]] W fun e w' => e = .returned (.int .u64 (D : Nat)) ∧ Below W.heap.size W w') := fun W hW => by
    rw [HD.out]; exact digest_message (d + 1) W _ _ ((HXM.out.below hb1).below hW) HWT.out
  have HDU : Hid (∀ W, Below W1.heap.size W1 W → Calls Tryz.prog 40 #[.slice ua un uc] W fun e w' => e = .returned (.int .u64 (U : Nat)) ∧ Below W.heap.size W w') := fun W hW => by
    rw [HUU.out]
    exact digest_strangers (((hU'.keep (below_keeps hw)).keep (below_keeps hb1)).keep (below_keeps hW)) (by
      have h2 := HWT.out
      have e : mwt (d + 1) x = 1 + twt (M.unk x) + ((M.vals x).map (vwt (mwt d))).sum := rfl
      omega)
  have HS0 := hid hS0
  have HHW := hid hw
  have HVA := hid hva
  have HC01 := hid (And.intro c0 c1)
  have HFT := hid (And.intro hF hfat)
  have HB1 := hid hb1
  have HX1 := hid hx1
  have q0 := And.intro (show W1.drew.cell? ⟨X, 0, none⟩ = some (.slice va vn vc) from hx1.cell 0 _ rfl) (show W1.drew.cell? ⟨X, 1, none⟩ = some (.slice ua un uc) from hx1.cell 1 _ rfl)
  have hxl := hx1.lt
  clear hS0 hw hva hat c0 c1 hF hU hU' hV hr hok hfat hrec hwt hb1 hx1
  go_enter Tryz.func19, Tryz.ntmps19
  go_upto_region 1 with fail
  rw [← HW1.out, ← HX.out]
  go_region_held3 (fun w' => w'.cell? ⟨X, 0, none⟩ = some (.slice va vn vc) ∧ w'.cell? ⟨X, 1, none⟩ = some (.slice ua un uc)) (first | (with_reducible exact q0) | (with_reducible exact q1) | (with_reducible exact q2) | go_keep) (first
    | (go_at_call 18; (with_reducible refine (HDM.out _ (Below.refl W1.heap.size W1).drew).mono ?_); rintro e w2 ⟨rfl, hb2⟩; have q1 := And.intro (below_keeps hb2 _ _ q0.1) (below_keeps hb2 _ _ q0.2); have HB2 := hid ((Below.refl W1.heap.size W1).drew.trans hb2); clear hb2)
    | (go_at_call 40; (with_reducible refine (HDU.out _ HB2.out).mono ?_); rintro e w3 ⟨rfl, hb3⟩; have q2 := And.intro (below_keeps hb3 _ _ q1.1) (below_keeps hb3 _ _ q1.2); have HB3 := hid (HB2.out.trans (hb3.mono HB2.out.size)); clear hb3))
  obtain ⟨O, HO⟩ : ∃ O, Hid (O = w3.heap.size) := ⟨_, rfl⟩
  obtain ⟨W4, HW4⟩ : ∃ W, Hid (W = w3.alloc (.cells #[.int .u64 (D : Int), .int .u64 (U : Int), .slice none 0 0] 58)) := ⟨_, rfl⟩
  rw [← HW4.out, ← HO.out]
  have hb4 : Below w3.heap.size w3 W4 := by rw [HW4.out]; exact (Below.refl _ _).alloc (Nat.le_refl _) _
  have ho4 : Blk W4 O ([.int .u64 (D : Int), .int .u64 (U : Int)] ++ .slice none 0 0 :: []) 58 := by rw [HW4.out, HO.out]; exact Blk.new w3 [.int .u64 (D : Int), .int .u64 (U : Int), .slice none 0 0] _
  have HB4 := hid (HB1.out.trans ((HB3.out.trans (hb4.mono HB3.out.size)).mono HB1.out.size))
  have HXO : Hid (w.heap.size ≤ O ∧ X < O) := by have h1 := HB3.out.size; have h2 := HB1.out.size; have h3 := HX1.out.lt; have := HO.out; exact ⟨by omega, by omega⟩
  have HX4 := hid (((HX1.out.below HB3.out).below hb4))
  have HO4 : Hid (OutB (LinP (ShAt d)) 95 3 0 58 O [.int .u64 (D : Int), .int .u64 (U : Int)] [] W4 W4 (.slice none 0 0) []) := OutB.start ho4
  have HFIN : Hid (∀ (W : World) (v' : Value), OutB (LinP (ShAt d)) 95 3 0 58 O [.int .u64 (D : Int), .int .u64 (U : Int)] [] W4 W v' ((M.vals x).map L) → Q (.returned (.pointer (some ⟨O, 0, none⟩))) W) := by
    intro W v' hO
    rw [HQ.out]
    refine ⟨_, rfl, HB4.out.trans (hO.below.mono HXO.out.1), fun w2 hw2 => ?_⟩
    have hag : ∀ b, b < W.heap.size → (b < 0 ∨ O + 1 ≤ b) → w2.heap[b]? = W.heap[b]? := fun b hlt hc => hw2 b hlt (.inr (by have := HXO.out.1; omega))
    have hrow := hO.at (by rw [List.length_map, ← HVN.out]; omega) hag
    refine ⟨O, v', rfl, ?_, ?_⟩
    · have h1 : Blk w2 O [.int .u64 (D : Int), .int .u64 (U : Int), v'] 58 := (hw2 O hO.blk.lt (.inr HXO.out.1)).trans hO.blk
      rw [HD.out, HUU.out] at h1
      exact h1
    · rw [HL.out, HFS.out] at hrow
      exact hrow
  have q4 := below_keeps hb4 _ _ q2.1
  have lx4 := HX4.out.lt
  clear q0 q1 q2 hb4 ho4 hxl
  go_upto_region 3 with fail
  clear q4 lx4
  go_loopw [24] (fun v24 wr => ∃ (i : Nat) (oa : Option Addr) (oc : Nat), v24 = .int .i64 (i : Int) ∧ i ≤ vn ∧ Hid (OutB (LinP (ShAt d)) 95 3 0 58 O [.int .u64 (D : Int), .int .u64 (U : Int)] [] W4 wr (.slice oa i oc) (((M.vals x).take i).map L))) (fun v24 _ => vn - (intOf v24).toNat)
  case atStart => exact ⟨0, none, 0, rfl, by omega, HO4.out⟩
  case round =>
    obtain ⟨i, oa, oc, rfl, hi, HJ⟩ := hrel
    by_cases hlt : i < vn
    · obtain ⟨v, hv⟩ : ∃ v, (M.vals x)[i]? = some v := ⟨_, List.getElem?_eq_getElem (by rw [← HVN.out]; exact hlt)⟩
      have HBWr := hid (HB4.out.trans (HJ.out.below.mono HXO.out.1))
      have HB0 := hid (HHW.out.trans (HBWr.out.mono HHW.out.size))
      obtain ⟨b, o', v1, v2, v3, ha, g0, g1, g2, g3, hM⟩ := HVA.out i v hv
      have hM0 := hM
      obtain ⟨wv, tv, sv', hform, hnum, hWo, hTe, hSu⟩ := hM
      obtain ⟨-, a1, q1, rfl, -, -⟩ := hWo.open
      obtain ⟨-, a2, q2, rfl, -, -⟩ := hTe.open
      obtain ⟨-, a3, q3, rfl, -, hsa⟩ := hSu.open
      obtain ⟨rfl, rfl, rfl⟩ : v1 = .slice a1 v.words.length q1 ∧ v2 = .slice a2 v.texts.length q2 ∧ v3 = .slice a3 v.subs.length q3 := by cases hform; exact ⟨rfl, rfl, rfl⟩
      clear hform
      obtain ⟨num, HNUM⟩ : ∃ n, Hid (n = v.num) := ⟨_, rfl⟩
      obtain ⟨n1, HN1⟩ : ∃ n, Hid (n = v.words.length) := ⟨_, rfl⟩
      obtain ⟨n2, HN2⟩ : ∃ n, Hid (n = v.texts.length) := ⟨_, rfl⟩
      obtain ⟨n3, HN3⟩ : ∃ n, Hid (n = v.subs.length) := ⟨_, rfl⟩
      rw [← HNUM.out] at g0 hM0
      rw [← HN1.out] at g1 hM0
      rw [← HN2.out] at g2 hM0
      rw [← HN3.out] at g3 hM0
      have hkr := below_keeps HB0.out
      replace g0 := hkr _ _ g0
      replace g1 := hkr _ _ g1
      replace g2 := hkr _ _ g2
      replace g3 := hkr _ _ g3
      obtain ⟨hq0, hq1, hqn, hqF⟩ := HOK.out.at' v (List.mem_of_getElem? hv)
      unfold qOf at hq0 hq1 hqn hqF
      obtain ⟨q, hq⟩ : ∃ q : Nat, fieldAt fs v.num = q := ⟨(fieldAt fs v.num).toNat, by omega⟩
      rw [hq, Int.toNat_natCast] at hqn hqF
      rw [hq] at hq1
      have hqlt : q < fn := by rw [HFN.out]; omega
      obtain ⟨f, HF⟩ : ∃ f, Hid (f = fs.getD q .zero) := ⟨_, rfl⟩
      rw [← HF.out] at hqn hqF
      obtain ⟨dg, HDG⟩ : ∃ n, Hid (n = dVal d v) := ⟨_, rfl⟩
      have HLV : Hid (L v = ⟨num, dg, if subF f = true then v.subs.head?.map (mkSh s d f.of) else none⟩) := by
        rw [Hid, HL.out, mkLin, hq, Int.toNat_natCast, ← HF.out, HNUM.out, HDG.out]
      have HVW : Hid (vwt (mwt d) v ≤ 1099511627776) := by
        have h1 := mem_sum_le (vwt (mwt d)) (M.vals x) v (List.mem_of_getElem? hv)
        have h2 := HWT.out
        have e : mwt (d + 1) x = 1 + twt (M.unk x) + ((M.vals x).map (vwt (mwt d))).sum := rfl
        show _ ≤ _
        omega
      have HTK : Hid (((M.vals x).take (i + 1)).map L = ((M.vals x).take i).map L ++ [L v]) := by rw [Hid, List.take_add_one, hv, List.map_append]; rfl
      have HLEN : Hid ((((M.vals x).take i).map L).length = i) := by rw [Hid, List.length_map, List.length_take, ← HVN.out]; omega
      have hix := index_run Tryz.underlying61 size_tval' ha i hlt (cap := vc)
      have hbl := World.block_lt_of_cell? wr _ g0
      obtain ⟨B, HBB⟩ : ∃ B, Hid (B = wr.heap.size) := ⟨_, rfl⟩
      obtain ⟨W6, HW6⟩ : ∃ W6, Hid (W6 = wr.alloc (.cells #[.int .i64 num, .slice a1 n1 q1, .slice a2 n2 q2, .slice a3 n3 q3] 103)) := ⟨_, rfl⟩
      have hb6 : Below wr.heap.size wr W6 := by rw [HW6.out]; exact (Below.refl _ _).alloc (Nat.le_refl _) _
      have hv6 : Blk W6 B [.int .i64 num, .slice a1 n1 q1, .slice a2 n2 q2, .slice a3 n3 q3] 103 := by rw [HW6.out, HBB.out]; exact Blk.new wr [.int .i64 num, .slice a1 n1 q1, .slice a2 n2 q2, .slice a3 n3 q3] _
      have HB6 := hid hb6
      have HV6 := hid hv6
      have hb06 := HB0.out.trans (hb6.mono HB0.out.size)
      have HB06 := hid hb06
      have HBN : Hid (Calls Tryz.prog 41 #[.agg #[.string nm, .slice fa fn fc], .int .i64 num] W6.drew fun e w' => e = .returned (.tuple #[.int .i64 (q : Int), .bool true]) ∧ Below W6.drew.heap.size W6.drew w') := by
        have h := schema_ByNumber (HFT.out.1.below hb06.drew) nm num
        rw [HNUM.out, hq, if_pos (by omega), decide_eq_true (by omega)] at h
        rw [HNUM.out]; exact h
      have HDV : Hid (∀ W, Below W6.heap.size W6 W → Calls Tryz.prog 38 #[.agg #[.int .i64 num, .slice a1 n1 q1, .slice a2 n2 q2, .slice a3 n3 q3]] W fun e w' => e = .returned (.int .u64 (dg : Nat)) ∧ Below W.heap.size W w') := fun W hW => by
        rw [HDG.out]; exact digest_value (VMsg.below (VMsg.below hM0 hb06) hW) HVW.out
      have HQF := hid (And.intro hqn hqF)
      have HSA := hid hsa
      have HM0 := hid hM0
      clear hv hkr hM0 hnum hWo hTe hSu hsa hq0 hq1 hqn hqF hb6 hv6 ha
      go_upto_region 5 with fail
      rw [← HW6.out, ← HBB.out]
      clear g0 g1 g2 g3 hix hbl
      have hk6 := below_keeps hb06
      have q0 := And.intro (show W6.drew.cell? ⟨sb, so + m * 2, none⟩ = some (.string nm) from hk6 _ _ HC01.out.1) (And.intro (show W6.drew.cell? ⟨sb, so + m * 2 + 1, none⟩ = some (.slice fa fn fc) from hk6 _ _ HC01.out.2) (show W6.drew.cell? ⟨B, 0, none⟩ = some (.int .i64 num) from HV6.out.cell 0 _ rfl))
      have l6 := HV6.out.lt
      have s6 : sb < W6.heap.size := World.block_lt_of_cell? W6 _ (hk6 _ _ HC01.out.1)
      clear hk6 hb06
      go_region_held3 (fun w' => w'.cell? ⟨sb, so + m * 2, none⟩ = some (.string nm) ∧ w'.cell? ⟨sb, so + m * 2 + 1, none⟩ = some (.slice fa fn fc) ∧ w'.cell? ⟨B, 0, none⟩ = some (.int .i64 num)) (first | (with_reducible exact q0) | (with_reducible exact p1) | go_keep) (first | (go_at_call 41; (with_reducible refine HBN.out.mono ?_); rintro e w7 ⟨rfl, hb7⟩; have p1 := And.intro (below_keeps hb7 _ _ q0.1) (And.intro (below_keeps hb7 _ _ q0.2.1) (below_keeps hb7 _ _ q0.2.2)); have HB7 := hid ((Below.refl W6.heap.size W6).drew.trans hb7); clear hb7))
      have HB07 := hid (HB06.out.trans (HB7.out.mono HB06.out.size))
      have c1 := p1.2.1
      have s7 := Nat.lt_of_lt_of_le s6 HB7.out.size
      obtain ⟨fb, fo, hfb, hfok, f0, f1, f2, f3, f4, f5⟩ := HFT.out.2 q hqlt
      subst hfb
      rw [← HF.out] at f0 f1 f2 f3 f4 f5 hfok
      have hk7 := below_keeps HB07.out
      replace f0 := hk7 _ _ f0
      replace f1 := hk7 _ _ f1
      replace f2 := hk7 _ _ f2
      replace f3 := hk7 _ _ f3
      replace f4 := hk7 _ _ f4
      replace f5 := hk7 _ _ f5
      have hixf := index_run Tryz.underlying53 size_fld rfl q hqlt (a := some ⟨fb, fo, none⟩) (cap := fc)
      have hgl := World.block_lt_of_cell? w7 _ f0
      obtain ⟨FB, HFB⟩ : ∃ b, Hid (b = w7.heap.size) := ⟨_, rfl⟩
      obtain ⟨W8, HW8⟩ : ∃ W, Hid (W = w7.alloc (.cells #[.string f.name, .int .i64 f.number, .int .i64 f.kind, .bool f.rep, .bool f.packed, .int .i64 f.of] 60)) := ⟨_, rfl⟩
      have hb8 : Below w7.heap.size w7 W8 := by rw [HW8.out]; exact (Below.refl _ _).alloc (Nat.le_refl _) _
      have hf8 : Blk W8 FB [.string f.name, .int .i64 f.number, .int .i64 f.kind, .bool f.rep, .bool f.packed, .int .i64 f.of] 60 := by rw [HW8.out, HFB.out]; exact Blk.new w7 [.string f.name, .int .i64 f.number, .int .i64 f.kind, .bool f.rep, .bool f.packed, .int .i64 f.of] _
      have HB68 := hid (HB7.out.trans (hb8.mono HB7.out.size))
      have HF8 := hid hf8
      have hv8 := HV6.out.below HB68.out
      have k0 := And.intro (show W8.drew.cell? ⟨B, 0, none⟩ = some (.int .i64 num) from hv8.cell 0 _ rfl) (And.intro (show W8.drew.cell? ⟨B, 1, none⟩ = some (.slice a1 n1 q1) from hv8.cell 1 _ rfl) (And.intro (show W8.drew.cell? ⟨B, 2, none⟩ = some (.slice a2 n2 q2) from hv8.cell 2 _ rfl) (show W8.drew.cell? ⟨B, 3, none⟩ = some (.slice a3 n3 q3) from hv8.cell 3 _ rfl)))
      have l8 := hv8.lt
      have HD8 := hid (HB68.out.drew)
      have hz8 : Blk (W8.alloc (.cells #[.int .i64 0, .int .u64 0, .pointer none] 95)).drew W8.heap.size [.int .i64 0, .int .u64 0, .pointer none] 95 := Blk.new W8 [.int .i64 0, .int .u64 0, .pointer none] _
      have hbz : Below W8.heap.size W8 (W8.alloc (.cells #[.int .i64 0, .int .u64 0, .pointer none] 95)).drew := ((Below.refl _ _).alloc (Nat.le_refl _) _).drew
      have HZ8 := hid (And.intro hz8 hbz)
      have HDR := hid ((Below.refl W8.heap.size W8).drew)
      have kz : (W8.alloc (.cells #[.int .i64 0, .int .u64 0, .pointer none] 95)).drew.cell? ⟨B, 0, none⟩ = some (.int .i64 num) ∧ (W8.alloc (.cells #[.int .i64 0, .int .u64 0, .pointer none] 95)).drew.cell? ⟨B, 1, none⟩ = some (.slice a1 n1 q1) ∧ (W8.alloc (.cells #[.int .i64 0, .int .u64 0, .pointer none] 95)).drew.cell? ⟨B, 2, none⟩ = some (.slice a2 n2 q2) ∧ (W8.alloc (.cells #[.int .i64 0, .int .u64 0, .pointer none] 95)).drew.cell? ⟨B, 3, none⟩ = some (.slice a3 n3 q3) := ⟨below_keeps hbz _ _ (hv8.cell 0 _ rfl), below_keeps hbz _ _ (hv8.cell 1 _ rfl), below_keeps hbz _ _ (hv8.cell 2 _ rfl), below_keeps hbz _ _ (hv8.cell 3 _ rfl)⟩
      clear q0 p1 hk7 hb8 hf8 hv8 l6 s6 hz8 hbz
      go_upto_region 7 with fail
      rw [← HW8.out, ← HFB.out]
      clear c1 s7 f0 f1 f2 f3 f4 f5 hixf hgl
      go_cut [13] from 46 to 50 (fun s13 wx => ∃ LB : Nat, s13 = .pointer (some ⟨LB, 0, none⟩) ∧ Hid (Below W8.heap.size W8 wx ∧ W8.heap.size ≤ LB ∧ Blk wx LB [.int .i64 num, .int .u64 (dg : Int), .pointer none] 95))
      case first =>
        have HDV8 : Hid (∀ W, Below W8.heap.size W8 W → Calls Tryz.prog 38 #[.agg #[.int .i64 num, .slice a1 n1 q1, .slice a2 n2 q2, .slice a3 n3 q3]] W fun e w' => e = .returned (.int .u64 (dg : Nat)) ∧ Below W.heap.size W w') := fun W hW => HDV.out W (HB68.out.trans (hW.mono HB68.out.size))
        clear HJ HVA HOK HWT HFIN HRE HHW HFT HFS HNM HC01 HSN HUN HVN HFN HS0 HX HW1 HB1 HX1 HDM HDU HB2 HB3 HB4 HXO HX4 HO4 HTK HLEN HLV HVW HSA HM0 HBN HDV HB6 HV6 HB06 HB7 HB07 HB0 HBWr HF8 HQF HD8
        go_region_held3 (fun w' => w'.cell? ⟨B, 0, none⟩ = some (.int .i64 num) ∧ w'.cell? ⟨B, 1, none⟩ = some (.slice a1 n1 q1) ∧ w'.cell? ⟨B, 2, none⟩ = some (.slice a2 n2 q2) ∧ w'.cell? ⟨B, 3, none⟩ = some (.slice a3 n3 q3)) (first | (with_reducible exact k0) | (with_reducible exact k1) | (with_reducible exact kz) | go_keep | (refine (fun (hb : Below W8.heap.size W8 _) => ⟨below_keeps hb _ _ k0.1, below_keeps hb _ _ k0.2.1, below_keeps hb _ _ k0.2.2.1, below_keeps hb _ _ k0.2.2.2⟩) ?_; (repeat (first | with_reducible exact Below.refl _ _ | with_reducible refine Below.setCell ?_ (by first | omega | (simp; omega) | (simp; done)) _ | with_reducible refine Below.alloc ?_ (by first | omega | (simp; omega) | (simp; done)) _ | with_reducible refine below_drewN ?_ _ | with_reducible refine Below.drew ?_)); exact HB89.out)) (first
          | (go_at_call 38; (with_reducible refine (HDV8.out _ HZ8.out.2).mono ?_); rintro e w9 ⟨rfl, hb9⟩; have hb89 := below_step HZ8.out.2 hb9 HZ8.out.2.size; have k1 : w9.cell? ⟨B, 0, none⟩ = some (.int .i64 num) ∧ w9.cell? ⟨B, 1, none⟩ = some (.slice a1 n1 q1) ∧ w9.cell? ⟨B, 2, none⟩ = some (.slice a2 n2 q2) ∧ w9.cell? ⟨B, 3, none⟩ = some (.slice a3 n3 q3) := ⟨below_keeps hb89 _ _ k0.1, below_keeps hb89 _ _ k0.2.1, below_keeps hb89 _ _ k0.2.2.1, below_keeps hb89 _ _ k0.2.2.2⟩; have hz9 := HZ8.out.1.below hb9; have z0 := hz9.cell 0 _ rfl; have z1 := hz9.cell 1 _ rfl; have z2 := hz9.cell 2 _ rfl; have y0 := hz9.free 0; have y1 := hz9.free 1; have y2 := hz9.free 2; have zl := hz9.lt; have HZ9 := hid hz9; have HB89 := hid hb89; clear hz9 hb89 hb9)
          | (go_at_call 38; (with_reducible refine (HDV8.out _ HDR.out).mono ?_); rintro e w9 ⟨rfl, hb9⟩; have hb89 := below_step HDR.out hb9 HDR.out.size; have k1 : w9.cell? ⟨B, 0, none⟩ = some (.int .i64 num) ∧ w9.cell? ⟨B, 1, none⟩ = some (.slice a1 n1 q1) ∧ w9.cell? ⟨B, 2, none⟩ = some (.slice a2 n2 q2) ∧ w9.cell? ⟨B, 3, none⟩ = some (.slice a3 n3 q3) := ⟨below_keeps hb89 _ _ k0.1, below_keeps hb89 _ _ k0.2.1, below_keeps hb89 _ _ k0.2.2.1, below_keeps hb89 _ _ k0.2.2.2⟩; have HB89 := hid hb89; clear hb89 hb9))
        · go_wp2_with fail
          go_meet
          case rel => exact ⟨_, rfl, HB89.out.alloc HB89.out.size _, HB89.out.size, Blk.new w9 [.int .i64 num, .int .u64 (dg : Int), .pointer none] _⟩
        · go_wp2_with fail
          go_meet
          case rel =>
            refine ⟨_, rfl, ?_, Nat.le_refl _, ?_⟩
            · (repeat (first | with_reducible exact Below.refl _ _ | with_reducible refine Below.setCell ?_ (by first | omega | (simp; omega) | (simp; done)) _ | with_reducible refine Below.alloc ?_ (by first | omega | (simp; omega) | (simp; done)) _ | with_reducible refine below_drewN ?_ _ | with_reducible refine Below.drew ?_))
              exact HB89.out
            · exact (((HZ9.out.set 0 (.int .i64 num)).set 1 (.int .u64 (dg : Int))).set 2 (.pointer none))
      case rest =>
        obtain ⟨LB, rfl, HC⟩ := hcut
        have hb810 := HC.out.1
        have HB610 := hid (HB68.out.trans (hb810.mono HB68.out.size))
        have HF10 := hid (HF8.out.below hb810)
        have HV10 := hid (HV6.out.below HB610.out)
        have HL10 := hid HC.out.2.2
        have HBr10 := hid (HB6.out.trans (HB610.out.mono HB6.out.size))
        have HB010 := hid (HB0.out.trans (HBr10.out.mono HB0.out.size))
        have HLG : Hid (wr.heap.size ≤ LB) := Nat.le_trans (Nat.le_trans HB6.out.size HB68.out.size) HC.out.2.1
        have HLN : Hid (FB < LB ∧ B < LB) := ⟨by have h1 := HF8.out.lt; have h2 := HC.out.2.1; omega, by have h1 := (HV6.out.below HB68.out).lt; have h2 := HC.out.2.1; omega⟩
        have e2 := HF10.out.cell 2 _ rfl
        have e3 := HF10.out.cell 3 _ rfl
        have el := HF10.out.lt
        clear k0 kz hb810 l8 HZ8 HDR HD8 HDV HC HB68
        have HADD : Hid (∀ (Wx : World) (p : Value), p.oneCell' = true → Below wr.heap.size wr Wx → (∀ w', (∀ b, b < Wx.heap.size → wr.heap.size ≤ b → w'.heap[b]? = Wx.heap[b]?) → PtrP (ShAt d) w' p (L v).sub) →
            ∃ a5 c5 w9, (Builtin.append_ #[56, 56] 56 #[.slice oa i oc, .slice (some ⟨Wx.drew.heap.size, 0, none⟩) 1 1]).run Tryz.prog (Wx.drew.alloc (.cells #[.int .i64 num, .int .u64 (dg : Int), p] 95)) = .ok (.slice a5 (i + 1) c5) w9 ∧
              (w9.cell? ⟨O, 2, none⟩ = some (.slice oa i oc) ∧ w9.frozen? ⟨O, 2, none⟩ = false ∧ O < w9.heap.size) ∧
              OutB (LinP (ShAt d)) 95 3 0 58 O [.int .u64 (D : Int), .int .u64 (U : Int)] [] W4 (w9.setCell ⟨O, 2, none⟩ (.slice a5 (i + 1) c5)) (.slice a5 (i + 1) c5) (((M.vals x).take (i + 1)).map L)) := by
          intro Wx p hp hb hP
          obtain ⟨a5, c5, w9, h1, -, -, ⟨h4, h6, h7, -⟩, h5⟩ := HJ.out.step hb.drew (by decide) (by omega) HLEN.out 56 _ 24 Tryz.underlying56 info_line rfl #[.int .i64 num, .int .u64 (dg : Int), p] rfl (by intro u hu; simp at hu; rcases hu with rfl | rfl | rfl <;> first | rfl | exact hp) (L v)
            (fun w' hw' => ⟨p, by rw [HLV.out], hP w' fun b hb1 hb2 => hw' b hb1 (.inr hb2)⟩) (by omega) (by decide) 2 rfl
          rw [HTK.out]
          exact ⟨a5, c5, w9, h1, ⟨h4, h6, h7⟩, h5⟩
        have HOC : Hid (∀ Wx, Below wr.heap.size wr Wx → Wx.cell? ⟨O, 2, none⟩ = some (.slice oa i oc) ∧ O < Wx.heap.size) := fun Wx hb => ⟨(hb.cell (p := ⟨O, 2, none⟩) HJ.out.lt).trans (HJ.out.cell 2 _ rfl), Nat.lt_of_lt_of_le HJ.out.lt hb.size⟩
        by_cases hsf : f.kind = 17 ∧ f.rep = false
        · obtain ⟨h17, hrp⟩ := hsf
          obtain ⟨y, hsy, hry⟩ := fits_sub1 HQF.out.2 h17 hrp
          obtain ⟨r, hr, hrs⟩ := right_range1 hry
          obtain ⟨b', o2, y1, y2, hya, u0, u1, hMy⟩ := HSA.out 0 y (by rw [hsy]; rfl)
          have hn3 : n3 = 1 := by rw [HN3.out, hsy]; rfl
          subst hn3
          have HMY : Hid (mwt d y ≤ 1099511627776) := by
            have h1 := mem_sum_le (mwt d) v.subs y (by rw [hsy]; simp)
            have h2 := HVW.out
            have e : vwt (mwt d) v = 1 + v.words.length + twt v.texts + (v.subs.map (mwt d)).sum := rfl
            show _ ≤ _
            omega
          have hkr := below_keeps HB010.out
          have hbl : b' < w0.heap.size := World.block_lt_of_cell? w0 _ u0
          have hbl2 := HB0.out.size
          replace u0 := hkr _ _ u0
          replace u1 := hkr _ _ u1
          rw [Nat.zero_mul, Nat.add_zero] at u0 u1
          obtain ⟨z1, m1, r1, z2, m2, r2, e1, e4⟩ := msg_form hMy
          subst e1
          subst e4
          subst hya
          have hix := index_run Tryz.underlying101 size_msg rfl 0 (by decide : 0 < 1) (a := some ⟨b', o2, none⟩) (cap := q3)
          have hsub : (L v).sub = some (mkSh s d (r : Int) y) := by
            rw [HLV.out]
            show (if subF f = true then v.subs.head?.map (mkSh s d f.of) else none) = _
            unfold subF
            rw [if_pos (by rw [h17, hrp]; rfl), hsy, hr]; rfl
          have HC := hid (HRE.out r wc.drew _ y hrs HB010.out.drew hMy (by rw [hr] at hry; exact hry) HMY.out)
          have hb17 : (f.kind == 17) = true := by simpa using h17
          have e5 := HF10.out.cell 5 _ rfl
          rw [hr] at e5
          rw [hrp] at e3
          have v3 := HV10.out.cell 3 _ rfl
          have vl := HV10.out.lt
          have ul := World.block_lt_of_cell? wc _ u0
          have q0 := And.intro (show wc.drew.cell? ⟨FB, 5, none⟩ = some (.int .i64 (r : Int)) from e5) (And.intro (show wc.drew.cell? ⟨B, 3, none⟩ = some (.slice (some ⟨b', o2, none⟩) 1 q3) from v3) (And.intro (show wc.drew.cell? ⟨b', o2, none⟩ = some (.slice z1 m1 r1) from u0) (show wc.drew.cell? ⟨b', o2 + 1, none⟩ = some (.slice z2 m2 r2) from u1)))
          have HLS := hid hsub
          clear hMy hkr hry hsub hsy h17 hrp hr hrs v3 e5
          go_upto_region 9 with fail
          go_region_held3 (fun w' => w'.cell? ⟨FB, 5, none⟩ = some (.int .i64 (r : Int)) ∧ w'.cell? ⟨B, 3, none⟩ = some (.slice (some ⟨b', o2, none⟩) 1 q3) ∧ w'.cell? ⟨b', o2, none⟩ = some (.slice z1 m1 r1) ∧ w'.cell? ⟨b', o2 + 1, none⟩ = some (.slice z2 m2 r2)) (first | (with_reducible exact q0) | (with_reducible exact p1) | (with_reducible exact p2) | go_keep) (first
            | (go_at_call 19; (with_reducible refine HC.out.mono ?_); rintro e w11 ⟨vp, rfl, hb11, hap⟩; obtain ⟨pb, rfl⟩ := hap.here.form; have p1 := And.intro (below_keeps hb11 _ _ q0.1) (And.intro (below_keeps hb11 _ _ q0.2.1) (And.intro (below_keeps hb11 _ _ q0.2.2.1) (below_keeps hb11 _ _ q0.2.2.2))); have hl11 := HL10.out.below ((Below.refl wc.heap.size wc).drew.trans hb11); have l2 := hl11.cell 2 _ rfl; have lz := hl11.free 2; have ll := hl11.lt; have hst : ∀ b j u, b ≠ LB → w11.cell? ⟨b, j, none⟩ = some u → (w11.setCell ⟨LB, 2, none⟩ (.pointer (some ⟨pb, 0, none⟩))).cell? ⟨b, j, none⟩ = some u := fun b j u hb hu => (World.cell?_of_block (Below.heap_setCell w11 ⟨LB, 2, none⟩ (.pointer (some ⟨pb, 0, none⟩)) b (by show b ≠ LB; exact hb))).trans hu; have p2 := And.intro (hst _ _ _ (by have := HLN.out; omega) p1.1) (And.intro (hst _ _ _ (by have := HLN.out; omega) p1.2.1) (And.intro (hst _ _ _ (by have := HLG.out; omega) p1.2.2.1) (hst _ _ _ (by have := HLG.out; omega) p1.2.2.2))); clear hst; have HL11 := hid hl11; have HAP := hid hap; have HB11 := hid ((Below.refl wc.heap.size wc).drew.trans hb11); clear hl11 hap hb11))
          clear q0 p1 p2 e2 e3 el vl ul u0 u1 hix l2 lz ll
          obtain ⟨W12, HW12⟩ : ∃ W, Hid (W = w11.setCell ⟨LB, 2, none⟩ (.pointer (some ⟨pb, 0, none⟩))) := ⟨_, rfl⟩
          rw [← HW12.out]
          have hl12 : Blk W12 LB [.int .i64 num, .int .u64 (dg : Int), .pointer (some ⟨pb, 0, none⟩)] 95 := by rw [HW12.out]; exact HL11.out.set 2 (.pointer (some ⟨pb, 0, none⟩))
          have hb12 : Below wr.heap.size wr W12 := by rw [HW12.out]; exact (HBr10.out.trans (HB11.out.mono HBr10.out.size)).setCell (by show wr.heap.size ≤ LB; exact HLG.out) _
          have hpt : ∀ w', (∀ b, b < W12.heap.size → wr.heap.size ≤ b → w'.heap[b]? = W12.heap[b]?) → PtrP (ShAt d) w' (.pointer (some ⟨pb, 0, none⟩)) (L v).sub := fun w' hw' => by
            rw [HLS.out]
            show ShAt d w' _ _
            refine HAP.out w' fun b hb hc => ?_
            have hbw : wc.heap.size ≤ b := by
              rcases hc with hc | hc
              · omega
              · exact hc
            have hLB : LB < wc.heap.size := HL10.out.lt
            have h1 := hw' b (by rw [HW12.out]; simpa using hb) (by have := HBr10.out.size; omega)
            rw [h1, HW12.out, Below.heap_setCell _ _ _ b (by show b ≠ LB; omega)]
          obtain ⟨a5, c5, w9, hr9, ⟨e5, z3, l9⟩, hO9⟩ := HADD.out W12 (.pointer (some ⟨pb, 0, none⟩)) rfl hb12 hpt
          have hoc := HOC.out W12 hb12
          have k0 : W12.drew.cell? ⟨O, 2, none⟩ = some (.slice oa i oc) := hoc.1
          have k1 : W12.drew.cell? ⟨LB, 0, none⟩ = some (.int .i64 num) := hl12.cell 0 _ rfl
          have k2 : W12.drew.cell? ⟨LB, 1, none⟩ = some (.int .u64 (dg : Int)) := hl12.cell 1 _ rfl
          have k3 : W12.drew.cell? ⟨LB, 2, none⟩ = some (.pointer (some ⟨pb, 0, none⟩)) := hl12.cell 2 _ rfl
          have k4 : W12.cell? ⟨O, 2, none⟩ = some (.slice oa i oc) := hoc.1
          have ko := hoc.2
          have kl := hl12.lt
          have HR9 := hid hr9
          have HO9 := hid hO9
          clear hO9 hr9 hoc HADD HOC hl12 hb12 hpt HAP HC hb17
          go_upto_region 10 with fail
          go_region_law (refine step_append_eq rfl (.tmp 72) (.tmp 74) _ rfl _ _ rfl rfl HR9.out ?_)
          all_goals
            go_wp2_with fail
            go_roundw
            case rel => exact ⟨i + 1, _, _, by go_num, hlt, HO9.out⟩
            case measure => simp [intOf]; omega
        · have hk : (decide (f.kind = 17) && !f.rep) = false := by
            cases h2 : f.rep with
            | true => simp
            | false =>
              have h1 : f.kind ≠ 17 := fun e => hsf ⟨e, h2⟩
              simp [h1]
          have hsub : (L v).sub = none := by rw [HLV.out]; show (if subF f = true then _ else none) = none; unfold subF; rw [hk, if_neg (by decide)]
          obtain ⟨a5, c5, w9, hr9, ⟨e5, z3, l9⟩, hO9⟩ := HADD.out wc (.pointer none) rfl HBr10.out (fun w' _ => by rw [hsub]; rfl)
          have hoc := HOC.out wc HBr10.out
          have k0 : wc.drew.cell? ⟨O, 2, none⟩ = some (.slice oa i oc) := hoc.1
          have k1 : wc.drew.cell? ⟨LB, 0, none⟩ = some (.int .i64 num) := HL10.out.cell 0 _ rfl
          have k2 : wc.drew.cell? ⟨LB, 1, none⟩ = some (.int .u64 (dg : Int)) := HL10.out.cell 1 _ rfl
          have k3 : wc.drew.cell? ⟨LB, 2, none⟩ = some (.pointer none) := HL10.out.cell 2 _ rfl
          have k4 : wc.cell? ⟨O, 2, none⟩ = some (.slice oa i oc) := hoc.1
          have ko := hoc.2
          have kl := HL10.out.lt
          have HR9 := hid hr9
          have HO9 := hid hO9
          clear hO9 hr9 hoc HADD HOC hsub
          by_cases h17 : f.kind = 17
          · have hrp : f.rep = true := by cases h2 : f.rep with
              | true => rfl
              | false => exact absurd ⟨h17, h2⟩ hsf
            have hb17 : (f.kind == 17) = true := by simpa using h17
            rw [hrp] at e3
            clear hsf hk h17 hrp
            go_upto_region 10 with fail
            go_region_law (refine step_append_eq rfl (.tmp 72) (.tmp 74) _ rfl _ _ rfl rfl HR9.out ?_)
            all_goals
              go_wp2_with fail
              go_roundw
              case rel => exact ⟨i + 1, _, _, by go_num, hlt, HO9.out⟩
              case measure => simp [intOf]; omega
          · have hb17 : (f.kind == 17) = false := by simpa using h17
            clear hsf hk h17
            go_upto_region 10 with fail
            go_region_law (refine step_append_eq rfl (.tmp 72) (.tmp 74) _ rfl _ _ rfl rfl HR9.out ?_)
            all_goals
              go_wp2_with fail
              go_roundw
              case rel => exact ⟨i + 1, _, _, by go_num, hlt, HO9.out⟩
              case measure => simp [intOf]; omega
    · obtain rfl : i = vn := by omega
      have h1 := HJ.out
      rw [HVN.out, List.take_length, ← HVN.out] at h1
      have HE := hid (HFIN.out wr (.slice oa i oc) h1)
      clear h1
      go_wp2_with fail
      exact HE.out
theorem digest_sheet {w0 : World} {sv : Value} {s : List Mes} (hS0 : SchemaAt w0 sv s) : ∀ d, DShOk w0 sv s d
  | 0 => fun _ _ _ _ _ _ h _ _ => h.elim
  | d + 1 => digest_sheet_step hS0 d (digest_sheet hS0 d)
end Go.Proofs.YtbcpeckmnmhfhaaGreat
