/- canon.writer.message: what a right meaning's values and unknown records write, for each depth. The schema is right; bytes are at most 2^36, weights 2^35. canon.Encode, Size, Value: mayCode, encM, encV. The meaning's weight is at most 2^30. Plain laws: two meanings alike (sameB), a meaning's depth (depthM); as lists are gone through. No condition. -/
import Derived.Test.YtbhiddafbpingaaGreatZ17
import Derived.Test.YtbhiddafbpingaaGreatZ29
import Derived.Test.YtbhiddafbpingaaGreatZ30
namespace Go.Proofs.YtbhiddafbpingaaGreat
open Go.RowKit
theorem valsB_all {α : Type} {F : Fld → Val α → Bool} {fs : List Fld} : ∀ {l : List (Val α)} {last : Int}, valsB F fs l last = true → ∀ x ∈ l, 0 ≤ fieldAt fs x.num ∧ F (fs.getD (fieldAt fs x.num).toNat .zero) x = true
  | [], _, _, x, hx => by simp at hx
  | y :: r, last, h, x, hx => by
    rw [valsB] at h
    split at h
    · exact absurd h (by decide)
    · rename_i hn
      rcases List.mem_cons.1 hx with rfl | hx
      · refine ⟨by omega, ?_⟩
        cases hf : F (fs.getD (fieldAt fs x.num).toNat .zero) x with
        | true => rfl
        | false => exact absurd (.inr (.inr hf)) hn
      · exact valsB_all h x hx
theorem rightB_parts {s : List Mes} {d : Nat} {root : Int} {x : M (d + 1)} (h : rightB s (d + 1) root x = true) :
    0 ≤ root ∧ root < s.length ∧ (∀ v ∈ M.vals x, 0 ≤ fieldAt (s.getD root.toNat .zero).fields v.num ∧ fitsB (rightB s d) ((s.getD root.toNat .zero).fields.getD (fieldAt (s.getD root.toNat .zero).fields v.num).toNat .zero) v = true) ∧
      (M.unk x).all (strangeB (s.getD root.toNat .zero).fields) = true := by
  rw [rightB] at h
  split at h
  · exact absurd h (by decide)
  · rename_i hn
    rw [Bool.and_eq_true] at h
    exact ⟨by omega, by omega, valsB_all h.1, h.2⟩
theorem fieldAt_lt {fs : List Fld} {n : Int} (h : 0 ≤ fieldAt fs n) : ∃ j : Nat, j < fs.length ∧ fieldAt fs n = j := by
  rcases firstAt_bd (fun f : Fld => decide (f.number = n)) fs 0 with h1 | ⟨jn, h1, h2, h3⟩
  · unfold fieldAt at h; omega
  · exact ⟨jn, by omega, h1⟩
/-- A writer in the midst of a message. -/
structure WrOne (W : World) (g : Nat) (sv bv : Value) (b1 : Nat) (B1 : List Value) (wx : World) (bv' : Value) (l' : List UInt8) : Prop where
  at_ : WrAt wx g sv bv' l'
  step : WrStep g bv W bv' wx
  blk : Blk wx b1 B1 58
theorem WrOne.put {W : World} {g : Nat} {sv bv : Value} {b1 : Nat} {B1 : List Value} {wx wy wz : World} {bv' bv'' : Value} {l' l'' : List UInt8} (h : WrOne W g sv bv b1 B1 wx bv' l')
    (hb : Below wx.heap.size wx wy) (hA : WrAt wz g sv bv'' l'') (hS : WrStep g bv' wy bv'' wz) (h1 : Apt W g bv b1) : WrOne W g sv bv b1 B1 wz bv'' l'' :=
  ⟨hA, (h.step.trans (WrStep.of_below hb)).trans hS, hS.blk (h.blk.below hb) h1.2.1 (h.step.apt h1)⟩
theorem WrOne.app {W : World} {g : Nat} {sv bv : Value} {b1 : Nat} {B1 : List Value} {wr w6 : World} {bv3 v6 : Value} {l' l'' : List UInt8} (h : WrOne W g sv bv b1 B1 wr bv3 l')
    (hg6 : wr.grownBy w6 bv3.ownBlock) (hO6 : Own w6 (g + 1) v6 l'') (hown6 : v6.ownBlock = bv3.ownBlock ∨ v6.ownBlock = some wr.heap.size) (h1 : Apt W g bv b1) : WrOne W g sv bv b1 B1 (w6.setCell ⟨g, 1, none⟩ v6) v6 l'' := by
  have hgb := h.at_.1
  have lg := hgb.lt
  have hbo : ∀ b, bv3.ownBlock = some b → g + 1 ≤ b := fun b e => (World.ownsRow.lt h.at_.2 b e).1
  have hgb6 : Blk w6 g [sv, bv3] 115 := (hg6.block g lg (fun e => by have := hbo g e.symm; omega)).trans hgb
  have hS : WrStep g bv3 wr v6 (w6.setCell ⟨g, 1, none⟩ v6) := by
    refine ⟨hg6.os, hg6.tape, hg6.output, by simpa using hg6.size, fun b hb hg ho => (Below.heap_setCell w6 _ _ b hg).trans (hg6.block b hb (fun e => ho e.symm)), ?_⟩
    rcases hown6 with e | e
    · exact .inl e
    · exact .inr (.inr ⟨_, Nat.le_refl _, e⟩)
  refine ⟨⟨Blk.set hgb6 1 _, row_keep hO6 fun b cur hb he => Below.heap_setCell w6 _ _ b ?_⟩, h.step.trans hS, hS.blk h.blk h1.2.1 (h.step.apt h1)⟩
  show b ≠ g
  omega
set_option maxRecDepth 100000 in
set_option maxHeartbeats 4000000 in
theorem writer_message_step {w0 : World} {s : List Mes} {d : Nat} (hs : sright s = true) (ih : ValueOk w0 s d) : MessageOk w0 s (d + 1) := by
  intro w g sv bv v l root x hS hM hb hg hA hR hlen hwt
  obtain ⟨vv, uv, rfl, hV, hU⟩ := hM
  obtain ⟨hvl, va, vc, rfl, -, hva⟩ := hV.open
  obtain ⟨hul, ua, uc, rfl, -, hua⟩ := hU.open
  obtain ⟨hr0, hr1, hvals, -⟩ := rightB_parts hR
  obtain ⟨r, rfl⟩ : ∃ r : Nat, root = r := ⟨root.toNat, by omega⟩
  simp only [Int.toNat_natCast] at hvals
  have hr : r < s.length := by omega
  have hnum := sright_num hs r hr
  have HS := hid hS
  obtain ⟨hsl, sa, sc, rfl, hsat⟩ := hS.open
  obtain ⟨sn, HSN⟩ : ∃ n, Hid (n = s.length) := ⟨_, rfl⟩
  rw [← HSN.out] at hsl HS hA ⊢
  have hrn : r < sn := by rw [HSN.out]; exact hr
  obtain ⟨b, o, fv, ha, -, hc0, hc1, hF⟩ := hsat r hr
  have HF := hid hF
  obtain ⟨hfl, fa, fc, rfl, hfat⟩ := hF.open
  have HENC : Hid (encM s (d + 1) r x = (M.vals x).flatMap (fun v => encV (encM s d) ((s.getD r .zero).fields.getD (fieldAt (s.getD r .zero).fields v.num).toNat .zero) v) ++ (M.unk x).flatMap id) := rfl
  obtain ⟨fs, HFS⟩ : ∃ f, Hid (f = (s.getD r .zero).fields) := ⟨_, rfl⟩
  rw [← HFS.out] at hfl hc1 HF hF hfat hvals hnum HENC
  obtain ⟨fl, HFL⟩ : ∃ n, Hid (n = fs.length) := ⟨_, rfl⟩
  rw [← HFL.out] at hfl hc1 HF hF hfat
  obtain ⟨vn, HVN⟩ : ∃ n, Hid (n = (M.vals x).length) := ⟨_, rfl⟩
  obtain ⟨un, HUN⟩ : ∃ n, Hid (n = (M.unk x).length) := ⟨_, rfl⟩
  rw [← HVN.out] at hvl ⊢
  rw [← HUN.out] at hul ⊢
  obtain ⟨sv, HSV⟩ : ∃ sv, Hid (sv = Value.slice sa sn sc) := ⟨_, rfl⟩
  rw [← HSV.out] at HS hA ⊢
  have HVALS := hid hvals
  have HNUM := hid hnum
  have HIH := hid ih
  have HVA := hid hva
  have HUA := hid hua
  have HFA := hid hfat
  have HB := hid hb
  have HG := hid hg
  have HLEN := hid hlen
  have HWT : Hid ((∀ m ∈ M.vals x, vwt (mwt d) m ≤ 34359738368) ∧ ∀ t ∈ M.unk x, t.length ≤ 34359738368) := by
    have h3 : 1 + twt (M.unk x) + ((M.vals x).map (vwt (mwt d))).sum ≤ 34359738368 := hwt
    refine ⟨fun m hm => ?_, fun t ht => ?_⟩
    · have h1 := mem_sum_le (vwt (mwt d)) (M.vals x) m hm
      omega
    · have h1 := mem_sum_le (fun t : List UInt8 => 1 + t.length) (M.unk x) t ht
      unfold twt at h3
      omega
  have HHA := hid hA
  have hix := index_run Tryz.underlying23 size_mes ha r hrn (cap := sc)
  have hbl : b < w0.heap.size := World.block_lt_of_cell? w0 _ hc0
  generalize (s.getD r .zero).name = nm at *
  obtain ⟨L1, HL1⟩ : ∃ L1 : List Value, Hid (L1 = [.slice va vn vc, .slice ua un uc]) := ⟨_, rfl⟩
  have H2 : Hid (∀ W, W = (w.alloc (.cells #[.slice va vn vc, .slice ua un uc] 58)) → Blk W w.heap.size L1 58 ∧ Below w.heap.size w W ∧ w.heap.size < W.heap.size) := by
    rintro W rfl
    rw [HL1.out]
    exact ⟨Blk.new w _ _, (Below.refl w.heap.size w).alloc (Nat.le_refl _) _, by simp⟩
  clear hV hU hsat hS hwt hF hva hfat ih ha hua hb hg hA hR hlen hvals hnum hr0 hr1 hr
  go_enter Tryz.func51, Tryz.ntmps51
  go_wp2_with fail
  have h2 := H2.out _ rfl
  clear H2
  obtain ⟨W2, HW2⟩ : ∃ W2, Hid (W2 = (w.alloc (.cells #[.slice va vn vc, .slice ua un uc] 58))) := ⟨_, rfl⟩
  rw [← HW2.out] at h2 ⊢
  obtain ⟨hk1, hb1, hsz⟩ := h2
  obtain ⟨b1, HB1E⟩ : ∃ b1, Hid (b1 = w.heap.size) := ⟨_, rfl⟩
  have hg1 : g < w.heap.size := HHA.out.1.lt
  have HAP1 : Hid (Apt W2 g bv b1) := by
    have := HHA.out.free (Nat.le_of_eq HB1E.out.symm)
    exact ⟨by rw [HB1E.out]; omega, this.1, this.2⟩
  have HMID : Hid (WrOne W2 g sv bv b1 L1 W2 bv l) := by
    refine ⟨HHA.out.later hb1, WrStep.refl _ _ _, ?_⟩
    rw [HB1E.out]; exact hk1
  rw [← HB1E.out]
  have HBW := hid hb1
  have HD0 : Hid (Below w0.heap.size w0 W2) := HB.out.trans (hb1.mono HB.out.size)
  have HAW2 : Hid (WrAt W2 g sv bv l) := HHA.out.later hb1
  have hgs : w0.heap.size ≤ g := HG.out
  clear hk1 hb1 HW2 HHA hsz hg1
  have h2 := HMID.out.blk
  rw [HL1.out] at h2
  have l2 := h2.lt
  have x0 := h2.cell 0 _ rfl
  clear h2
  obtain ⟨FV, HFV⟩ : ∃ FV : Val (M d) → List UInt8, Hid (FV = fun v => encV (encM s d) (fs.getD (fieldAt fs v.num).toNat .zero) v) := ⟨_, rfl⟩
  rw [← HFV.out] at HENC
  go_wp2_with fail
  go_loopw [15] (fun v15 wr => ∃ (i : Nat), v15 = .int .i64 i ∧ i ≤ vn ∧ ∃ (bv' : Value), Hid (WrOne W2 g sv bv b1 L1 wr bv' (l ++ ((M.vals x).take i).flatMap FV))) (fun v15 _ => vn - (intOf v15).toNat)
  case atStart => exact ⟨0, rfl, Nat.zero_le _, bv, by simpa using HMID⟩
  case round =>
    obtain ⟨i, rfl, hi, bv1, HMI⟩ := hrel
    clear HMID l2 x0
    by_cases hlt : i < vn
    · have hmi : (M.vals x)[i]? = some ((M.vals x)[i]'(by rw [← HVN.out]; exact hlt)) := List.getElem?_eq_getElem _
      generalize (M.vals x)[i]'(by rw [← HVN.out]; exact hlt) = m at hmi
      have hva := HVA.out
      obtain ⟨b2, o2, v1, v2, v3, ha2, g0, g1, g2, g3, hM⟩ := hva i m hmi
      clear hva
      have hmem := List.mem_of_getElem? hmi
      obtain ⟨hfa0, hfit⟩ := HVALS.out m hmem
      obtain ⟨jn, hjl, hj⟩ := fieldAt_lt hfa0
      have HWM := hid (HWT.out.1 m hmem)
      have HM := hid hM
      have hnb : -9223372036854775808 ≤ m.num ∧ m.num ≤ 9223372036854775807 := by
        obtain ⟨_, _, _, _, h, _⟩ := hM
        exact h
      obtain ⟨mm, a1, n1, q1, a2, n2, q2, a3, n3, q3, he⟩ := hM.form
      cases he
      have HDX : Hid (Below w0.heap.size w0 wr) := HMI.out.step.below HAW2.out hgs HD0.out
      have hk := below_keeps HDX.out
      replace g0 := hk _ _ g0
      replace g1 := hk _ _ g1
      replace g2 := hk _ _ g2
      replace g3 := hk _ _ g3
      have m0 := hk _ _ hc0
      have m1 := hk _ _ hc1
      have hblr : b < wr.heap.size := World.block_lt_of_cell? wr _ m0
      have hbl2 : b2 < wr.heap.size := World.block_lt_of_cell? wr _ g0
      have hix2 := index_run Tryz.underlying56 size_val ha2 i hlt (cap := vc)
      have HTK := hid (flat_take_succ FV (M.vals x) i m hmi)
      have hFVm : FV m = encV (encM s d) (fs.getD jn .zero) m := by
        rw [HFV.out]
        show encV (encM s d) (fs.getD (fieldAt fs m.num).toNat .zero) m = _
        rw [hj]; rfl
      rw [hj, Int.toNat_natCast] at hfit
      have hll : (l ++ ((M.vals x).take i).flatMap FV).length + (FV m).length ≤ 68719476736 := by
        have h1 := HLEN.out
        rw [HENC.out, List.length_append] at h1
        have h2 := flat_take_len FV (M.vals x) (i + 1)
        rw [HTK.out, List.length_append] at h2
        rw [List.length_append]
        omega
      have hmf : fs.getD jn .zero ∈ fs := by
        have : fs.getD jn .zero = fs[jn] := by simp [List.getD, hjl]
        rw [this]; exact List.getElem_mem hjl
      have HNB := hid (HNUM.out _ hmf)
      rw [← HFL.out] at hjl
      have HFM := hid (And.intro hfit hll)
      have hfa := HFA.out
      obtain ⟨b3, o3, ha3, hok, f0, f1, f2, f3, f4, f5⟩ := hfa jn hjl
      clear hfa
      obtain ⟨⟨name, number, kind, rep, packed, of⟩, HFD⟩ : ∃ f, Hid (fs.getD jn .zero = f) := ⟨_, rfl⟩
      rw [HFD.out] at f0 f1 f2 f3 f4 f5 HFM HNB hFVm
      have HFVM := hid hFVm
      replace f0 := hk _ _ f0
      replace f1 := hk _ _ f1
      replace f2 := hk _ _ f2
      replace f3 := hk _ _ f3
      replace f4 := hk _ _ f4
      replace f5 := hk _ _ f5
      have hix3 := index_run Tryz.underlying67 size_fld ha3 jn hjl (cap := fc)
      have lb3 : b3 < wr.heap.size := World.block_lt_of_cell? wr _ f0
      have HJ := hid hj
      have hgb := HMI.out.at_.1
      have lg := hgb.lt
      have c0 := hgb.cell 0 _ rfl
      rw [HSV.out] at c0
      generalize hmn : m.num = mn at *
      have HMN := hid hmn
      clear hmn hM ha2 hmi hmem hfa0 hfit hll hFVm hmf ha3 hok hj hk hgb
      go_wp2_with fail
      have hX := Blk.new wr [.int .i64 mn, .slice a1 n1 q1, .slice a2 n2 q2, .slice a3 n3 q3] 109
      have hB2 := (Below.refl wr.heap.size wr).alloc (Nat.le_refl _) (.cells #[.int .i64 mn, .slice a1 n1 q1, .slice a2 n2 q2, .slice a3 n3 q3] 109)
      generalize hW3 : wr.alloc (.cells #[.int .i64 mn, .slice a1 n1 q1, .slice a2 n2 q2, .slice a3 n3 q3] 109) = W3 at hX hB2 ⊢
      clear hW3
      obtain ⟨X, HXX⟩ : ∃ X, Hid (X = wr.heap.size) := ⟨_, rfl⟩
      rw [← HXX.out] at hX ⊢
      have hk2 := below_keeps hB2
      have HB2 := hid hB2
      have HX := hid hX
      have lx : X < W3.heap.size := hX.lt
      have lg2 : g < W3.heap.size := by have := hB2.size; omega
      have lb' : b < W3.heap.size := by have := hB2.size; omega
      have k0 : W3.drew.cell? ⟨g, 0, none⟩ = some (.slice sa sn sc) ∧ W3.drew.cell? ⟨b, o + r * 2, none⟩ = some (.string nm) ∧ W3.drew.cell? ⟨b, o + r * 2 + 1, none⟩ = some (.slice fa fl fc) ∧ W3.drew.cell? ⟨X, 0, none⟩ = some (.int .i64 mn) := ⟨hk2 _ _ c0, hk2 _ _ m0, hk2 _ _ m1, hX.cell 0 _ rfl⟩
      have HBN : Hid (Calls Tryz.prog 61 #[.agg #[.string nm, .slice fa fl fc], .int .i64 mn] W3.drew fun e w' => e = .returned (.tuple #[.int .i64 jn, .bool true]) ∧ Below W3.drew.heap.size W3.drew w') := by
        have hFW : FieldsAt W3.drew (.slice fa fl fc) fs := HF.out.keep (fun p u hu => hk2 p u (below_keeps HDX.out p u hu))
        have h := schema_ByNumber hFW nm mn
        rw [HJ.out, if_pos (by omega)] at h
        have hd : decide ((0 : Int) ≤ jn) = true := decide_eq_true (by omega)
        rw [hd] at h
        exact h
      clear hB2 hX hk2
      go_region_held3 (fun w' => w'.cell? ⟨g, 0, none⟩ = some (.slice sa sn sc) ∧ w'.cell? ⟨b, o + r * 2, none⟩ = some (.string nm) ∧ w'.cell? ⟨b, o + r * 2 + 1, none⟩ = some (.slice fa fl fc) ∧ w'.cell? ⟨X, 0, none⟩ = some (.int .i64 mn)) (first | (with_reducible exact k0) | (with_reducible exact k1) | go_keep) (first | (go_at_call 61; (with_reducible refine (HBN.out).mono ?_); rintro e w4 ⟨rfl, hb4⟩; have k1 : w4.cell? ⟨g, 0, none⟩ = some (.slice sa sn sc) ∧ w4.cell? ⟨b, o + r * 2, none⟩ = some (.string nm) ∧ w4.cell? ⟨b, o + r * 2 + 1, none⟩ = some (.slice fa fl fc) ∧ w4.cell? ⟨X, 0, none⟩ = some (.int .i64 mn) := ⟨below_keeps hb4 _ _ k0.1, below_keeps hb4 _ _ k0.2.1, below_keeps hb4 _ _ k0.2.2.1, below_keeps hb4 _ _ k0.2.2.2⟩))
      have HB4 : Hid (Below wr.heap.size wr w4) := HB2.out.trans (((Below.refl W3.heap.size W3).drew.trans hb4).mono HB2.out.size)
      have HXW := hid (HX.out.below ((Below.refl W3.heap.size W3).drew.trans hb4))
      clear hb4 lx lg2 lb' k0 k1 c0 m0 m1 hblr hbl2 g0 g1 g2 g3 lg lb3
      have hk4 := below_keeps HB4.out
      replace f0 := hk4 _ _ f0
      replace f1 := hk4 _ _ f1
      replace f2 := hk4 _ _ f2
      replace f3 := hk4 _ _ f3
      replace f4 := hk4 _ _ f4
      replace f5 := hk4 _ _ f5
      have m1 := hk4 _ _ (below_keeps HDX.out _ _ hc1)
      have m0 := hk4 _ _ (below_keeps HDX.out _ _ hc0)
      have hgb := HMI.out.at_.1.below HB4.out
      have lg := hgb.lt
      have c0 := hgb.cell 0 _ rfl
      rw [HSV.out] at c0
      have lb : b < w4.heap.size := World.block_lt_of_cell? w4 _ m0
      have lb3 : b3 < w4.heap.size := World.block_lt_of_cell? w4 _ f0
      have lx := HXW.out.lt
      have x0 := HXW.out.cell 0 _ rfl
      have x1 := HXW.out.cell 1 _ rfl
      have x2 := HXW.out.cell 2 _ rfl
      have x3 := HXW.out.cell 3 _ rfl
      have hd4 : Below wr.heap.size wr w4.drew := HB4.out.drew
      have HVO := hid (HIH.out w4.drew g sv bv1 _ _ ⟨name, number, kind, rep, packed, of⟩ m HS.out HM.out (HDX.out.trans (hd4.mono HDX.out.size)) hgs (HMI.out.at_.later hd4) HFM.out.1 HNB.out (by rw [← HFVM.out]; exact HFM.out.2) HWM.out)
      rw [← HFVM.out] at HVO
      have HD4 := hid hd4
      simp only [Fld.val] at HVO
      clear hk4 hd4 hgb
      go_wp2_with fail
      go_still_tail 13, (by kernel_rfl)
      change wpList _ _ _ _ _ w4.drew
      go_wp2_with fail
      refine HVO.out.mono ?_
      rintro e w5 ⟨rfl, bv5, hA5, hS5⟩
      have HR : Hid (WrOne W2 g sv bv b1 L1 w5 bv5 (l ++ ((M.vals x).take (i + 1)).flatMap FV)) := by
        have := HMI.out.put HD4.out hA5 hS5 HAP1.out
        rw [List.append_assoc, ← HTK.out] at this
        exact this
      clear hA5 hS5 lx lg lb lb3 x0 x1 x2 x3 c0 m0 m1 f0 f1 f2 f3 f4 f5
      go_wp2_with fail
      go_roundw
      case rel => exact ⟨i + 1, by go_num, hlt, bv5, HR⟩
      case measure => simp [intOf]; omega
    · obtain rfl : i = vn := by omega
      rw [List.take_of_length_le (by rw [HVN.out]; exact Nat.le_refl _)] at HMI
      obtain ⟨L', HLE'⟩ : ∃ L', Hid (L' = l ++ (M.vals x).flatMap FV) := ⟨_, rfl⟩
      rw [← HLE'.out] at HMI
      have h2 := HMI.out.blk
      rw [HL1.out] at h2
      have l2 := h2.lt
      have x3 := h2.cell 1 _ rfl
      clear h2
      go_wp2_with fail
      clear x3 l2
      go_loopw [50] (fun v50 wr => ∃ (j : Nat), v50 = .int .i64 j ∧ j ≤ un ∧ ∃ (bv' : Value), Hid (WrOne W2 g sv bv b1 L1 wr bv' (L' ++ ((M.unk x).take j).flatMap id))) (fun v50 _ => un - (intOf v50).toNat)
      case atStart => exact ⟨0, rfl, Nat.zero_le _, bv1, by simpa using HMI⟩
      case round =>
        obtain ⟨j, rfl, hj, bv3, HMJ⟩ := hrel
        clear HMI
        by_cases hlt : j < un
        · have hxi : (M.unk x)[j]? = some ((M.unk x)[j]'(by rw [← HUN.out]; exact hlt)) := List.getElem?_eq_getElem _
          generalize (M.unk x)[j]'(by rw [← HUN.out]; exact hlt) = z at hxi
          have hua := HUA.out
          obtain ⟨hzl, b4, o4, ha4, g0⟩ := hua j z hxi
          have hU : strV z = .string ⟨z.toArray⟩ := rfl
          rw [hU] at g0
          have HDX : Hid (Below w0.heap.size w0 wr) := HMJ.out.step.below HAW2.out hgs HD0.out
          replace g0 := below_keeps HDX.out _ _ g0
          have hbl4 : b4 < wr.heap.size := World.block_lt_of_cell? wr _ g0
          have hix4 := index_run1 Tryz.underlying39 size_str ha4 j hlt (cap := uc)
          have HTK := hid (flat_take_succ id (M.unk x) j z hxi)
          have hlen : (L' ++ ((M.unk x).take j).flatMap id).length + z.length ≤ 140737488355328 := by
            have h1 := HLEN.out
            rw [HENC.out, List.length_append] at h1
            have h2 := flat_take_len id (M.unk x) j
            have h3 := HWT.out.2 z (List.mem_of_getElem? hxi)
            rw [HLE'.out]
            simp only [List.length_append]
            omega
          have hlg := HMJ.out.at_.1.lt
          obtain ⟨v6, w6, hr6, hO6, hg6, hown6⟩ := own_append_str HMJ.out.at_.2 z hlen (by omega)
          have HR : Hid (WrOne W2 g sv bv b1 L1 (w6.setCell ⟨g, 1, none⟩ v6) v6 (L' ++ ((M.unk x).take (j + 1)).flatMap id)) := by
            have := HMJ.out.app hg6 hO6 hown6 HAP1.out
            rw [List.append_assoc] at this
            rw [HTK.out]
            exact this
          have hgb := HMJ.out.at_.1
          have c1 := hgb.cell 1 _ rfl
          have hbo : ∀ b, bv3.ownBlock = some b → g + 1 ≤ b := fun b e => (World.ownsRow.lt HMJ.out.at_.2 b e).1
          have hgb6 : Blk w6 g [sv, bv3] 115 := (hg6.block g hlg (fun e => by have := hbo g e.symm; omega)).trans hgb
          have lg6 := hgb6.lt
          have c6 := hgb6.cell 1 _ rfl
          have f6 := hgb6.free 1
          obtain ⟨a3, c3, e3⟩ := HMJ.out.at_.2.form
          obtain ⟨a6, c6', e6⟩ := hO6.form
          obtain ⟨k3, HK3⟩ : ∃ k, Hid (k = (L' ++ ((M.unk x).take j).flatMap id).length) := ⟨_, rfl⟩
          obtain ⟨k6, HK6⟩ : ∃ k, Hid (k = (L' ++ ((M.unk x).take j).flatMap id ++ z).length) := ⟨_, rfl⟩
          rw [← HK3.out] at e3
          rw [← HK6.out] at e6
          subst e3
          subst e6
          have HR6 := hid hr6
          clear hua ha4 hxi hzl hU hlen hO6 hg6 hown6 hgb hbo hgb6 hr6
          go_wp2_with (at_builtin; refine wpList_append2_eq rfl (.tmp 58) (.tmp 59) 24 9 rfl _ _ rfl rfl HR6.out ?_)
          go_roundw
          case rel => exact ⟨j + 1, by go_num, hlt, _, HR⟩
          case measure => simp [intOf]; omega
        · obtain rfl : j = un := by omega
          rw [List.take_of_length_le (by rw [HUN.out]; exact Nat.le_refl _)] at HMJ
          go_wp2_with fail
          go_end0
          refine ⟨rfl, bv3, ?_⟩
          rw [HENC.out]
          refine ⟨?_, (WrStep.of_below HBW.out).trans HMJ.out.step⟩
          have := HMJ.out.at_
          rw [HLE'.out] at this
          simpa [List.append_assoc] using this
theorem writer_message {w0 : World} {s : List Mes} (hs : sright s = true) : ∀ d, MessageOk w0 s d
  | 0 => fun _ _ _ _ _ _ _ _ _ hM _ _ _ _ _ _ => hM.elim
  | d + 1 => writer_message_step hs (writer_value (writer_message hs d))
end Go.Proofs.YtbhiddafbpingaaGreat
namespace Go.Proofs.YtbhiddafbpingaaGreat
open Go.RowKit
/-! How long the bytes are. -/
theorem sum_le30 {α : Type} {F : α → List UInt8} {f : α → Nat} : ∀ (l : List α), (∀ x ∈ l, (F x).length ≤ 30 * f x) → (l.flatMap F).length ≤ 30 * (l.map f).sum
  | [], _ => by simp
  | x :: r, h => by
    have h1 := h x (by simp)
    have h2 := sum_le30 r fun y hy => h y (by simp [hy])
    rw [List.flatMap_cons, List.length_append, List.map_cons, List.sum_cons]
    omega
theorem rput_le (n x : Int) (t : List UInt8) (h : 0 ≤ 8 * n + x ∧ 8 * n + x < 18446744073709551616) (ht : t.length < 18446744073709551616) : (rput n x t).length ≤ 20 + t.length := by
  unfold rput
  have h1 := vput_le (x := (8 * n + x).toNat) (by omega)
  have h2 := vput_le (x := t.length) (by omega)
  rw [List.length_append, List.length_append]
  split <;> simp <;> omega
theorem enc_lenV {w : World} {s : List Mes} {d : Nat} (ih : ∀ (root : Int) (v : Value) (x : M d), MsgAt d w v x → mwt d x ≤ 1125899906842624 → (encM s d root x).length + 30 ≤ 30 * mwt d x) (f : Fld) (hf : 0 ≤ f.number ∧ f.number ≤ 536870911) (v : Value) (x : Val (M d)) (h : ValAt (MsgAt d) w v x)
    (hw : vwt (mwt d) x ≤ 1125899906842624) : (encV (encM s d) f x).length ≤ 30 * vwt (mwt d) x := by
  obtain ⟨wv, tv, sv, rfl, -, hW, hT, hSu⟩ := h
  obtain ⟨-, sa, sc, -, -, hsa⟩ := hSu.open
  have hwt := hw
  unfold vwt at hwt
  unfold encV
  by_cases hk : knumber f.kind = true
  · rw [if_pos hk]
    cases hr : f.rep with
    | true =>
      rw [if_pos rfl]
      have h1 := kpack_le f.kind x.words hW.2
      have h2 := rput_le f.number 2 (kpack f.kind x.words) (by omega) (by omega)
      unfold vwt
      omega
    | false =>
      rw [if_neg (by decide)]
      have h0 : x.words.getD 0 0 < 2 ^ 64 := by
        cases hx : x.words[0]? with
        | none => rw [List.getD, hx]; decide
        | some y => rw [List.getD, hx]; exact hW.2 y (List.mem_of_getElem? hx)
      have h1 := kput_le f.kind h0
      have h3 : kwire f.kind ≤ 5 := by
        unfold kwire
        repeat' split
        all_goals omega
      have h2 := rput_le f.number (kwire f.kind) (kput f.kind (x.words.getD 0 0)) (by omega) (by omega)
      unfold vwt
      omega
  · rw [if_neg hk, List.length_append]
    have h1 : (x.texts.flatMap (rput f.number 2)).length ≤ 30 * twt x.texts := by
      refine sum_le30 _ fun t ht => ?_
      have h3 := mem_sum_le (fun t : List UInt8 => 1 + t.length) x.texts t ht
      unfold twt at hwt
      have h2 := rput_le f.number 2 t (by omega) (by omega)
      show _ ≤ 30 * (1 + t.length)
      omega
    have h2 : (x.subs.flatMap fun y => rput f.number 2 (encM s d f.of y)).length ≤ 30 * (x.subs.map (mwt d)).sum := by
      refine sum_le30 _ fun y hy => ?_
      obtain ⟨k, hk⟩ := List.mem_iff_getElem?.1 hy
      obtain ⟨b, o, v1, v2, -, -, -, hM⟩ := hsa k y hk
      have h3 := mem_sum_le (mwt d) x.subs y hy
      have h4 := ih f.of _ y hM (by omega)
      have h5 := rput_le f.number 2 (encM s d f.of y) (by omega) (by omega)
      omega
    unfold vwt
    omega
theorem enc_len {w : World} {s : List Mes} (hs : sright s = true) : ∀ (d : Nat) (root : Int) (v : Value) (x : M d), MsgAt d w v x → mwt d x ≤ 1125899906842624 → (encM s d root x).length + 30 ≤ 30 * mwt d x
  | 0, _, _, _, h, _ => h.elim
  | d + 1, root, v, x, h, hw => by
    obtain ⟨vv, uv, rfl, hV, hU⟩ := h
    obtain ⟨-, va, vc, -, -, hva⟩ := hV.open
    have e : mwt (d + 1) x = 1 + twt (M.unk x) + ((M.vals x).map (vwt (mwt d))).sum := rfl
    have e2 : encM s (d + 1) root x = (M.vals x).flatMap (fun v => encV (encM s d) ((s.getD root.toNat .zero).fields.getD (fieldAt (s.getD root.toNat .zero).fields v.num).toNat .zero) v) ++ (M.unk x).flatMap id := rfl
    rw [e] at hw ⊢
    rw [e2, List.length_append]
    have h1 : ((M.unk x).flatMap id).length ≤ 30 * twt (M.unk x) := by
      refine sum_le30 _ fun t _ => ?_
      show t.length ≤ 30 * (1 + t.length)
      omega
    have h2 : ((M.vals x).flatMap (fun v => encV (encM s d) ((s.getD root.toNat .zero).fields.getD (fieldAt (s.getD root.toNat .zero).fields v.num).toNat .zero) v)).length ≤ 30 * ((M.vals x).map (vwt (mwt d))).sum := by
      refine sum_le30 _ fun y hy => ?_
      obtain ⟨k, hk⟩ := List.mem_iff_getElem?.1 hy
      obtain ⟨b, o, v1, v2, v3, -, -, -, -, -, hM⟩ := hva k y hk
      have h3 := mem_sum_le (vwt (mwt d)) (M.vals x) y hy
      refine enc_lenV (w := w) (fun root v x h hw => enc_len hs d root v x h hw) _ ?_ _ y hM (by omega)
      generalize (fieldAt (s.getD root.toNat .zero).fields y.num).toNat = j
      by_cases hr : root.toNat < s.length
      · by_cases hj : j < (s.getD root.toNat .zero).fields.length
        · have hm : (s.getD root.toNat .zero).fields.getD j .zero ∈ (s.getD root.toNat .zero).fields := by
            have : (s.getD root.toNat .zero).fields.getD j .zero = (s.getD root.toNat .zero).fields[j] := by rw [List.getD, List.getElem?_eq_getElem hj]; rfl
            rw [this]; exact List.getElem_mem hj
          have := sright_num hs root.toNat hr _ hm
          omega
        · have : (s.getD root.toNat .zero).fields.getD j .zero = .zero := by rw [List.getD, List.getElem?_eq_none (by omega)]; rfl
          rw [this]; decide
      · have h0 : s.getD root.toNat .zero = .zero := by rw [List.getD, List.getElem?_eq_none (by omega)]; rfl
        rw [h0]
        have : (Mes.zero).fields.getD j .zero = Fld.zero := by simp [Mes.zero]
        rw [this]; decide
    omega
def encOut (s : List Mes) (root : Int) (d : Nat) (x : M d) : List UInt8 := if mayCode s root d x = 0 then encM s d root x else []
theorem may_ill {s : List Mes} {root : Int} {d : Nat} {x : M d} (h : sright s = false) : mayCode s root d x = 9 := by rw [mayCode, if_pos h]
theorem may_arg {s : List Mes} {root : Int} {d : Nat} {x : M d} (h : sright s = true) (h2 : root < 0 ∨ (s.length : Int) ≤ root) : mayCode s root d x = 2 := by rw [mayCode, if_neg (by simp [h]), if_pos h2]
theorem may_form {s : List Mes} {root : Int} {d : Nat} {x : M d} (h : sright s = true) (h2 : ¬ (root < 0 ∨ (s.length : Int) ≤ root)) (h3 : rightB s d root x = false) : mayCode s root d x = 12 := by rw [mayCode, if_neg (by simp [h]), if_neg h2, if_pos h3]
theorem may_fine {s : List Mes} {root : Int} {d : Nat} {x : M d} (h : sright s = true) (h2 : ¬ (root < 0 ∨ (s.length : Int) ≤ root)) (h3 : rightB s d root x = true) : mayCode s root d x = 0 := by rw [mayCode, if_neg (by simp [h]), if_neg h2, if_neg (by simp [h3])]
theorem rightB_root {s : List Mes} {root : Int} : ∀ {d : Nat} {x : M d}, rightB s d root x = true → ¬ (root < 0 ∨ (s.length : Int) ≤ root)
  | 0, _, h => by simp [rightB] at h
  | d + 1, _, h => by have := rightB_parts h; omega
def EncPost (w : World) (c : Nat) (l : List UInt8) (e : Ending) (w' : World) : Prop := ∃ v', e = .returned (.tuple #[v', .int .u8 c]) ∧ Own w' w.heap.size v' l ∧ Below w.heap.size w w'
set_option maxRecDepth 100000 in
set_option maxHeartbeats 4000000 in
theorem canon_Encode {w : World} {sv v : Value} {s : List Mes} {d : Nat} {x : M d} (hS : SchemaAt w sv s) (root : Int) (hM : MsgAt d w v x) (hw : mwt d x ≤ 1073741824) :
    Calls Tryz.prog 26 #[sv, .int .i64 root, v] w (EncPost w (mayCode s root d x) (encOut s root d x)) := by
  obtain ⟨a1, n1, c1, a2, n2, c2, rfl⟩ := hM.form
  obtain ⟨-, sa, sc, rfl, -⟩ := hS.open
  obtain ⟨sn, HSN⟩ : ∃ n, Hid (n = s.length) := ⟨_, rfl⟩
  rw [← HSN.out] at hS ⊢
  have HS := hid hS
  have HM := hid hM
  have HW := hid hw
  have H2 : Hid (∀ W, W = (w.alloc (.cells #[.slice a1 n1 c1, .slice a2 n2 c2] 58)) → Blk W w.heap.size [.slice a1 n1 c1, .slice a2 n2 c2] 58 ∧ Below w.heap.size w W ∧ w.heap.size < W.heap.size) := by
    rintro W rfl
    exact ⟨Blk.new w _ _, (Below.refl w.heap.size w).alloc (Nat.le_refl _) _, by simp⟩
  clear hS hM hw
  go_enter Tryz.func26, Tryz.ntmps26
  go_wp2_with fail
  have h2 := H2.out _ rfl
  clear H2
  obtain ⟨W2, HW2⟩ : ∃ W2, Hid (W2 = (w.alloc (.cells #[.slice a1 n1 c1, .slice a2 n2 c2] 58))) := ⟨_, rfl⟩
  rw [← HW2.out] at h2 ⊢
  obtain ⟨hk1, hb1, -⟩ := h2
  obtain ⟨b1, HB1E⟩ : ∃ b1, Hid (b1 = w.heap.size) := ⟨_, rfl⟩
  rw [← HB1E.out] at hk1 ⊢
  have HK1 := hid hk1
  have HB1 := hid hb1
  clear hk1 hb1 HW2
  refine (schema_Right (HS.out.keep (below_keeps HB1.out))).mono ?_
  rintro e w1 ⟨rfl, hb2⟩
  cases hsr : sright s with
  | false =>
    have HC : Hid (mayCode s root d x = 9 ∧ encOut s root d x = []) := by
      have := may_ill (root := root) (x := x) hsr
      exact ⟨this, by rw [encOut, if_neg (by omega)]⟩
    have HB2 := hid (HB1.out.trans (hb2.mono HB1.out.size))
    clear hsr hb2
    go_wp2_with fail
    go_ret2
    rw [HC.out.1, HC.out.2]
    exact ⟨_, rfl, own_nil _ _, HB2.out⟩
  | true =>
    have HSR := hid hsr
    have HB2 := hid (HB1.out.trans (hb2.mono HB1.out.size))
    have HK2 := hid (HK1.out.below hb2)
    clear hsr hb2 HK1 HB1
    by_cases hroot : root < 0 ∨ (sn : Int) ≤ root
    · have HC : Hid (mayCode s root d x = 2 ∧ encOut s root d x = []) := by
        have := may_arg (d := d) (x := x) HSR.out (by rw [← HSN.out]; exact hroot)
        exact ⟨this, by rw [encOut, if_neg (by omega)]⟩
      rcases hroot with hroot | hroot
      all_goals
        go_wp2_with fail
        go_ret2
        exact ⟨_, by rw [HC.out.1]; rfl, by rw [HC.out.2]; exact own_nil _ _, HB2.out⟩
    · have HRT : Hid (¬ (root < 0 ∨ (s.length : Int) ≤ root)) := by rw [← HSN.out]; exact hroot
      obtain ⟨r, rfl⟩ : ∃ r : Nat, root = r := ⟨root.toNat, by omega⟩
      have hr : r < sn := by omega
      clear hroot
      have l1 := HK2.out.lt
      have x0 := HK2.out.cell 0 _ rfl
      have x1 := HK2.out.cell 1 _ rfl
      have HTR := hid (tree_Right (HS.out.keep (below_keeps HB2.out)) r (HM.out.keep (below_keeps HB2.out)) (by have := HW.out; omega))
      go_wp2_with fail
      refine HTR.out.mono ?_
      rintro e w2 ⟨rfl, hb3⟩
      rw [HSR.out, Bool.true_and]
      have HB3 := hid (HB2.out.trans (hb3.mono HB2.out.size))
      have HK3 := hid (HK2.out.below hb3)
      clear hb3 HK2 HB2 l1 x0 x1
      cases hrb : rightB s d r x with
      | false =>
        have HC : Hid (mayCode s r d x = 12 ∧ encOut s r d x = []) := by
          have := may_form HSR.out HRT.out hrb
          exact ⟨this, by rw [encOut, if_neg (by omega)]⟩
        clear hrb
        go_wp2_with fail
        go_ret2
        rw [HC.out.1, HC.out.2]
        exact ⟨_, rfl, own_nil _ _, HB3.out⟩
      | true =>
        have HRB := hid hrb
        have HC : Hid (mayCode s r d x = 0 ∧ encOut s r d x = encM s d r x) := by
          have := may_fine HSR.out HRT.out hrb
          exact ⟨this, by rw [encOut, if_pos this]⟩
        clear hrb
        have l1 := HK3.out.lt
        have x0 := HK3.out.cell 0 _ rfl
        have x1 := HK3.out.cell 1 _ rfl
        have hel := enc_len HSR.out d r _ x HM.out (by have := HW.out; omega)
        have H4 : Hid (∀ W, W = (w2.alloc (.cells #[.slice sa sn sc, .slice none 0 0] 115)) → WrAt W w2.heap.size (.slice sa sn sc) (.slice none 0 0) [] ∧ Below w2.heap.size w2 W) := by
          rintro W rfl
          exact ⟨⟨Blk.new w2 _ _, own_nil _ _⟩, (Below.refl w2.heap.size w2).alloc (Nat.le_refl _) _⟩
        have HEL : Hid ((encM s d r x).length ≤ 32212254720) := by have := HW.out; show _ ≤ _; omega
        clear hel
        go_wp2_with fail
        obtain ⟨hA4, hb4⟩ := H4.out _ rfl
        clear H4
        obtain ⟨W4, HW4⟩ : ∃ W4, Hid (W4 = w2.alloc (.cells #[.slice sa sn sc, .slice none 0 0] 115)) := ⟨_, rfl⟩
        rw [← HW4.out] at hA4 hb4 ⊢
        have HB4 := hid (HB3.out.trans (hb4.mono HB3.out.size))
        have hws : w.heap.size ≤ w2.heap.size := HB3.out.size
        have HA4 := hid hA4
        have HMW := hid (writer_message (w0 := w) HSR.out d W4 w2.heap.size (.slice sa sn sc) (.slice none 0 0) _ [] r x HS.out HM.out HB4.out hws hA4 HRB.out (by have := HEL.out; simp; omega) (by have := HW.out; omega))
        clear hA4 hb4 HW4 l1 x0 x1
        refine HMW.out.mono ?_
        rintro e w5 ⟨rfl, bv5, hA5, hS5⟩
        rw [List.nil_append] at hA5
        have HB5 : Hid (Below w.heap.size w w5) := hS5.below HA4.out hws HB4.out
        have l5 := hA5.1.lt
        have q1 := hA5.1.cell 1 _ rfl
        have HO5 : Hid (Own w5 w.heap.size bv5 (encM s d r x)) := hA5.2.mono (by omega)
        obtain ⟨a5, c5, e5⟩ := hA5.2.form
        obtain ⟨n5, HN5⟩ : ∃ n, Hid (n = (encM s d r x).length) := ⟨_, rfl⟩
        rw [← HN5.out] at e5
        subst e5
        clear hA5 hS5 hws
        go_wp2_with fail
        go_ret2
        exact ⟨_, by rw [HC.out.1]; rfl, by rw [HC.out.2]; exact HO5.out, HB5.out⟩
end Go.Proofs.YtbhiddafbpingaaGreat
namespace Go.Proofs.YtbhiddafbpingaaGreat
open Go.RowKit
def all2 {α β : Type} (S : α → β → Bool) : List α → List β → Bool
  | [], [] => true
  | x :: r, y :: t => S x y && all2 S r t
  | _, _ => false
def sameV {α β : Type} (S : α → β → Bool) (x : Val α) (y : Val β) : Bool := decide (x.num = y.num ∧ x.words = y.words ∧ x.texts = y.texts) && all2 S x.subs y.subs
/-- are two meanings alike? -/
def sameB : (a b : Nat) → M a → M b → Bool
  | 0, _, x, _ => Empty.elim x
  | _ + 1, 0, _, y => Empty.elim y
  | a + 1, b + 1, x, y => decide (M.unk x = M.unk y) && all2 (sameV (sameB a b)) (M.vals x) (M.vals y)
def depthV {α : Type} (D : α → Nat) (v : Val α) : Nat := (v.subs.map fun y => D y + 1).foldl max 0
def depthM : (d : Nat) → M d → Nat
  | 0, _ => 0
  | d + 1, x => ((M.vals x).map (depthV (depthM d))).foldl max 0
theorem foldl_max : ∀ (l : List Nat) (a : Nat), a ≤ l.foldl max a ∧ ∀ x ∈ l, x ≤ l.foldl max a
  | [], a => ⟨Nat.le_refl _, by simp⟩
  | y :: r, a => by
    obtain ⟨h1, h2⟩ := foldl_max r (max a y)
    rw [List.foldl_cons]
    refine ⟨by omega, fun x hx => ?_⟩
    rcases List.mem_cons.1 hx with rfl | hx
    · omega
    · exact h2 x hx
theorem foldl_from : ∀ (l : List Nat) (a : Nat), l.foldl max a = max a (l.foldl max 0)
  | [], a => by simp
  | x :: r, a => by
    rw [List.foldl_cons, List.foldl_cons, foldl_from r (max a x), foldl_from r (max 0 x)]
    omega
theorem foldl_take {α : Type} (f : α → Nat) (l : List α) (k : Nat) (x : α) (a : Nat) (h : l[k]? = some x) : ((l.take (k + 1)).map f).foldl max a = max (((l.take k).map f).foldl max a) (f x) := by
  rw [List.take_add_one, h]
  simp
theorem foldl_le {b : Nat} : ∀ (l : List Nat) (a : Nat), a ≤ b → (∀ x ∈ l, x ≤ b) → l.foldl max a ≤ b
  | [], _, h, _ => h
  | x :: r, a, h, hl => by
    rw [List.foldl_cons]
    exact foldl_le r _ (by have := hl x (by simp); omega) fun y hy => hl y (by simp [hy])
/-- a depth is at most the weight -/
theorem depth_le : ∀ (d : Nat) (x : M d), depthM d x ≤ mwt d x
  | 0, _ => Nat.zero_le _
  | d + 1, x => by
    have e : mwt (d + 1) x = 1 + twt (M.unk x) + ((M.vals x).map (vwt (mwt d))).sum := rfl
    show ((M.vals x).map (depthV (depthM d))).foldl max 0 ≤ _
    refine foldl_le _ _ (Nat.zero_le _) fun n hn => ?_
    obtain ⟨v, hv, rfl⟩ := List.mem_map.1 hn
    have h1 := mem_sum_le (vwt (mwt d)) (M.vals x) v hv
    refine foldl_le _ _ (Nat.zero_le _) fun n hn => ?_
    obtain ⟨y, hy, rfl⟩ := List.mem_map.1 hn
    have h2 := depth_le d y
    have h3 := mem_sum_le (mwt d) v.subs y hy
    show depthM d y + 1 ≤ _
    have h4 : vwt (mwt d) v = 1 + v.words.length + twt v.texts + (v.subs.map (mwt d)).sum := rfl
    omega
theorem all2_drop {α β : Type} (S : α → β → Bool) (l : List α) (m : List β) (k : Nat) (x : α) (y : β) (h : l[k]? = some x) (h2 : m[k]? = some y) : all2 S (l.drop k) (m.drop k) = (S x y && all2 S (l.drop (k + 1)) (m.drop (k + 1))) := by
  obtain ⟨hk, rfl⟩ := List.getElem?_eq_some_iff.1 h
  obtain ⟨hk2, rfl⟩ := List.getElem?_eq_some_iff.1 h2
  rw [List.drop_eq_getElem_cons hk, List.drop_eq_getElem_cons hk2, all2]
theorem all2_len {α β : Type} (S : α → β → Bool) : ∀ (l : List α) (m : List β), l.length ≠ m.length → all2 S l m = false
  | [], [], h => absurd rfl h
  | [], _ :: _, _ => rfl
  | _ :: _, [], _ => rfl
  | x :: r, y :: t, h => by
    rw [all2, all2_len S r t (by simpa using h), Bool.and_false]
theorem drop_eq {α : Type} [DecidableEq α] (l m : List α) (k : Nat) (x y : α) (h : l[k]? = some x) (h2 : m[k]? = some y) : decide (l.drop k = m.drop k) = (decide (x = y) && decide (l.drop (k + 1) = m.drop (k + 1))) := by
  obtain ⟨hk, rfl⟩ := List.getElem?_eq_some_iff.1 h
  obtain ⟨hk2, rfl⟩ := List.getElem?_eq_some_iff.1 h2
  rw [Bool.eq_iff_iff, Bool.and_eq_true, decide_eq_true_iff, decide_eq_true_iff, decide_eq_true_iff, List.drop_eq_getElem_cons hk, List.drop_eq_getElem_cons hk2, List.cons.injEq]
theorem bytes_beq (x y : List UInt8) : ((⟨x.toArray⟩ : ByteArray).toList == (⟨y.toArray⟩ : ByteArray).toList) = decide (x = y) := by
  rw [Bool.eq_iff_iff]
  simp [ByteArray.toList_eq]
theorem formM : ∀ {d : Nat} {w : World} {v : Value} {x : M d}, MsgAt d w v x → ∃ a1 n1 c1 a2 n2 c2, v = .agg #[.slice a1 n1 c1, .slice a2 n2 c2]
  | 0, _, _, _, h => h.elim
  | d + 1, _, _, _, h => by
    obtain ⟨vv, uv, rfl, hV, hU⟩ := h
    obtain ⟨-, va, vc, rfl, -, -⟩ := hV.open
    obtain ⟨-, ua, uc, rfl, -, -⟩ := hU.open
    exact ⟨_, _, _, _, _, _, rfl⟩
theorem formV {d : Nat} {w : World} {m : Int} {v1 v2 v3 : Value} {x : Val (M d)} (h : ValAt (MsgAt d) w (.agg #[.int .i64 m, v1, v2, v3]) x) : ∃ a1 n1 c1 a2 n2 c2 a3 n3 c3, v1 = .slice a1 n1 c1 ∧ v2 = .slice a2 n2 c2 ∧ v3 = .slice a3 n3 c3 := by
  obtain ⟨wv, tv, sv, e, -, hW, hT, hS⟩ := h
  cases e
  obtain ⟨-, wa, wc, rfl, -, -⟩ := hW.open
  obtain ⟨-, ta, tc, rfl, -, -⟩ := hT.open
  obtain ⟨-, sa, sc, rfl, -, -⟩ := hS.open
  exact ⟨_, _, _, _, _, _, _, _, _, rfl, rfl, rfl⟩
end Go.Proofs.YtbhiddafbpingaaGreat
