/- darningref15.Join of two right meanings (joinM), for each depth. Meanings of at most 2^29 things. -/
import Derived.Test.YtaefpjecalnbcaaGreatZ16
import Derived.Test.YtaefpjecalnbcaaGreatZ26
import Derived.Test.YtaefpjecalnbcaaGreatZ27
import Derived.Test.YtaefpjecalnbcaaGreatZ31
import Derived.Test.YtaefpjecalnbcaaGreatZ32
import Derived.Test.YtaefpjecalnbcaaGreatZ34
import Derived.Test.YtaefpjecalnbcaaGreatZ35
import Derived.Test.YtaefpjecalnbcaaGreatZ36
namespace Go.Proofs.YtaefpjecalnbcaaGreat
open Go.RowKit Go.Shelf
def RJoinOk (w0 : World) (sv : Value) (s : List Mes) (d : Nat) : Prop := ∀ (m : Nat) (w : World) (av bv : Value) (a b : M d), m < s.length → Below w0.heap.size w0 w → MsgAt d w0 av a → MsgAt d w0 bv b → rightB s d (m : Int) a = true → rightB s d (m : Int) b = true → mwt d a ≤ 536870912 → mwt d b ≤ 536870912 →
  Calls Tryz.prog 19 #[sv, .int .i64 (m : Int), av, bv] w fun e w' => ∃ v', e = .returned v' ∧ Below w.heap.size w w' ∧ Apart w0.heap.size w.heap.size w' fun W => MsgAt d W v' (joinM s d m a b)
theorem fits_many {α : Type} {R : Int → α → Bool} {f : Fld} {x : Val α} (h : fitsB R f x = true) : manyV x ≠ 0 := by
  unfold fitsB at h
  unfold manyV
  intro e
  rw [if_pos (.inl e)] at h
  cases h
structure RJI (d n0 O : Nat) (w wr : World) (X : Nat) (m1 m2 : List Value) (av bv : List (Val (M d))) (gj : Val (M d) → Val (M d) → Val (M d)) (un : List (List UInt8)) (o1 o2 : Value) (l : List (Val (M d))) (i : Nat) : Prop where
  below : Below X w wr
  bx : Blk wr X m1 35
  by' : Blk wr (X + 1) m2 35
  br : Blk wr (X + 1 + 1) [.slice none 0 0, .slice none 0 0] 35
  bo : Blk wr O [o1, o2] 35
  out : Apart n0 (O + 1) wr fun W => MsgAt (d + 1) W (.agg #[o1, o2]) (⟨l, un⟩ : Msgd (M d))
  rise : RiseV l
  len : l.length ≤ av.length + i
  todo : (bv.drop i).foldl (fun out v => putV (withV gj av v) out) l = joinV gj av bv
theorem RJI.later {d n0 O : Nat} {w wr w1 : World} {X : Nat} {m1 m2 : List Value} {av bv : List (Val (M d))} {gj : Val (M d) → Val (M d) → Val (M d)} {un : List (List UInt8)} {o1 o2 : Value} {l : List (Val (M d))} {i : Nat} (h : RJI d n0 O w wr X m1 m2 av bv gj un o1 o2 l i) (hX : X ≤ wr.heap.size) (hb : Below wr.heap.size wr w1) : RJI d n0 O w w1 X m1 m2 av bv gj un o1 o2 l i :=
  ⟨h.below.trans (hb.mono hX), h.bx.below hb, h.by'.below hb, h.br.below hb, h.bo.below hb, h.out.later hb, h.rise, h.len, h.todo⟩
theorem RJI.step {d n0 O : Nat} {w wr w1 : World} {X : Nat} {m1 m2 : List Value} {av bv : List (Val (M d))} {gj : Val (M d) → Val (M d) → Val (M d)} {un : List (List UInt8)} {o1 o2 u1 u2 : Value} {l : List (Val (M d))} {i : Nat} (h : RJI d n0 O w wr X m1 m2 av bv gj un o1 o2 l i) (hs : n0 ≤ X ∧ O = X + 1 + 1 + 1) (hb : Below wr.heap.size wr w1)
    {v : Val (M d)} (hv : bv[i]? = some v) (hout : Apart n0 (O + 1) w1 fun W => MsgAt (d + 1) W (.agg #[u1, u2]) (⟨putV (withV gj av v) l, un⟩ : Msgd (M d))) : RJI d n0 O w ((w1.setCell ⟨O, 0, none⟩ u1).setCell ⟨O, 1, none⟩ u2) X m1 m2 av bv gj un u1 u2 (putV (withV gj av v) l) (i + 1) := by
  have hX := h.bx.lt
  have h1 := h.later (by omega) hb
  have hne : ∀ b, b ≠ O → ((w1.setCell ⟨O, 0, none⟩ u1).setCell ⟨O, 1, none⟩ u2).heap[b]? = w1.heap[b]? := fun b hb => by
    rw [Below.heap_setCell _ _ _ b hb, Below.heap_setCell _ _ _ b hb]
  refine ⟨(h1.below.setCell (by show X ≤ O; omega) _).setCell (by show X ≤ O; omega) _, (hne X (by omega)).trans h1.bx, (hne (X + 1) (by omega)).trans h1.by', (hne (X + 1 + 1) (by omega)).trans h1.br, (h1.bo.set 0 u1).set 1 u2, fun W hW => hout W fun b hlt hc => ?_, putV_rise h.rise, ?_, ?_⟩
  · rw [hW b (by simpa using hlt) hc]
    exact hne b (by omega)
  · have hput : ∀ (v : Val (M d)) (l : List (Val (M d))), (putV v l).length ≤ l.length + 1 := by
      intro v l
      induction l with
      | nil => simp [putV]
      | cons x r ih =>
        unfold putV
        split
        · simp; exact ih
        · split <;> simp
    have := hput (withV gj av v) l
    have := h.len
    omega
  · obtain ⟨hi, he⟩ := List.getElem?_eq_some_iff.1 hv
    have := h.todo
    rw [List.drop_eq_getElem_cons hi, he, List.foldl_cons] at this
    exact this
set_option maxRecDepth 100000 in
set_option maxHeartbeats 16000000 in
theorem ref15_Join_step {w0 : World} {sv : Value} {s : List Mes} (hS0 : SchemaAt w0 sv s) (d : Nat) (hrec : RJoinOk w0 sv s d) : RJoinOk w0 sv s (d + 1) := by
  intro m w av bv a b hm hw ha hb hra hrb hwa hwb
  have HRE := hid hrec
  obtain ⟨hoka, hria⟩ := vals_rise hra
  obtain ⟨hokb, hrib⟩ := vals_rise hrb
  obtain ⟨fs, HFS⟩ : ∃ fs, Hid (fs = (s.getD m .zero).fields) := ⟨_, rfl⟩
  rw [← HFS.out] at hoka hokb
  have HOKA := hid (And.intro hoka hria)
  have HOKB := hid (And.intro hokb hrib)
  obtain ⟨gj, HGJ⟩ : ∃ gj : Val (M d) → Val (M d) → Val (M d), Hid (gj = fun w v => bothV (fun o x y => joinM s d o x y) (fs.getD (fieldAt fs v.num).toNat .zero) w v) := ⟨_, rfl⟩
  have HJM : Hid (joinM s (d + 1) (m : Int) a b = (⟨joinV gj (M.vals a) (M.vals b), M.unk a ++ M.unk b⟩ : Msgd (M d))) := by
    rw [Hid, HGJ.out, HFS.out]
    show (⟨joinV (fun w v => bothV (joinM s d) ((s.getD (m : Int).toNat .zero).fields.getD (fieldAt (s.getD (m : Int).toNat .zero).fields v.num).toNat .zero) w v) (M.vals a) (M.vals b), M.unk a ++ M.unk b⟩ : Msgd (M d)) = _
    rw [Int.toNat_natCast]
  have HWT := hid (And.intro hwa hwb)
  have HAM := hid ha
  have HBM := hid hb
  obtain ⟨-, sa, sc, rfl, hat⟩ := hS0.open
  obtain ⟨sn, HSN⟩ : ∃ n, Hid (n = s.length) := ⟨_, rfl⟩
  obtain ⟨sb, so, fv, hsa, -, c0, c1, hF⟩ := hat m hm
  subst hsa
  rw [← HFS.out] at hF
  obtain ⟨nm, HNM⟩ : ∃ nm, Hid (nm = (s.getD m .zero).name) := ⟨_, rfl⟩
  rw [← HNM.out] at c0
  obtain ⟨hfl, fa, fc, rfl, hfat⟩ := hF.open
  obtain ⟨fn, HFN⟩ : ∃ n, Hid (n = fs.length) := ⟨_, rfl⟩
  rw [← HFN.out] at hF c1 hfat hfl
  rw [← HSN.out] at hS0 HRE hm ⊢
  obtain ⟨avv, auv, rfl, hVa, hUa⟩ := ha
  obtain ⟨bvv, buv, rfl, hVb, hUb⟩ := hb
  obtain ⟨-, pa, pc, rfl, -, hva⟩ := hVa.open
  obtain ⟨-, qa, qc, rfl, -, hvb⟩ := hVb.open
  obtain ⟨-, ra, rc, rfl, -, -⟩ := hUa.open
  obtain ⟨-, ta, tc, rfl, -, -⟩ := hUb.open
  obtain ⟨an, HAN⟩ : ∃ n, Hid (n = (M.vals a).length) := ⟨_, rfl⟩
  obtain ⟨bn, HBN⟩ : ∃ n, Hid (n = (M.vals b).length) := ⟨_, rfl⟩
  obtain ⟨au, HAU⟩ : ∃ n, Hid (n = (M.unk a).length) := ⟨_, rfl⟩
  obtain ⟨bu, HBU⟩ : ∃ n, Hid (n = (M.unk b).length) := ⟨_, rfl⟩
  rw [← HAN.out, ← HAU.out] at HAM ⊢
  rw [← HAN.out] at hVa
  rw [← HBN.out, ← HBU.out] at HBM ⊢
  rw [← HAU.out] at hUa
  rw [← HBU.out] at hUb
  have HLA : Hid (an ≤ 536870912 ∧ bn ≤ 536870912 ∧ au ≤ 536870912 ∧ bu ≤ 536870912) := by
    have h1 := vals_len a
    have h2 := vals_len b
    have h3 : ∀ l : List (List UInt8), l.length ≤ twt l := fun l => by
      induction l with
      | nil => simp
      | cons t l ih => unfold twt at *; simp; omega
    have h4 := h3 (M.unk a)
    have h5 := h3 (M.unk b)
    have h6 : 1 + twt (M.unk a) + ((M.vals a).map (vwt (mwt d))).sum ≤ 536870912 := hwa
    have h7 : 1 + twt (M.unk b) + ((M.vals b).map (vwt (mwt d))).sum ≤ 536870912 := hwb
    rw [HAN.out, HBN.out, HAU.out, HBU.out]
    show _ ∧ _
    omega
  obtain ⟨Q, HQ⟩ : ∃ Q : Ending → World → Prop, Hid (Q = fun e w' => ∃ v', e = .returned v' ∧ Below w.heap.size w w' ∧ Apart w0.heap.size w.heap.size w' fun W => MsgAt (d + 1) W v' (joinM s (d + 1) m a b)) := ⟨_, rfl⟩
  rw [← HQ.out]
  obtain ⟨X, HX⟩ : ∃ X, Hid (X = w.heap.size) := ⟨_, rfl⟩
  obtain ⟨O, HO⟩ : ∃ O, Hid (O = X + 1 + 1 + 1) := ⟨_, rfl⟩
  have HS0 := hid hS0
  have HMS := hid hm
  have HHW := hid hw
  have HVA := hid hva
  have HVB := hid hvb
  have HC01 := hid (And.intro c0 c1)
  have HFT := hid (And.intro hF hfat)
  have HUA := hid hUa
  have HUB := hid hUb
  have HVAS := hid hVa
  have HSD : Hid (w0.heap.size ≤ X ∧ O = X + 1 + 1 + 1) := ⟨by rw [HX.out]; exact hw.size, HO.out⟩
  obtain ⟨W1, HW1⟩ : ∃ W, Hid (W = ((w.alloc (.cells #[.slice pa an pc, .slice ra au rc] 35)).alloc (.cells #[.slice qa bn qc, .slice ta bu tc] 35)).alloc (.cells #[.slice none 0 0, .slice none 0 0] 35)) := ⟨_, rfl⟩
  obtain ⟨hx1, hy1, hr1, hz1, hb1⟩ := news3 w [.slice pa an pc, .slice ra au rc] [.slice qa bn qc, .slice ta bu tc] [.slice none 0 0, .slice none 0 0] 35 35 35
  rw [← HW1.out, ← HX.out] at hx1 hy1 hr1 hz1 hb1
  obtain ⟨W2, HW2⟩ : ∃ W, Hid (W = W1.alloc (.cells #[.slice pa an pc, .slice ra au rc] 35)) := ⟨_, rfl⟩
  have hb2 : Below W1.heap.size W1 W2 := by rw [HW2.out]; exact (Below.refl _ _).alloc (Nat.le_refl _) _
  have ho2 : Blk W2 O [.slice pa an pc, .slice ra au rc] 35 := by rw [HW2.out]; exact Blk.new' W1 [.slice pa an pc, .slice ra au rc] _ O (by rw [HO.out, hz1])
  have HJ0 : Hid (RJI d w0.heap.size O w W2 X [.slice pa an pc, .slice ra au rc] [.slice qa bn qc, .slice ta bu tc] (M.vals a) (M.vals b) gj (M.unk a) (.slice pa an pc) (.slice ra au rc) (M.vals a) 0) := by
    have hbw : Below X w W2 := hb1.trans (hb2.mono (by rw [hz1]; omega))
    refine ⟨hbw, hx1.below hb2, hy1.below hb2, hr1.below hb2, ho2, apart_old rfl (hw.trans ((hbw.mono (by rw [HX.out]; exact Nat.le_refl _)).mono hw.size)) fun W hk => ?_, hria, Nat.le_refl _, rfl⟩
    exact HAM.out.keep hk
  have x0 := hx1.cell 0 _ rfl
  have x1 := hx1.cell 1 _ rfl
  have xl := hx1.lt
  have HZ1 := hid hz1
  clear hS0 hm hw hat hva hvb c0 c1 hF hfat hfl hUa hUb hVa hVb hrec hra hrb hwa hwb hoka hria hokb hrib hx1 hy1 hr1 hz1 hb1 hb2 ho2
  go_enter Tryz.func19, Tryz.ntmps19
  go_upto_region 1 with fail
  rw [← HW1.out, ← HX.out]
  go_upto_region 2 with fail
  rw [← HW2.out, show W1.heap.size = O by rw [HZ1.out, HO.out]]
  go_wp2_with fail
  go_loopw [10] (fun v10 wr => ∃ (i : Nat) (l : List (Val (M d))) (oa : Option Addr) (on oc : Nat) (ea : Option Addr) (en ec : Nat), v10 = .int .i64 (i : Int) ∧ i ≤ bn ∧ Hid (RJI d w0.heap.size O w wr X [.slice pa an pc, .slice ra au rc] [.slice qa bn qc, .slice ta bu tc] (M.vals a) (M.vals b) gj (M.unk a) (.slice oa on oc) (.slice ea en ec) l i)) (fun v10 _ => bn - (intOf v10).toNat)
  case atStart => exact ⟨0, M.vals a, pa, an, pc, ra, au, rc, rfl, by omega, HJ0.out⟩
  case round =>
    obtain ⟨i, l, oa, on, oc, ea, en, ec, rfl, hi, HJ⟩ := hrel
    have hbn : bn ≤ 536870912 := HLA.out.2.1
    clear HJ0
    by_cases hlt : i < bn
    · obtain ⟨v, hv⟩ : ∃ v, (M.vals b)[i]? = some v := ⟨_, List.getElem?_eq_getElem (by rw [← HBN.out]; exact hlt)⟩
      have HB0 : Hid (Below w0.heap.size w0 wr) := HHW.out.trans ((HJ.out.below.mono (Nat.le_of_eq HX.out.symm)).mono HHW.out.size)
      obtain ⟨vb, vo, v1, v2, v3, hva, g0, g1, g2, g3, hM⟩ := HVB.out i v hv
      obtain ⟨num, a1, n1, q1, a2, n2, q2, a3, n3, q3, hform⟩ := hM.form
      obtain ⟨rfl, rfl, rfl⟩ : v1 = .slice a1 n1 q1 ∧ v2 = .slice a2 n2 q2 ∧ v3 = .slice a3 n3 q3 := by cases hform; exact ⟨rfl, rfl, rfl⟩
      have hnum : v.num = num := by cases hform; rfl
      rw [hnum] at g0 hM
      clear hform
      have hkr := below_keeps HB0.out
      replace g0 := hkr _ _ g0
      replace g1 := hkr _ _ g1
      replace g2 := hkr _ _ g2
      replace g3 := hkr _ _ g3
      have HV := hid (And.intro hv hnum)
      have HMV := hid hM
      obtain ⟨hq0, hq1, hqn, hqF⟩ := HOKB.out.1.at' v (List.mem_of_getElem? hv)
      unfold qOf at hq0 hq1 hqn hqF
      rw [hnum] at hq0 hq1 hqn hqF
      obtain ⟨q, hq⟩ : ∃ q : Nat, fieldAt fs num = q := ⟨(fieldAt fs num).toNat, by omega⟩
      rw [hq, Int.toNat_natCast] at hqn hqF
      rw [hq] at hq1
      have hqlt : q < fn := by rw [HFN.out]; omega
      obtain ⟨f, HF⟩ : ∃ f, Hid (f = fs.getD q .zero) := ⟨_, rfl⟩
      rw [← HF.out] at hqn hqF
      have HQF := hid (And.intro hqn hqF)
      have HNUM := hid (And.intro hnum hq)
      have hix := index_run Tryz.underlying33 size_rval' hva i hlt (cap := qc)
      have hbl := World.block_lt_of_cell? wr _ g0
      have y0 := HJ.out.by'.cell 0 _ rfl
      have yl := HJ.out.by'.lt
      obtain ⟨B, HBB⟩ : ∃ B, Hid (B = wr.heap.size) := ⟨_, rfl⟩
      obtain ⟨W6, HW6⟩ : ∃ W6, Hid (W6 = wr.alloc (.cells #[.int .i64 num, .slice a1 n1 q1, .slice a2 n2 q2, .slice a3 n3 q3] 71)) := ⟨_, rfl⟩
      have hb6 : Below wr.heap.size wr W6 := by rw [HW6.out]; exact (Below.refl _ _).alloc (Nat.le_refl _) _
      have hv6 : Blk W6 B [.int .i64 num, .slice a1 n1 q1, .slice a2 n2 q2, .slice a3 n3 q3] 71 := by rw [HW6.out, HBB.out]; exact Blk.new wr [.int .i64 num, .slice a1 n1 q1, .slice a2 n2 q2, .slice a3 n3 q3] _
      have HB6 := hid hb6
      have HV6 := hid hv6
      have HB06 := hid (HB0.out.trans (hb6.mono HB0.out.size))
      clear hv hM hkr hnum hq0 hq1 hqn hqF hb6 hv6 hva
      go_upto_region 6 with fail
      rw [← HW6.out, ← HBB.out]
      clear g0 g1 g2 g3 hix hbl y0 yl
      have d0 := HV6.out.cell 0 _ rfl
      have dl := HV6.out.lt
      obtain ⟨fb, fo, hfb, hfok, f0, f1, f2, f3, f4, f5⟩ := HFT.out.2 q hqlt
      subst hfb
      rw [← HF.out] at f0 f1 f2 f3 f4 f5 hfok
      have hk6 := below_keeps HB06.out
      replace f0 := hk6 _ _ f0
      replace f1 := hk6 _ _ f1
      replace f2 := hk6 _ _ f2
      replace f3 := hk6 _ _ f3
      replace f4 := hk6 _ _ f4
      replace f5 := hk6 _ _ f5
      have c0 := hk6 _ _ HC01.out.1
      have c1 := hk6 _ _ HC01.out.2
      have hm := HMS.out
      have hixf := index_run Tryz.underlying60 size_fld rfl q hqlt (a := some ⟨fb, fo, none⟩) (cap := fc)
      have hixs := index_run Tryz.underlying23 size_mes rfl m hm (a := some ⟨sb, so, none⟩) (cap := sc)
      have hgl := World.block_lt_of_cell? W6 _ f0
      have hsl6 := World.block_lt_of_cell? W6 _ c1
      have HFD : Hid (∀ W, Below W6.heap.size W6 W → Calls Tryz.prog 33 #[.agg #[.string nm, .slice (some ⟨fb, fo, none⟩) fn fc], .int .i64 num] W fun e w' => e = .returned (.int .i64 (q : Int)) ∧ Below W.heap.size W w') := fun W hW => by
        have := ref07_Field ((HFT.out.1.below HB06.out).below hW) nm num
        rwa [HNUM.out.2] at this
      have q0 : W6.drew.cell? ⟨sb, so + m * 2, none⟩ = some (.string nm) ∧ W6.drew.cell? ⟨sb, so + m * 2 + 1, none⟩ = some (.slice (some ⟨fb, fo, none⟩) fn fc) ∧ W6.drew.cell? ⟨B, 0, none⟩ = some (.int .i64 num) ∧ W6.drew.cell? ⟨fb, fo + q * 6, none⟩ = some (.string f.name) ∧ W6.drew.cell? ⟨fb, fo + q * 6 + 1, none⟩ = some (.int .i64 f.number) ∧ W6.drew.cell? ⟨fb, fo + q * 6 + 2, none⟩ = some (.int .i64 f.kind) ∧ W6.drew.cell? ⟨fb, fo + q * 6 + 3, none⟩ = some (.bool f.rep) ∧ W6.drew.cell? ⟨fb, fo + q * 6 + 4, none⟩ = some (.bool f.packed) ∧ W6.drew.cell? ⟨fb, fo + q * 6 + 5, none⟩ = some (.int .i64 f.of) := ⟨c0, c1, d0, f0, f1, f2, f3, f4, f5⟩
      have hz6 : Blk (W6.alloc (.cells #[.string ⟨#[]⟩, .int .i64 0, .int .i64 0, .bool false, .bool false, .int .i64 0] 59)).drew W6.heap.size [.string ⟨#[]⟩, .int .i64 0, .int .i64 0, .bool false, .bool false, .int .i64 0] 59 := Blk.new W6 [.string ⟨#[]⟩, .int .i64 0, .int .i64 0, .bool false, .bool false, .int .i64 0] _
      have hbz : Below W6.heap.size W6 (W6.alloc (.cells #[.string ⟨#[]⟩, .int .i64 0, .int .i64 0, .bool false, .bool false, .int .i64 0] 59)).drew := ((Below.refl _ _).alloc (Nat.le_refl _) _).drew
      have HZ6 := hid (And.intro hz6 hbz)
      clear hz6 hbz
      have HD6 := hid ((Below.refl W6.heap.size W6).drew)
      go_cut [12] from 28 to 41 (fun s12 wx => ∃ FB : Nat, s12 = .pointer (some ⟨FB, 0, none⟩) ∧ Hid (Below W6.heap.size W6 wx ∧ W6.heap.size ≤ FB ∧ Blk wx FB f.cells 59))
      case first =>
        clear HJ HVA HVB HOKA HOKB HWT HUA HUB HJM HAM HBM HGJ HLA HVAS HZ1 HV HMV HNUM HB0 HRE HQF HHW HFT HFS HNM HC01 HSN HAN HBN HAU HBU HFN HS0 HX HW1 HW2 HSD HO HQ
        go_region_held3 (fun w' => w'.cell? ⟨sb, so + m * 2, none⟩ = some (.string nm) ∧ w'.cell? ⟨sb, so + m * 2 + 1, none⟩ = some (.slice (some ⟨fb, fo, none⟩) fn fc) ∧ w'.cell? ⟨B, 0, none⟩ = some (.int .i64 num) ∧ w'.cell? ⟨fb, fo + q * 6, none⟩ = some (.string f.name) ∧ w'.cell? ⟨fb, fo + q * 6 + 1, none⟩ = some (.int .i64 f.number) ∧ w'.cell? ⟨fb, fo + q * 6 + 2, none⟩ = some (.int .i64 f.kind) ∧ w'.cell? ⟨fb, fo + q * 6 + 3, none⟩ = some (.bool f.rep) ∧ w'.cell? ⟨fb, fo + q * 6 + 4, none⟩ = some (.bool f.packed) ∧ w'.cell? ⟨fb, fo + q * 6 + 5, none⟩ = some (.int .i64 f.of)) (first | (with_reducible exact q0) | (with_reducible exact q1) | go_keep | (refine (fun (hb : Below W6.heap.size W6 _) => ⟨below_keeps hb _ _ q0.1, below_keeps hb _ _ q0.2.1, below_keeps hb _ _ q0.2.2.1, below_keeps hb _ _ q0.2.2.2.1, below_keeps hb _ _ q0.2.2.2.2.1, below_keeps hb _ _ q0.2.2.2.2.2.1, below_keeps hb _ _ q0.2.2.2.2.2.2.1, below_keeps hb _ _ q0.2.2.2.2.2.2.2.1, below_keeps hb _ _ q0.2.2.2.2.2.2.2.2⟩) ?_; (repeat (first | with_reducible exact Below.refl _ _ | with_reducible refine Below.setCell ?_ (by first | omega | (simp; omega) | (simp; done)) _ | with_reducible refine Below.alloc ?_ (by first | omega | (simp; omega) | (simp; done)) _ | with_reducible refine below_drewN ?_ _ | with_reducible refine Below.drew ?_)); exact HB67.out)) (first
          | (go_at_call 33; (with_reducible refine (HFD.out _ HZ6.out.2).mono ?_); rintro e w7 ⟨rfl, hb7⟩; have hb67 := below_step HZ6.out.2 hb7 HZ6.out.2.size; have q1 : w7.cell? ⟨sb, so + m * 2, none⟩ = some (.string nm) ∧ w7.cell? ⟨sb, so + m * 2 + 1, none⟩ = some (.slice (some ⟨fb, fo, none⟩) fn fc) ∧ w7.cell? ⟨B, 0, none⟩ = some (.int .i64 num) ∧ w7.cell? ⟨fb, fo + q * 6, none⟩ = some (.string f.name) ∧ w7.cell? ⟨fb, fo + q * 6 + 1, none⟩ = some (.int .i64 f.number) ∧ w7.cell? ⟨fb, fo + q * 6 + 2, none⟩ = some (.int .i64 f.kind) ∧ w7.cell? ⟨fb, fo + q * 6 + 3, none⟩ = some (.bool f.rep) ∧ w7.cell? ⟨fb, fo + q * 6 + 4, none⟩ = some (.bool f.packed) ∧ w7.cell? ⟨fb, fo + q * 6 + 5, none⟩ = some (.int .i64 f.of) := ⟨below_keeps hb67 _ _ q0.1, below_keeps hb67 _ _ q0.2.1, below_keeps hb67 _ _ q0.2.2.1, below_keeps hb67 _ _ q0.2.2.2.1, below_keeps hb67 _ _ q0.2.2.2.2.1, below_keeps hb67 _ _ q0.2.2.2.2.2.1, below_keeps hb67 _ _ q0.2.2.2.2.2.2.1, below_keeps hb67 _ _ q0.2.2.2.2.2.2.2.1, below_keeps hb67 _ _ q0.2.2.2.2.2.2.2.2⟩; have hz7 := HZ6.out.1.below hb7; have z0 := hz7.cell 0 _ rfl; have z1 := hz7.cell 1 _ rfl; have z2 := hz7.cell 2 _ rfl; have z3 := hz7.cell 3 _ rfl; have z4 := hz7.cell 4 _ rfl; have z5 := hz7.cell 5 _ rfl; have y0 := hz7.free 0; have y1 := hz7.free 1; have y2 := hz7.free 2; have y3 := hz7.free 3; have y4 := hz7.free 4; have y5 := hz7.free 5; have zl := hz7.lt; have HZ7 := hid hz7; have HB67 := hid hb67; clear hz7 hb67 hb7)
          | (go_at_call 33; (with_reducible refine (HFD.out _ HD6.out).mono ?_); rintro e w7 ⟨rfl, hb7⟩; have hb67 := below_step HD6.out hb7 HD6.out.size; have q1 : w7.cell? ⟨sb, so + m * 2, none⟩ = some (.string nm) ∧ w7.cell? ⟨sb, so + m * 2 + 1, none⟩ = some (.slice (some ⟨fb, fo, none⟩) fn fc) ∧ w7.cell? ⟨B, 0, none⟩ = some (.int .i64 num) ∧ w7.cell? ⟨fb, fo + q * 6, none⟩ = some (.string f.name) ∧ w7.cell? ⟨fb, fo + q * 6 + 1, none⟩ = some (.int .i64 f.number) ∧ w7.cell? ⟨fb, fo + q * 6 + 2, none⟩ = some (.int .i64 f.kind) ∧ w7.cell? ⟨fb, fo + q * 6 + 3, none⟩ = some (.bool f.rep) ∧ w7.cell? ⟨fb, fo + q * 6 + 4, none⟩ = some (.bool f.packed) ∧ w7.cell? ⟨fb, fo + q * 6 + 5, none⟩ = some (.int .i64 f.of) := ⟨below_keeps hb67 _ _ q0.1, below_keeps hb67 _ _ q0.2.1, below_keeps hb67 _ _ q0.2.2.1, below_keeps hb67 _ _ q0.2.2.2.1, below_keeps hb67 _ _ q0.2.2.2.2.1, below_keeps hb67 _ _ q0.2.2.2.2.2.1, below_keeps hb67 _ _ q0.2.2.2.2.2.2.1, below_keeps hb67 _ _ q0.2.2.2.2.2.2.2.1, below_keeps hb67 _ _ q0.2.2.2.2.2.2.2.2⟩; have HB67 := hid hb67; clear hb67 hb7))
        · go_wp2_with fail
          go_meet
          case rel => exact ⟨_, rfl, HB67.out.alloc HB67.out.size _, HB67.out.size, Blk.new w7 f.cells _⟩
        · go_wp2_with fail
          go_meet
          case rel =>
            refine ⟨_, rfl, ?_, Nat.le_refl _, ?_⟩
            · (repeat (first | with_reducible exact Below.refl _ _ | with_reducible refine Below.setCell ?_ (by first | omega | (simp; omega) | (simp; done)) _ | with_reducible refine Below.alloc ?_ (by first | omega | (simp; omega) | (simp; done)) _ | with_reducible refine below_drewN ?_ _ | with_reducible refine Below.drew ?_))
              exact HB67.out
            · exact ((((((HZ7.out.set 0 (.string f.name)).set 1 (.int .i64 f.number)).set 2 (.int .i64 f.kind)).set 3 (.bool f.rep)).set 4 (.bool f.packed)).set 5 (.int .i64 f.of))
      case rest =>
        obtain ⟨FB, rfl, HC⟩ := hcut
        clear c0 c1 d0 dl f0 f1 f2 f3 f4 f5 hk6 hixf hixs hgl hsl6 q0 HZ6 HFD hfok
        have HBc := hid (HB6.out.trans (HC.out.1.mono HB6.out.size))
        have HJc := hid (HJ.out.later (by have := HJ.out.bx.lt; omega) HBc.out)
        have HVF := hid (And.intro (HV6.out.below HC.out.1) HC.out.2.2)
        have HGE : Hid (wr.heap.size ≤ B ∧ wr.heap.size ≤ FB) := ⟨by rw [HBB.out]; exact Nat.le_refl _, Nat.le_trans HB6.out.size HC.out.2.1⟩
        have HB0c := hid (HB0.out.trans (HBc.out.mono HB0.out.size))
        have HGET := hid (ref14_Get (a2 := ra) (n2 := au) (c2 := rc) (HVAS.out.keep (below_keeps HB0c.out) fun _ _ h => h.keep (below_keeps HB0c.out)) num)
        have x0 := HJc.out.bx.cell 0 _ rfl
        have x1 := HJc.out.bx.cell 1 _ rfl
        have xl := HJc.out.bx.lt
        have d0 := HVF.out.1.cell 0 _ rfl
        have dl := HVF.out.1.lt
        go_wp2_with fail
        refine HGET.out.mono ?_
        rintro e w9 ⟨kx, rfl, hget, hb9⟩
        have HGA := hid hget
        have HB9 := hid hb9
        have HJW : Hid (∀ W, Below wc.heap.size wc W → Below wr.heap.size wr W ∧ Blk W B [.int .i64 num, .slice a1 n1 q1, .slice a2 n2 q2, .slice a3 n3 q3] 71 ∧ Blk W FB f.cells 59 ∧ Blk W X [.slice pa an pc, .slice ra au rc] 35 ∧ Below w0.heap.size w0 W) := fun W hW =>
          ⟨HBc.out.trans (hW.mono HBc.out.size), HVF.out.1.below hW, HVF.out.2.below hW, HJc.out.bx.below hW, HB0c.out.trans (hW.mono HB0c.out.size)⟩
        clear hget hb9 x0 x1 xl d0 dl HGET
        have HSTAT := hid (And.intro HJ (And.intro HRE (And.intro HUA (And.intro HUB (And.intro HJM (And.intro HHW (And.intro HS0 (And.intro HV (And.intro HQF (And.intro HAM HBM))))))))))
        go_upto_if 47 with fail
        go_cut [14] from 48 to 97 (fun s14 wx => ∃ (b1 : Option Addr) (m1 k1 : Nat) (b2 : Option Addr) (m2 k2 : Nat) (b3 : Option Addr) (m3 k3 : Nat), Hid (Below wr.heap.size wr wx ∧ Blk wx B [.int .i64 num, .slice b1 m1 k1, .slice b2 m2 k2, .slice b3 m3 k3] 71 ∧ Apart w0.heap.size (O + 1) wx fun W => ValAt (MsgAt d) W (.agg #[.int .i64 num, .slice b1 m1 k1, .slice b2 m2 k2, .slice b3 m3 k3]) (withV gj (M.vals a) v)))
        case first =>
          clear HJ HVB HJc HUA HUB HJM HAM HBM HS0 HBN HAU HBU HFN HFT HC01 HNM HX HW1 HW2 HQ HO HZ1 HVAS
          rcases HGA.out with ⟨rfl, hgn⟩ | ⟨k, u, rfl, hk, hun, hgu⟩
          · go_wp2_with fail
            go_meet
            case rel =>
              refine ⟨_, _, _, _, _, _, _, _, _, (HJW.out w9 HB9.out).1, (HJW.out w9 HB9.out).2.1, ?_⟩
              have hwv : withV gj (M.vals a) v = v := by
                unfold withV
                rw [HNUM.out.1, show getV (M.vals a) num = none from hgn]
              rw [hwv]
              exact apart_old rfl (HJW.out w9 HB9.out).2.2.2.2 fun W hk => VMsg.keep HMV.out hk
          · have hwv : withV gj (M.vals a) v = bothV (fun o x y => joinM s d o x y) f u v := by
              unfold withV
              rw [HNUM.out.1, show getV (M.vals a) num = some u from hgu]
              show gj u v = _
              rw [HGJ.out]
              show bothV _ (fs.getD (fieldAt fs v.num).toNat .zero) u v = _
              rw [HNUM.out.1, HNUM.out.2, Int.toNat_natCast, ← HF.out]
            have hum := List.mem_of_getElem? hk
            obtain ⟨-, -, -, hgF⟩ := HOKA.out.1.at' u hum
            unfold qOf at hgF
            rw [hun, HNUM.out.2, Int.toNat_natCast, ← HF.out] at hgF
            have hkn : k < an := by rw [HAN.out]; exact (List.getElem?_eq_some_iff.1 hk).1
            obtain ⟨ub, uo, u1, u2, u3, hua, e0, e1, e2, e3, hUM⟩ := HVA.out k u hk
            obtain ⟨num', b1, m1, k1, b2, m2, k2, b3, m3, k3, hform⟩ := hUM.form
            obtain ⟨rfl, rfl, rfl⟩ : u1 = .slice b1 m1 k1 ∧ u2 = .slice b2 m2 k2 ∧ u3 = .slice b3 m3 k3 := by cases hform; exact ⟨rfl, rfl, rfl⟩
            rw [hun] at e0 hUM
            clear hform
            have hwu : vwt (mwt d) u ≤ 536870912 := by
              have h1 := mem_sum_le (vwt (mwt d)) (M.vals a) u hum
              have h2 : 1 + twt (M.unk a) + ((M.vals a).map (vwt (mwt d))).sum ≤ 536870912 := HWT.out.1
              omega
            have hwv2 : vwt (mwt d) v ≤ 536870912 := by
              have h1 := mem_sum_le (vwt (mwt d)) (M.vals b) v (List.mem_of_getElem? HV.out.1)
              have h2 : 1 + twt (M.unk b) + ((M.vals b).map (vwt (mwt d))).sum ≤ 536870912 := HWT.out.2
              omega
            have HWV := hid hwv
            have HGF := hid hgF
            have HUM := hid hUM
            have HLU := hid (And.intro (vwt_lens mwt_pos hwu) (And.intro (vwt_lens mwt_pos hwv2) (And.intro hwu hwv2)))
            obtain ⟨hB9a, hB9b, hB9c, hB9d, hB9e⟩ := HJW.out w9 HB9.out
            have hk9 := below_keeps hB9e
            replace e0 := hk9 _ _ e0
            replace e1 := hk9 _ _ e1
            replace e2 := hk9 _ _ e2
            replace e3 := hk9 _ _ e3
            have hixu := index_run Tryz.underlying33 size_rval' hua k hkn (cap := pc)
            have hul := World.block_lt_of_cell? w9 _ e0
            have x0 := hB9d.cell 0 _ rfl
            have xl := hB9d.lt
            obtain ⟨WB, HWB⟩ : ∃ b, Hid (b = w9.heap.size) := ⟨_, rfl⟩
            obtain ⟨W10, HW10⟩ : ∃ W, Hid (W = w9.alloc (.cells #[.int .i64 num, .slice b1 m1 k1, .slice b2 m2 k2, .slice b3 m3 k3] 71)) := ⟨_, rfl⟩
            have hb10 : Below w9.heap.size w9 W10 := by rw [HW10.out]; exact (Below.refl _ _).alloc (Nat.le_refl _) _
            have hu10 : Blk W10 WB [.int .i64 num, .slice b1 m1 k1, .slice b2 m2 k2, .slice b3 m3 k3] 71 := by rw [HW10.out, HWB.out]; exact Blk.new w9 [.int .i64 num, .slice b1 m1 k1, .slice b2 m2 k2, .slice b3 m3 k3] _
            have HBR := hid (hB9a.trans (hb10.mono hB9a.size))
            have hbr := HBR.out
            have hb0 := hB9e.trans (hb10.mono hB9e.size)
            have hB10 := hB9b.below hb10
            have hF10 := hB9c.below hb10
            have HB10 := hid hB10
            have HB010 := hid hb0
            have HBL : Hid (B < W10.heap.size ∧ wr.heap.size ≤ B ∧ O + 1 ≤ wr.heap.size) := ⟨hB10.lt, HGE.out.1, by have := HSTAT.out.1.out.bo.lt; omega⟩
            have hV0 : Below W10.heap.size W10 W10 ∧ W10.cell? ⟨B, 0, none⟩ = some (.int .i64 num) ∧ W10.cell? ⟨B, 1, none⟩ = some (.slice a1 n1 q1) ∧ W10.cell? ⟨B, 2, none⟩ = some (.slice a2 n2 q2) ∧ W10.cell? ⟨B, 3, none⟩ = some (.slice a3 n3 q3) ∧ W10.cell? ⟨WB, 1, none⟩ = some (.slice b1 m1 k1) ∧ W10.cell? ⟨WB, 2, none⟩ = some (.slice b2 m2 k2) ∧ W10.cell? ⟨WB, 3, none⟩ = some (.slice b3 m3 k3) := ⟨Below.refl _ _, hB10.cell 0 _ rfl, hB10.cell 1 _ rfl, hB10.cell 2 _ rfl, hB10.cell 3 _ rfl, hu10.cell 1 _ rfl, hu10.cell 2 _ rfl, hu10.cell 3 _ rfl⟩
            have HV0 := hid hV0
            have f2 := hF10.cell 2 _ rfl
            have f3 := hF10.cell 3 _ rfl
            have f5 := hF10.cell 5 _ rfl
            have fl := hF10.lt
            clear hwv hgF hUM hwu hwv2 hB9a hB9b hB9c hB9d hB9e hk9 hb10 hbr hb0 hV0 hum hk hgu hun hua hB10 hF10 hu10
            clear HJW HGA HVA HOKA HOKB HWT HGJ HLA HHW HV6 HB6 HB06 HC HBc HVF HB0c HW6 HBB HFS HMS
            go_upto_region 10 with fail
            rw [← HW10.out, ← HWB.out]
            clear e0 e1 e2 e3 hixu hul x0 xl
            cases hrp : f.rep with
            | true =>
              rw [hrp] at f3
              obtain ⟨vw, vt, vs, hve, hnb, hVW, hVT, r2, y1, y2, y3, y4⟩ := HMV.out
              obtain ⟨uw, ut, us, hue, -, hUW, hUT, r1, x1, x2, x3, x4⟩ := HUM.out
              obtain ⟨rfl, rfl, rfl⟩ : vw = .slice a1 n1 q1 ∧ vt = .slice a2 n2 q2 ∧ vs = .slice a3 n3 q3 := by cases hve; exact ⟨rfl, rfl, rfl⟩
              obtain ⟨rfl, rfl, rfl⟩ : uw = .slice b1 m1 k1 ∧ ut = .slice b2 m2 k2 ∧ us = .slice b3 m3 k3 := by cases hue; exact ⟨rfl, rfl, rfl⟩
              have HLEN : Hid (m1 = u.words.length ∧ m2 = u.texts.length ∧ m3 = u.subs.length ∧ n1 = v.words.length ∧ n2 = v.texts.length ∧ n3 = v.subs.length) := by
                obtain ⟨_, _, _, e1, -⟩ := hUW.open
                obtain ⟨_, _, _, e2, -⟩ := hUT.open
                obtain ⟨_, _, _, e4, -⟩ := hVW.open
                obtain ⟨_, _, _, e5, -⟩ := hVT.open
                obtain ⟨-, -, _, _, e3, -⟩ := x3
                obtain ⟨-, -, _, _, e6, -⟩ := y3
                exact ⟨(Value.slice.inj e1).2.1, (Value.slice.inj e2).2.1, (Value.slice.inj e3).2.1, (Value.slice.inj e4).2.1, (Value.slice.inj e5).2.1, (Value.slice.inj e6).2.1⟩
              have HS1 := hid (And.intro hUW (And.intro hUT (And.intro x1 (And.intro x2 (And.intro x3 x4)))))
              have HS2 := hid (And.intro hVW (And.intro hVT (And.intro y1 (And.intro y2 (And.intro y3 y4)))))
              have HNB := hid hnb
              have HG1 : Hid (Seg w0 (.slice b1 m1 k1) 1 m1 (u.words.map wordV)) := by have := hUW.1; rwa [← HLEN.out.1] at this
              have HG2 : Hid (Seg w0 (.slice b2 m2 k2) 1 m2 (u.texts.map strV)) := by have := hUT.1; rwa [← HLEN.out.2.1] at this
              have HG3 : Hid (Seg w0 (.slice b3 m3 k3) 2 m3 r1.flatten) := by have := x3; rwa [← HLEN.out.2.2.1] at this
              have HG4 : Hid (Seg w0 (.slice a1 n1 q1) 1 n1 (v.words.map wordV)) := by have := hVW.1; rwa [← HLEN.out.2.2.2.1] at this
              have HG5 : Hid (Seg w0 (.slice a2 n2 q2) 1 n2 (v.texts.map strV)) := by have := hVT.1; rwa [← HLEN.out.2.2.2.2.1] at this
              have HG6 : Hid (Seg w0 (.slice a3 n3 q3) 2 n3 r2.flatten) := by have := y3; rwa [← HLEN.out.2.2.2.2.2] at this
              clear hve hnb hVW hVT y1 y2 y3 y4 hue hUW hUT x1 x2 x3 x4 f2 f5
              go_upto_region 11 with fail
              clear f3 fl
              refine wp_region_eat (fun w' => Below W10.heap.size W10 w' ∧ w'.cell? ⟨B, 0, none⟩ = some (.int .i64 num) ∧ w'.cell? ⟨B, 1, none⟩ = some (.slice a1 n1 q1) ∧ w'.cell? ⟨B, 2, none⟩ = some (.slice a2 n2 q2) ∧ w'.cell? ⟨B, 3, none⟩ = some (.slice a3 n3 q3) ∧ w'.cell? ⟨WB, 1, none⟩ = some (.slice b1 m1 k1) ∧ w'.cell? ⟨WB, 2, none⟩ = some (.slice b2 m2 k2) ∧ w'.cell? ⟨WB, 3, none⟩ = some (.slice b3 m3 k3)) (fun j => GrowT W10.heap.size (catT j)) catE (CatI W10.heap.size (u.words.map wordV) (u.texts.map strV) r1.flatten (v.words.map wordV) (v.texts.map strV) r2.flatten m1 m2 m3 n1 n2 n3) 24 [0, 1, 3, 4, 6, 7, 10, 11, 13, 14, 17, 18, 20, 21] [⟨2, 57, []⟩, ⟨5, 60, [2]⟩, ⟨8, 63, [5]⟩, ⟨9, 64, []⟩, ⟨12, 67, [9]⟩, ⟨15, 70, [12]⟩, ⟨16, 71, []⟩, ⟨19, 74, [16]⟩, ⟨22, 77, [19]⟩] [(23, 0, 0), (24, 2, 0)] (by kernel_rfl) rfl (by kernel_rfl) (by kernel_rfl) (by kernel_rfl) (fun _ _ dst _ _ h => by cases dst <;> exact h) catC (by kernel_rfl) (by kernel_rfl) (fun i j w w' v hc h hg => CatI.keep i j w w' v hc h hg) ⟨HV0.out.1.drew, HV0.out.2⟩ (fun OPS HOPS => ?_)
              have hops := HOPS.out
              subst hops
              simp only [List.map_cons, List.map_nil, List.filterMap_cons, List.filterMap_nil, List.getElem?_cons_succ, List.getElem?_cons_zero]
              refine seqJ_q (v := ?v0) ?hy0 ?hr0
              case hy0 => (intro w hw; go_simp; all_goals rfl)
              simp only [Act.put, List.setIfInBounds_toArray, List.set_cons_zero, List.set_cons_succ]
              refine seqJ_q (v := ?v1) ?hy1 ?hr1
              case hy1 => (intro w hw; go_simp; all_goals rfl)
              simp only [Act.put, List.setIfInBounds_toArray, List.set_cons_zero, List.set_cons_succ]
              refine seqJ_q (v := ?v2) ?hy2 ?hr2
              case hy2 => (intro w hw; go_simp; all_goals rfl)
              simp only [Act.put, List.setIfInBounds_toArray, List.set_cons_zero, List.set_cons_succ]
              refine seqJ_q (v := ?v3) ?hy3 ?hr3
              case hy3 => (intro w hw; go_simp; all_goals rfl)
              simp only [Act.put, List.setIfInBounds_toArray, List.set_cons_zero, List.set_cons_succ]
              refine seqJ_q (v := ?v4) ?hy4 ?hr4
              case hy4 => (intro w hw; go_simp; all_goals rfl)
              simp only [Act.put, List.setIfInBounds_toArray, List.set_cons_zero, List.set_cons_succ]
              refine seqJ_q (v := ?v5) ?hy5 ?hr5
              case hy5 => (intro w hw; go_simp; all_goals rfl)
              simp only [Act.put, List.setIfInBounds_toArray, List.set_cons_zero, List.set_cons_succ]
              refine seqJ_q (v := ?v6) ?hy6 ?hr6
              case hy6 => (intro w hw; go_simp; all_goals rfl)
              simp only [Act.put, List.setIfInBounds_toArray, List.set_cons_zero, List.set_cons_succ]
              refine seqJ_q (v := ?v7) ?hy7 ?hr7
              case hy7 => (intro w hw; go_simp; all_goals rfl)
              simp only [Act.put, List.setIfInBounds_toArray, List.set_cons_zero, List.set_cons_succ]
              refine seqJ_q (v := ?v8) ?hy8 ?hr8
              case hy8 => (intro w hw; go_simp; all_goals rfl)
              simp only [Act.put, List.setIfInBounds_toArray, List.set_cons_zero, List.set_cons_succ]
              refine seqJ_q (v := ?v9) ?hy9 ?hr9
              case hy9 => (intro w hw; go_simp; all_goals rfl)
              simp only [Act.put, List.setIfInBounds_toArray, List.set_cons_zero, List.set_cons_succ]
              refine seqJ_q (v := ?v10) ?hy10 ?hr10
              case hy10 => (intro w hw; go_simp; all_goals rfl)
              simp only [Act.put, List.setIfInBounds_toArray, List.set_cons_zero, List.set_cons_succ]
              refine seqJ_q (v := ?v11) ?hy11 ?hr11
              case hy11 => (intro w hw; go_simp; all_goals rfl)
              simp only [Act.put, List.setIfInBounds_toArray, List.set_cons_zero, List.set_cons_succ]
              refine seqJ_q (v := ?v12) ?hy12 ?hr12
              case hy12 => (intro w hw; go_simp; all_goals rfl)
              simp only [Act.put, List.setIfInBounds_toArray, List.set_cons_zero, List.set_cons_succ]
              refine seqJ_q (v := ?v13) ?hy13 ?hr13
              case hy13 => (intro w hw; go_simp; all_goals rfl)
              simp only [Act.put, List.setIfInBounds_toArray, List.set_cons_zero, List.set_cons_succ]
              refine ⟨?obs, ?fin⟩
              case obs =>
                refine obsJ_cons rfl ?_ (obsJ_cons rfl ?_ (obsJ_cons rfl ?_ (obsJ_cons rfl ?_ (obsJ_cons rfl ?_ (obsJ_cons rfl ?_ (obsJ_cons rfl ?_ (obsJ_cons rfl ?_ (obsJ_cons rfl ?_ obsJ_nil))))))))
                all_goals
                  intro vals w7 hV hd K HK
                  have HVW := hid hV
                  have hK := HK.out
                  clear hV HK
                  simp only [actI, List.foldl_cons, List.foldl_nil, Act.put, List.setIfInBounds_toArray, List.set_cons_zero, List.set_cons_succ] at hK ⊢
                  have HK := hid hK
                  clear hK
                · go_wp2_with fail
                  obtain ⟨hg, hO, -⟩ := growT_lit (T := 63) HVW.out.1.size
                  have hb := HVW.out.1.trans hg.below
                  exact HK.out _ _ ⟨hb, ⟨below_keeps hb _ _ HV0.out.2.1, below_keeps hb _ _ HV0.out.2.2.1, below_keeps hb _ _ HV0.out.2.2.2.1, below_keeps hb _ _ HV0.out.2.2.2.2.1, below_keeps hb _ _ HV0.out.2.2.2.2.2.1, below_keeps hb _ _ HV0.out.2.2.2.2.2.2.1, below_keeps hb _ _ HV0.out.2.2.2.2.2.2.2⟩⟩ hg hO
                · have h2 := hd 2 (by simp)
                  generalize vals 2 = u2 at h2 HK ⊢
                  have hk := below_keeps (HB010.out.trans (HVW.out.1.mono HB010.out.size))
                  obtain ⟨a8, c8, w8, hr8, hO8, hg8⟩ := growT_app 64 63 (.int .u64 0) 1 8 under_words info_u64 rfl (by decide) h2 (HG1.out.keep hk) (wordV_one _) (by have := HLEN.out; have := HLU.out; omega) (by decide) HVW.out.1.size
                  rw [Nat.zero_add] at hr8 hO8
                  rw [List.nil_append] at hO8
                  have HR8 := hid hr8
                  have HG8 := hid (And.intro hO8 hg8)
                  clear h2 hr8 hO8 hg8 hk hd
                  refine wpList_append_eq rfl _ _ _ rfl _ _ rfl rfl HR8.out ?_
                  have hb := HVW.out.1.trans HG8.out.2.below
                  exact HK.out _ _ ⟨hb, ⟨below_keeps hb _ _ HV0.out.2.1, below_keeps hb _ _ HV0.out.2.2.1, below_keeps hb _ _ HV0.out.2.2.2.1, below_keeps hb _ _ HV0.out.2.2.2.2.1, below_keeps hb _ _ HV0.out.2.2.2.2.2.1, below_keeps hb _ _ HV0.out.2.2.2.2.2.2.1, below_keeps hb _ _ HV0.out.2.2.2.2.2.2.2⟩⟩ HG8.out.2 ⟨_, _, rfl, HG8.out.1⟩
                · obtain ⟨g2, z2, e2, h2⟩ := hd 5 (by simp)
                  generalize vals 5 = u2 at e2 h2 HK ⊢
                  subst e2
                  have hk := below_keeps (HB010.out.trans (HVW.out.1.mono HB010.out.size))
                  obtain ⟨a8, c8, w8, hr8, hO8, hg8⟩ := growT_app 64 63 (.int .u64 0) 1 8 under_words info_u64 rfl (by decide) h2 (HG4.out.keep hk) (wordV_one _) (by have := HLEN.out; have := HLU.out; omega) (by decide) HVW.out.1.size
                  have HR8 := hid hr8
                  have HG8 := hid (And.intro hO8 hg8)
                  clear h2 hr8 hO8 hg8 hk hd
                  refine wpList_append_eq rfl _ _ _ rfl _ _ rfl rfl HR8.out ?_
                  have hb := HVW.out.1.trans HG8.out.2.below
                  exact HK.out _ _ ⟨hb, ⟨below_keeps hb _ _ HV0.out.2.1, below_keeps hb _ _ HV0.out.2.2.1, below_keeps hb _ _ HV0.out.2.2.2.1, below_keeps hb _ _ HV0.out.2.2.2.2.1, below_keeps hb _ _ HV0.out.2.2.2.2.2.1, below_keeps hb _ _ HV0.out.2.2.2.2.2.2.1, below_keeps hb _ _ HV0.out.2.2.2.2.2.2.2⟩⟩ HG8.out.2 ⟨_, _, rfl, HG8.out.1⟩
                · go_wp2_with fail
                  obtain ⟨hg, hO, -⟩ := growT_lit (T := 9) HVW.out.1.size
                  have hb := HVW.out.1.trans hg.below
                  exact HK.out _ _ ⟨hb, ⟨below_keeps hb _ _ HV0.out.2.1, below_keeps hb _ _ HV0.out.2.2.1, below_keeps hb _ _ HV0.out.2.2.2.1, below_keeps hb _ _ HV0.out.2.2.2.2.1, below_keeps hb _ _ HV0.out.2.2.2.2.2.1, below_keeps hb _ _ HV0.out.2.2.2.2.2.2.1, below_keeps hb _ _ HV0.out.2.2.2.2.2.2.2⟩⟩ hg hO
                · have h2 := hd 9 (by simp)
                  generalize vals 9 = u2 at h2 HK ⊢
                  have hk := below_keeps (HB010.out.trans (HVW.out.1.mono HB010.out.size))
                  obtain ⟨a8, c8, w8, hr8, hO8, hg8⟩ := growT_app 25 9 (.string ⟨#[]⟩) 1 16 under_strs info_str rfl (by decide) h2 (HG2.out.keep hk) (strV_one _) (by have := HLEN.out; have := HLU.out; omega) (by decide) HVW.out.1.size
                  rw [Nat.zero_add] at hr8 hO8
                  rw [List.nil_append] at hO8
                  have HR8 := hid hr8
                  have HG8 := hid (And.intro hO8 hg8)
                  clear h2 hr8 hO8 hg8 hk hd
                  refine wpList_append_eq rfl _ _ _ rfl _ _ rfl rfl HR8.out ?_
                  have hb := HVW.out.1.trans HG8.out.2.below
                  exact HK.out _ _ ⟨hb, ⟨below_keeps hb _ _ HV0.out.2.1, below_keeps hb _ _ HV0.out.2.2.1, below_keeps hb _ _ HV0.out.2.2.2.1, below_keeps hb _ _ HV0.out.2.2.2.2.1, below_keeps hb _ _ HV0.out.2.2.2.2.2.1, below_keeps hb _ _ HV0.out.2.2.2.2.2.2.1, below_keeps hb _ _ HV0.out.2.2.2.2.2.2.2⟩⟩ HG8.out.2 ⟨_, _, rfl, HG8.out.1⟩
                · obtain ⟨g2, z2, e2, h2⟩ := hd 12 (by simp)
                  generalize vals 12 = u2 at e2 h2 HK ⊢
                  subst e2
                  have hk := below_keeps (HB010.out.trans (HVW.out.1.mono HB010.out.size))
                  obtain ⟨a8, c8, w8, hr8, hO8, hg8⟩ := growT_app 25 9 (.string ⟨#[]⟩) 1 16 under_strs info_str rfl (by decide) h2 (HG5.out.keep hk) (strV_one _) (by have := HLEN.out; have := HLU.out; omega) (by decide) HVW.out.1.size
                  have HR8 := hid hr8
                  have HG8 := hid (And.intro hO8 hg8)
                  clear h2 hr8 hO8 hg8 hk hd
                  refine wpList_append_eq rfl _ _ _ rfl _ _ rfl rfl HR8.out ?_
                  have hb := HVW.out.1.trans HG8.out.2.below
                  exact HK.out _ _ ⟨hb, ⟨below_keeps hb _ _ HV0.out.2.1, below_keeps hb _ _ HV0.out.2.2.1, below_keeps hb _ _ HV0.out.2.2.2.1, below_keeps hb _ _ HV0.out.2.2.2.2.1, below_keeps hb _ _ HV0.out.2.2.2.2.2.1, below_keeps hb _ _ HV0.out.2.2.2.2.2.2.1, below_keeps hb _ _ HV0.out.2.2.2.2.2.2.2⟩⟩ HG8.out.2 ⟨_, _, rfl, HG8.out.1⟩
                · go_wp2_with fail
                  obtain ⟨hg, -, hO⟩ := growT_lit (T := 35) HVW.out.1.size
                  have hb := HVW.out.1.trans hg.below
                  exact HK.out _ _ ⟨hb, ⟨below_keeps hb _ _ HV0.out.2.1, below_keeps hb _ _ HV0.out.2.2.1, below_keeps hb _ _ HV0.out.2.2.2.1, below_keeps hb _ _ HV0.out.2.2.2.2.1, below_keeps hb _ _ HV0.out.2.2.2.2.2.1, below_keeps hb _ _ HV0.out.2.2.2.2.2.2.1, below_keeps hb _ _ HV0.out.2.2.2.2.2.2.2⟩⟩ hg hO
                · have h2 := hd 16 (by simp)
                  generalize vals 16 = u2 at h2 HK ⊢
                  have hk := below_keeps (HB010.out.trans (HVW.out.1.mono HB010.out.size))
                  obtain ⟨a8, c8, w8, hr8, hO8, hg8⟩ := growT_app 43 35 (.agg #[.slice none 0 0, .slice none 0 0]) 2 48 Tryz.underlying43 info_rmsg rfl (by decide) h2 (HG3.out.keep hk) (rows_one HS1.out.2.2.1 HS1.out.2.2.2.2.2) (by have := HLEN.out; have := HLU.out; omega) (by decide) HVW.out.1.size
                  rw [Nat.zero_add] at hr8 hO8
                  rw [List.nil_append] at hO8
                  have HR8 := hid hr8
                  have HG8 := hid (And.intro hO8 hg8)
                  clear h2 hr8 hO8 hg8 hk hd
                  refine wpList_append_eq rfl _ _ _ rfl _ _ rfl rfl HR8.out ?_
                  have hb := HVW.out.1.trans HG8.out.2.below
                  exact HK.out _ _ ⟨hb, ⟨below_keeps hb _ _ HV0.out.2.1, below_keeps hb _ _ HV0.out.2.2.1, below_keeps hb _ _ HV0.out.2.2.2.1, below_keeps hb _ _ HV0.out.2.2.2.2.1, below_keeps hb _ _ HV0.out.2.2.2.2.2.1, below_keeps hb _ _ HV0.out.2.2.2.2.2.2.1, below_keeps hb _ _ HV0.out.2.2.2.2.2.2.2⟩⟩ HG8.out.2 ⟨_, _, rfl, HG8.out.1⟩
                · obtain ⟨g2, z2, e2, h2⟩ := hd 19 (by simp)
                  generalize vals 19 = u2 at e2 h2 HK ⊢
                  subst e2
                  have hk := below_keeps (HB010.out.trans (HVW.out.1.mono HB010.out.size))
                  obtain ⟨a8, c8, w8, hr8, hO8, hg8⟩ := growT_app 43 35 (.agg #[.slice none 0 0, .slice none 0 0]) 2 48 Tryz.underlying43 info_rmsg rfl (by decide) h2 (HG6.out.keep hk) (rows_one HS2.out.2.2.1 HS2.out.2.2.2.2.2) (by have := HLEN.out; have := HLU.out; omega) (by decide) HVW.out.1.size
                  have HR8 := hid hr8
                  have HG8 := hid (And.intro hO8 hg8)
                  clear h2 hr8 hO8 hg8 hk hd
                  refine wpList_append_eq rfl _ _ _ rfl _ _ rfl rfl HR8.out ?_
                  have hb := HVW.out.1.trans HG8.out.2.below
                  exact HK.out _ _ ⟨hb, ⟨below_keeps hb _ _ HV0.out.2.1, below_keeps hb _ _ HV0.out.2.2.1, below_keeps hb _ _ HV0.out.2.2.2.1, below_keeps hb _ _ HV0.out.2.2.2.2.1, below_keeps hb _ _ HV0.out.2.2.2.2.2.1, below_keeps hb _ _ HV0.out.2.2.2.2.2.2.1, below_keeps hb _ _ HV0.out.2.2.2.2.2.2.2⟩⟩ HG8.out.2 ⟨_, _, rfl, HG8.out.1⟩
              case fin =>
                intro vals w7 hV hI
                obtain ⟨g1, z1, hv1, hr1⟩ : ∃ g z, vals 8 = .slice g (m1 + n1) z ∧ w7.ownsRow W10.heap.size _ _ (.slice g (m1 + n1) z) _ _ := by
                  obtain ⟨g, z, e, h⟩ := hI ⟨8, 63, [5]⟩ (by simp) rfl
                  replace e : vals _ = _ := e
                  exact ⟨g, z, e, e ▸ h⟩
                obtain ⟨g2, z2, hv2, hr2⟩ : ∃ g z, vals 15 = .slice g (m2 + n2) z ∧ w7.ownsRow W10.heap.size _ _ (.slice g (m2 + n2) z) _ _ := by
                  obtain ⟨g, z, e, h⟩ := hI ⟨15, 70, [12]⟩ (by simp) rfl
                  replace e : vals _ = _ := e
                  exact ⟨g, z, e, e ▸ h⟩
                obtain ⟨g3, z3, hv3, hr3⟩ : ∃ g z, vals 22 = .slice g (m3 + n3) z ∧ w7.ownsRow W10.heap.size _ _ (.slice g (m3 + n3) z) _ _ := by
                  obtain ⟨g, z, e, h⟩ := hI ⟨22, 77, [19]⟩ (by simp) rfl
                  replace e : vals _ = _ := e
                  exact ⟨g, z, e, e ▸ h⟩
                simp only [actI, List.foldl_cons, List.foldl_nil, Act.put, List.setIfInBounds_toArray, List.set_cons_zero, List.set_cons_succ]
                have hb7 := HB10.out.below hV.1
                obtain ⟨hk2, hbut⟩ := setCells4 (a := .int .i64 num) (b := .slice g1 (m1 + n1) z1) (e := .slice g2 (m2 + n2) z2) (f := .slice g3 (m3 + n3) z3) hb7
                have HREL : Hid (Below wr.heap.size wr ((((w7.setCell ⟨B, 0, none⟩ (.int .i64 num)).setCell ⟨B, 1, none⟩ (.slice g1 (m1 + n1) z1)).setCell ⟨B, 2, none⟩ (.slice g2 (m2 + n2) z2)).setCell ⟨B, 3, none⟩ (.slice g3 (m3 + n3) z3)) ∧ Blk ((((w7.setCell ⟨B, 0, none⟩ (.int .i64 num)).setCell ⟨B, 1, none⟩ (.slice g1 (m1 + n1) z1)).setCell ⟨B, 2, none⟩ (.slice g2 (m2 + n2) z2)).setCell ⟨B, 3, none⟩ (.slice g3 (m3 + n3) z3)) B [.int .i64 num, .slice g1 (m1 + n1) z1, .slice g2 (m2 + n2) z2, .slice g3 (m3 + n3) z3] 71 ∧ Apart w0.heap.size (O + 1) ((((w7.setCell ⟨B, 0, none⟩ (.int .i64 num)).setCell ⟨B, 1, none⟩ (.slice g1 (m1 + n1) z1)).setCell ⟨B, 2, none⟩ (.slice g2 (m2 + n2) z2)).setCell ⟨B, 3, none⟩ (.slice g3 (m3 + n3) z3)) fun W => ValAt (MsgAt d) W (.agg #[.int .i64 num, .slice g1 (m1 + n1) z1, .slice g2 (m2 + n2) z2, .slice g3 (m3 + n3) z3]) (withV gj (M.vals a) v)) := by
                  have hbr7 := HBR.out.trans (hV.1.mono HBR.out.size)
                  have hbl := HBL.out
                  have hs10 := HBR.out.size
                  refine ⟨hbr7.trans (hbut.to_below hbl.2.1 hbr7.size), hk2, fun W hW => ?_⟩
                  rw [HWV.out]
                  unfold bothV
                  rw [if_pos hrp, HNUM.out.1]
                  obtain ⟨e1, e2, e3, e4, e5, e6⟩ := HLEN.out
                  obtain ⟨⟨l1, l2, l3⟩, ⟨l4, l5, l6⟩, -⟩ := HLU.out
                  rw [e1, e4] at hr1
                  rw [e2, e5] at hr2
                  rw [e3, e6] at hr3
                  rw [e1, e2, e3, e4, e5, e6]
                  refine cat_val (n0 := W10.heap.size) (w7 := w7) (w0 := w0) (r1 := r1) (r2 := r2) (HNUM.out.1 ▸ HNB.out) hr1 hr2 hr3 (fun x hx => (List.mem_append.1 hx).elim (HS1.out.1.2 x) (HS2.out.1.2 x)) (fun x hx => (List.mem_append.1 hx).elim (HS1.out.2.1.2 x) (HS2.out.2.1.2 x)) (by omega) HS1.out.2.2.1 HS1.out.2.2.2.1 HS1.out.2.2.2.2.2 HS2.out.2.2.1 HS2.out.2.2.2.1 HS2.out.2.2.2.2.2 (fun b hb hlt => ?_) (keep_apart (base := W10.heap.size) rfl (HB010.out.trans (hV.1.mono HB010.out.size)) fun b hlt hc => ?_)
                  · rw [hW b (Nat.lt_of_lt_of_le hlt hbut.size) (.inr (by omega))]
                    exact hbut.block b hlt (by omega)
                  · have hn0 := HSD.out.1
                    have hO := HSD.out.2
                    rw [hW b (Nat.lt_of_lt_of_le hlt hbut.size) (by omega)]
                    exact hbut.block b hlt (by omega)
                generalize vals 8 = u8 at hv1 ⊢
                generalize vals 15 = u15 at hv2 ⊢
                generalize vals 22 = u22 at hv3 ⊢
                subst hv1 hv2 hv3
                generalize vals 2 = t2
                generalize vals 5 = t5
                generalize vals 9 = t9
                generalize vals 12 = t12
                generalize vals 16 = t16
                generalize vals 19 = t19
                have r0 := hb7.cell 0 _ rfl
                have r1 := hb7.cell 1 _ rfl
                have r2 := hb7.cell 2 _ rfl
                have r3 := hb7.cell 3 _ rfl
                have f0 := hb7.free 0
                have f1 := hb7.free 1
                have f2 := hb7.free 2
                have f3 := hb7.free 3
                have rl := hb7.lt
                clear hV hI hr1 hr2 hr3 hk2 hbut hb7 HLEN HS1 HS2 HG1 HG2 HG3 HG4 HG5 HG6
                refine seqH0 (v := ?v20) ?hy20 ?hr20
                case hy20 => (intro w hw; go_simp; all_goals rfl)
                simp only [Act.put, List.setIfInBounds_toArray, List.set_cons_zero, List.set_cons_succ]
                refine seqH2 (fun K12 HK12 => ?_)
                go_wp2_with fail
                refine HK12.out _ _ trivial ?_
                clear HK12 K12 r0 r1 r2 r3 f0 f1 f2 f3
                intro _
                refine seqH_end ?_
                go_wp2_with fail
                go_meet
                case rel => exact ⟨_, _, _, _, _, _, _, _, _, HREL.out⟩
            | false =>
              rw [hrp] at f3
              have hb7 := HB10.out
              by_cases h17 : f.kind = 17
              · obtain ⟨x, hxs, hrx⟩ := fits_sub HGF.out h17 hrp
                obtain ⟨y, hys, hry⟩ := fits_sub HQF.out.2 h17 hrp
                obtain ⟨r, hr, hrs⟩ := right_range hrx
                rw [hr] at hrx hry
                have HJN : Hid (bothV (fun o x y => joinM s d o x y) f u v = ⟨num, [], [], [joinM s d r x y]⟩) := by
                  rw [Hid]
                  unfold bothV
                  rw [if_neg (by rw [hrp]; simp), if_pos h17, hxs, hys, hr, HNUM.out.1]; rfl
                obtain ⟨vw, vt, vs, hve, hnb, -, -, hSB⟩ := HMV.out
                obtain ⟨uw, ut, us, hue, -, -, -, hSA⟩ := HUM.out
                obtain rfl : vs = .slice a3 n3 q3 := by cases hve; rfl
                obtain rfl : us = .slice b3 m3 k3 := by cases hue; rfl
                rw [hxs] at hSA
                rw [hys] at hSB
                obtain ⟨-, ga, gc, hge, -, hgat⟩ := hSA.open
                obtain ⟨-, ja, jc, hje, -, hjat⟩ := hSB.open
                obtain ⟨gb, go, x1, x2, hga, gg0, gg1, hMx⟩ := hgat 0 x rfl
                obtain ⟨jb, jo, y1, y2, hja, jj0, jj1, hMy⟩ := hjat 0 y rfl
                obtain ⟨rfl, rfl, rfl⟩ : b3 = ga ∧ m3 = 1 ∧ k3 = gc := by injection hge with h1 h2 h3; exact ⟨h1, h2, h3⟩
                obtain ⟨rfl, rfl, rfl⟩ : a3 = ja ∧ n3 = 1 ∧ q3 = jc := by injection hje with h1 h2 h3; exact ⟨h1, h2, h3⟩
                subst hga hja
                rw [Nat.zero_mul, Nat.add_zero] at gg0 gg1 jj0 jj1
                obtain ⟨s1, s1n, s1c, s2, s2n, s2c, hse⟩ := hMx.form
                obtain ⟨rfl, rfl⟩ : x1 = .slice s1 s1n s1c ∧ x2 = .slice s2 s2n s2c := by cases hse; exact ⟨rfl, rfl⟩
                obtain ⟨t1, t1n, t1c, t2, t2n, t2c, hte⟩ := hMy.form
                obtain ⟨rfl, rfl⟩ : y1 = .slice t1 t1n t1c ∧ y2 = .slice t2 t2n t2c := by cases hte; exact ⟨rfl, rfl⟩
                have hk01 := below_keeps HB010.out
                have g0 := hk01 _ _ gg0
                have g1 := hk01 _ _ gg1
                have j0 := hk01 _ _ jj0
                have j1 := hk01 _ _ jj1
                have hwx : mwt d x ≤ 536870912 := by
                  have h3 : mwt d x ≤ vwt (mwt d) u := by unfold vwt; rw [hxs, List.map_cons, List.map_nil, List.sum_cons, List.sum_nil]; omega
                  have := HLU.out.2.2.1
                  omega
                have hwy : mwt d y ≤ 536870912 := by
                  have h3 : mwt d y ≤ vwt (mwt d) v := by unfold vwt; rw [hys, List.map_cons, List.map_nil, List.sum_cons, List.sum_nil]; omega
                  have := HLU.out.2.2.2
                  omega
                have HREC := hid (HRE.out r W10.drew _ _ x y hrs HB010.out.drew hMx hMy hrx hry hwx hwy)
                have HNB := hid hnb
                have HGM : Hid (gb < W10.heap.size ∧ jb < W10.heap.size) := ⟨World.block_lt_of_cell? W10 _ g0, World.block_lt_of_cell? W10 _ j0⟩
                have gl := HGM.out.1
                have jl := HGM.out.2
                have hixa : ∀ W, (Instr.indexAt 43 (.slice (some ⟨gb, go, none⟩) 1 k3) (.int .i64 0)).run Tryz.prog W = .ok (.pointer (some ⟨gb, go, none⟩)) W := by
                  intro W
                  have := index_run Tryz.underlying43 size_rmsg (a := some ⟨gb, go, none⟩) rfl 0 (by decide : 0 < 1) W (cap := k3)
                  simpa using this
                have hixb : ∀ W, (Instr.indexAt 43 (.slice (some ⟨jb, jo, none⟩) 1 q3) (.int .i64 0)).run Tryz.prog W = .ok (.pointer (some ⟨jb, jo, none⟩)) W := by
                  intro W
                  have := index_run Tryz.underlying43 size_rmsg (a := some ⟨jb, jo, none⟩) rfl 0 (by decide : 0 < 1) W (cap := q3)
                  simpa using this
                rw [h17] at f2
                rw [hr] at f5
                have hV1 : W10.drew.cell? ⟨B, 0, none⟩ = some (.int .i64 num) := HV0.out.2.1
                have hX1 : W10.drew.cell? ⟨FB, 5, none⟩ = some (.int .i64 (r : Int)) ∧ W10.drew.cell? ⟨WB, 3, none⟩ = some (.slice (some ⟨gb, go, none⟩) 1 k3) ∧ W10.drew.cell? ⟨B, 3, none⟩ = some (.slice (some ⟨jb, jo, none⟩) 1 q3) ∧ W10.drew.cell? ⟨gb, go, none⟩ = some (.slice s1 s1n s1c) ∧ W10.drew.cell? ⟨gb, go + 1, none⟩ = some (.slice s2 s2n s2c) ∧ W10.drew.cell? ⟨jb, jo, none⟩ = some (.slice t1 t1n t1c) ∧ W10.drew.cell? ⟨jb, jo + 1, none⟩ = some (.slice t2 t2n t2c) := ⟨f5, HV0.out.2.2.2.2.2.2.2, HV0.out.2.2.2.2.1, g0, g1, j0, j1⟩
                have HV1 := hid (And.intro hV1 hX1)
                have HH17 := hid h17
                clear hge hje hgat hjat gg0 gg1 jj0 jj1 hMx hMy hse hte hk01 hwx hwy hrx hry hxs hys hrs hSA hSB hV1 hX1 hr hve hue hnb
                clear h17
                go_upto_region 13 with fail
                clear f2 f3 f5 fl g0 g1 j0 j1 gl jl
                refine wp_region_perm (fun w' => w'.cell? ⟨B, 0, none⟩ = some (.int .i64 num)) (fun w' => w'.cell? ⟨FB, 5, none⟩ = some (.int .i64 (r : Int)) ∧ w'.cell? ⟨WB, 3, none⟩ = some (.slice (some ⟨gb, go, none⟩) 1 k3) ∧ w'.cell? ⟨B, 3, none⟩ = some (.slice (some ⟨jb, jo, none⟩) 1 q3) ∧ w'.cell? ⟨gb, go, none⟩ = some (.slice s1 s1n s1c) ∧ w'.cell? ⟨gb, go + 1, none⟩ = some (.slice s2 s2n s2c) ∧ w'.cell? ⟨jb, jo, none⟩ = some (.slice t1 t1n t1c) ∧ w'.cell? ⟨jb, jo + 1, none⟩ = some (.slice t2 t2n t2c)) 13 [(0, 0), (1, 0), (2, 0), (3, 1), (4, 1), (5, 1), (6, 1), (7, 1), (8, 1), (9, 1), (10, 1), (11, 1), (12, 1), (13, 2), (14, 2), (15, 0), (16, 2)] (by kernel_rfl) rfl rfl (by kernel_rfl) (fun _ _ dst _ _ h => by cases dst <;> exact h) HV1.out.1 HV1.out.2 (fun OPS _ => ?_)
                simp only [List.map_cons, List.map_nil, List.filterMap_cons, List.filterMap_nil, List.getElem?_cons_succ, List.getElem?_cons_zero]
                refine seqG0 (v := ?v100) ?hy100 ?hr100
                case hy100 => (intro w hw; go_simp; all_goals rfl)
                simp only [Act.put, List.setIfInBounds_toArray, List.set_cons_zero, List.set_cons_succ]
                refine seqG0 (v := ?v101) ?hy101 ?hr101
                case hy101 => (intro w hw; go_simp; all_goals rfl)
                simp only [Act.put, List.setIfInBounds_toArray, List.set_cons_zero, List.set_cons_succ]
                refine seqG0 (v := ?v102) ?hy102 ?hr102
                case hy102 => (intro w hw; go_simp; all_goals rfl)
                simp only [Act.put, List.setIfInBounds_toArray, List.set_cons_zero, List.set_cons_succ]
                refine seqG1 (v := ?v103) ?hy103 ?hr103
                case hy103 => (intro w hw; go_simp; all_goals rfl)
                simp only [Act.put, List.setIfInBounds_toArray, List.set_cons_zero, List.set_cons_succ]
                refine seqG1 (v := ?v104) ?hy104 ?hr104
                case hy104 => (intro w hw; go_simp; all_goals rfl)
                simp only [Act.put, List.setIfInBounds_toArray, List.set_cons_zero, List.set_cons_succ]
                refine seqG1 (v := ?v105) ?hy105 ?hr105
                case hy105 => (intro w hw; go_simp; all_goals rfl)
                simp only [Act.put, List.setIfInBounds_toArray, List.set_cons_zero, List.set_cons_succ]
                refine seqG1 (v := ?v106) ?hy106 ?hr106
                case hy106 => (intro w hw; go_simp; all_goals rfl)
                simp only [Act.put, List.setIfInBounds_toArray, List.set_cons_zero, List.set_cons_succ]
                refine seqG1 (v := ?v107) ?hy107 ?hr107
                case hy107 => (intro w hw; go_simp; all_goals rfl)
                simp only [Act.put, List.setIfInBounds_toArray, List.set_cons_zero, List.set_cons_succ]
                refine seqG1 (v := ?v108) ?hy108 ?hr108
                case hy108 => (intro w hw; go_simp; all_goals rfl)
                simp only [Act.put, List.setIfInBounds_toArray, List.set_cons_zero, List.set_cons_succ]
                refine seqG1 (v := ?v109) ?hy109 ?hr109
                case hy109 => (intro w hw; go_simp; all_goals rfl)
                simp only [Act.put, List.setIfInBounds_toArray, List.set_cons_zero, List.set_cons_succ]
                refine seqG1 (v := ?v110) ?hy110 ?hr110
                case hy110 => (intro w hw; go_simp; all_goals rfl)
                simp only [Act.put, List.setIfInBounds_toArray, List.set_cons_zero, List.set_cons_succ]
                refine seqG1 (v := ?v111) ?hy111 ?hr111
                case hy111 => (intro w hw; go_simp; all_goals rfl)
                simp only [Act.put, List.setIfInBounds_toArray, List.set_cons_zero, List.set_cons_succ]
                refine seqG1 (v := ?v112) ?hy112 ?hr112
                case hy112 => (intro w hw; go_simp; all_goals rfl)
                simp only [Act.put, List.setIfInBounds_toArray, List.set_cons_zero, List.set_cons_succ]
                refine seqG2 (fun K12 HK12 => ?_)
                go_wp2_with fail
                refine HREC.out.mono ?_
                rintro e w8 ⟨v8, rfl, hb8, hap⟩
                obtain ⟨p1, p1n, p1c, p2, p2n, p2c, rfl⟩ := hap.here.form
                have hn8 : w8.cell? ⟨B, 0, none⟩ = some (.int .i64 num) := below_keeps hb8 _ _ HV1.out.1
                go_wp2_with fail
                refine HK12.out _ _ hn8 ?_
                clear HK12 K12
                intro _
                refine seqG2 (fun K12 HK12 => ?_)
                go_wp2_with fail
                obtain ⟨W9, HW9⟩ : ∃ W, Hid (W = w8.alloc (.cells #[.slice p1 p1n p1c, .slice p2 p2n p2c] 35)) := ⟨_, rfl⟩
                have hb9 : Below w8.heap.size w8 W9 := by rw [HW9.out]; exact (Below.refl _ _).alloc (Nat.le_refl _) _
                have hg9 : Blk W9 w8.heap.size [.slice p1 p1n p1c, .slice p2 p2n p2c] 35 := by rw [HW9.out]; exact Blk.new w8 [.slice p1 p1n p1c, .slice p2 p2n p2c] _
                have hb19 : Below W10.heap.size W10 W9 := (Below.refl W10.heap.size W10).drew.trans (hb8.trans (hb9.mono hb8.size))
                have hr9 := hb7.below hb19
                have hs18 : W10.heap.size ≤ w8.heap.size := hb8.size
                have hn9 : W9.cell? ⟨B, 0, none⟩ = some (.int .i64 num) := below_keeps hb9 _ _ hn8
                obtain ⟨hk2, hbut⟩ := setCells4 (a := .int .i64 num) (b := .slice none 0 0) (e := .slice none 0 0) (f := .slice (some ⟨w8.heap.size, 0, none⟩) 1 1) hr9
                have HREL : Hid (Below wr.heap.size wr ((((W9.setCell ⟨B, 0, none⟩ (.int .i64 num)).setCell ⟨B, 1, none⟩ (.slice none 0 0)).setCell ⟨B, 2, none⟩ (.slice none 0 0)).setCell ⟨B, 3, none⟩ (.slice (some ⟨w8.heap.size, 0, none⟩) 1 1)) ∧ Blk ((((W9.setCell ⟨B, 0, none⟩ (.int .i64 num)).setCell ⟨B, 1, none⟩ (.slice none 0 0)).setCell ⟨B, 2, none⟩ (.slice none 0 0)).setCell ⟨B, 3, none⟩ (.slice (some ⟨w8.heap.size, 0, none⟩) 1 1)) B [.int .i64 num, .slice none 0 0, .slice none 0 0, .slice (some ⟨w8.heap.size, 0, none⟩) 1 1] 71 ∧ Apart w0.heap.size (O + 1) ((((W9.setCell ⟨B, 0, none⟩ (.int .i64 num)).setCell ⟨B, 1, none⟩ (.slice none 0 0)).setCell ⟨B, 2, none⟩ (.slice none 0 0)).setCell ⟨B, 3, none⟩ (.slice (some ⟨w8.heap.size, 0, none⟩) 1 1)) fun W => ValAt (MsgAt d) W (.agg #[.int .i64 num, .slice none 0 0, .slice none 0 0, .slice (some ⟨w8.heap.size, 0, none⟩) 1 1]) (withV gj (M.vals a) v)) := by
                  have hbr7 := HBR.out.trans (hb19.mono HBR.out.size)
                  have hbl := HBL.out
                  have hn0 := HSD.out.1
                  have hO := HSD.out.2
                  have hs10 := HBR.out.size
                  refine ⟨hbr7.trans (hbut.to_below hbl.2.1 hbr7.size), hk2, fun W hW => ?_⟩
                  rw [HWV.out, HJN.out]
                  have hag : ∀ b, b < W9.heap.size → (b < w0.heap.size ∨ W10.heap.size ≤ b) → W.heap[b]? = W9.heap[b]? := fun b hlt hc => by
                    rw [hW b (Nat.lt_of_lt_of_le hlt hbut.size) (by omega)]
                    exact hbut.block b hlt (by omega)
                  refine val_one (HNUM.out.1 ▸ HNB.out) (T := 35) (c1 := .slice p1 p1n p1c) (c2 := .slice p2 p2n p2c) ((hag w8.heap.size hg9.lt (.inr hs18)).trans hg9) ?_
                  exact hap W fun b hlt hc => (hag b (Nat.lt_of_lt_of_le hlt hb9.size) hc).trans (hb9.block b hlt)
                have r0 := hr9.cell 0 _ rfl
                have r1 := hr9.cell 1 _ rfl
                have r2 := hr9.cell 2 _ rfl
                have r3 := hr9.cell 3 _ rfl
                have z0 := hr9.free 0
                have z1 := hr9.free 1
                have z2 := hr9.free 2
                have z3 := hr9.free 3
                have rl := hr9.lt
                have HN10 : Hid (((((W9.setCell ⟨B, 0, none⟩ (.int .i64 num)).setCell ⟨B, 1, none⟩ (.slice none 0 0)).setCell ⟨B, 2, none⟩ (.slice none 0 0)).setCell ⟨B, 3, none⟩ (.slice (some ⟨w8.heap.size, 0, none⟩) 1 1)).cell? ⟨B, 0, none⟩ = some (.int .i64 num)) := hk2.cell 0 _ rfl
                rw [← HW9.out]
                obtain ⟨z8, HZ8⟩ : ∃ z, Hid (z = w8.heap.size) := ⟨_, rfl⟩
                rw [← HZ8.out] at HREL HN10 ⊢
                refine HK12.out _ _ hn9 ?_
                clear HK12 K12 hap hb8 hb9 hg9 hb19 hr9 hs18 hk2 hbut hn8
                intro _
                refine seqG0 (v := ?v115) ?hy115 ?hr115
                case hy115 => (intro w hw; go_simp; all_goals rfl)
                simp only [Act.put, List.setIfInBounds_toArray, List.set_cons_zero, List.set_cons_succ]
                refine seqG2 (fun K12 HK12 => ?_)
                go_wp2_with fail
                refine HK12.out _ _ HN10.out ?_
                clear HK12 K12 r0 r1 r2 r3 z0 z1 z2 z3
                intro _
                refine seqG_end ?_
                go_wp2_with fail
                go_meet
                case rel => exact ⟨_, _, _, _, _, _, _, _, _, HREL.out⟩
              · have e17 : ((f.kind : Int) == 17) = false := by simpa using h17
                have HREL : Hid (Below wr.heap.size wr W10 ∧ Blk W10 B [.int .i64 num, .slice a1 n1 q1, .slice a2 n2 q2, .slice a3 n3 q3] 71 ∧ Apart w0.heap.size (O + 1) W10 fun W => ValAt (MsgAt d) W (.agg #[.int .i64 num, .slice a1 n1 q1, .slice a2 n2 q2, .slice a3 n3 q3]) (withV gj (M.vals a) v)) := by
                  refine ⟨HBR.out, hb7, ?_⟩
                  rw [HWV.out]
                  unfold bothV
                  rw [if_neg (by rw [hrp]; simp), if_neg h17]
                  exact apart_old rfl HB010.out fun W hk => VMsg.keep HMV.out hk
                clear h17 hb7
                go_wp2_with fail
                go_meet
                case rel => exact ⟨_, _, _, _, _, _, _, _, _, HREL.out⟩
        case rest =>
          obtain ⟨b1, m1, k1, b2, m2, k2, b3, m3, k3, HD⟩ := hcut
          have HJd := hid (HJ.out.later (by have := HJ.out.bx.lt; omega) HD.out.1)
          have hwn : (withV gj (M.vals a) v).num = num := by rw [withV_num (fun _ _ => by rw [HGJ.out]; exact bothV_num _ _ _ _), HNUM.out.1]
          have hmany : manyV (withV gj (M.vals a) v) ≠ 0 := by
            unfold withV
            cases hg : getV (M.vals a) v.num with
            | none => exact fits_many HQF.out.2
            | some u =>
              obtain ⟨hgn, hgm⟩ := getV_num hg
              obtain ⟨-, -, -, hgF⟩ := HOKA.out.1.at' u hgm
              unfold qOf at hgF
              rw [hgn, HNUM.out.1, HNUM.out.2, Int.toNat_natCast, ← HF.out] at hgF
              show manyV (gj u v) ≠ 0
              rw [HGJ.out]
              show manyV (bothV _ (fs.getD (fieldAt fs v.num).toNat .zero) u v) ≠ 0
              rw [HNUM.out.1, HNUM.out.2, Int.toNat_natCast, ← HF.out]
              exact fits_many (fits_both hgF HQF.out.2 fun x y hx hy => right_join s d _ x y hx hy)
          have HPUT := hid (ref15_Put (n0 := w0.heap.size) (B := O + 1) (x := (⟨l, M.unk a⟩ : Msgd (M d))) HJd.out.bo.lt HJd.out.out HD.out.2.2 (by have := HJ.out.len; have h2 := HLA.out.1; rw [HAN.out] at h2; have := HLA.out.2.1; show l.length ≤ _; omega))
          have hpr : putR (withV gj (M.vals a) v) l = putV (withV gj (M.vals a) v) l := by
            unfold putR
            rw [decide_eq_false hmany]
            exact refPut_put HJ.out.rise
          have o0 := HJd.out.bo.cell 0 _ rfl
          have o1 := HJd.out.bo.cell 1 _ rfl
          have ol := HJd.out.bo.lt
          have d0 := HD.out.2.1.cell 0 _ rfl
          have d1 := HD.out.2.1.cell 1 _ rfl
          have d2 := HD.out.2.1.cell 2 _ rfl
          have d3 := HD.out.2.1.cell 3 _ rfl
          have dl := HD.out.2.1.lt
          have HPR := hid hpr
          have HVI := hid HV.out.1
          clear hpr hmany hwn HJW HGA HVA HOKA HWT HSTAT HNUM HQF HMV HFT HC01 HFS HF HB9 HBc HVF HGE HB0c HC HB6 HV6 HB06 HJ
          go_wp2_with fail
          refine HPUT.out.mono ?_
          rintro e w12 ⟨v12, rfl, hb12, hap12⟩
          obtain ⟨p1, p1n, p1c, p2, p2n, p2c, rfl⟩ := hap12.here.form
          have HSTEP := hid (HJd.out.step HSD.out hb12 HVI.out (u1 := .slice p1 p1n p1c) (u2 := .slice p2 p2n p2c) (by rw [← HPR.out]; exact hap12))
          have ho := HJd.out.bo.below hb12
          have r0 := ho.cell 0 _ rfl
          have r1 := ho.cell 1 _ rfl
          have z0 := ho.free 0
          have z1 := ho.free 1
          have rl := ho.lt
          clear hap12 hb12 ho o0 o1 ol d0 d1 d2 d3 dl HPUT HD HJd
          go_wp2_with fail
          go_roundw
          case rel => exact ⟨i + 1, _, p1, p1n, p1c, p2, p2n, p2c, by go_num, hlt, HSTEP.out⟩
          case measure => simp [intOf]; omega
    · obtain rfl : i = bn := by omega
      have HB0 : Hid (Below w0.heap.size w0 wr) := HHW.out.trans ((HJ.out.below.mono (Nat.le_of_eq HX.out.symm)).mono HHW.out.size)
      have x1 := HJ.out.bx.cell 1 _ rfl
      have xl := HJ.out.bx.lt
      have y0 := HJ.out.by'.cell 0 _ rfl
      have y1 := HJ.out.by'.cell 1 _ rfl
      have yl := HJ.out.by'.lt
      obtain ⟨N0, HN0⟩ : ∃ n, Hid (n = wr.heap.size) := ⟨_, rfl⟩
      have HG1 : Hid (Seg w0 (.slice ra au rc) 1 au ((M.unk a).map strV)) := by have := HUA.out.1; rwa [← HAU.out] at this
      have HG2 : Hid (Seg w0 (.slice ta bu tc) 1 bu ((M.unk b).map strV)) := by have := HUB.out.1; rwa [← HBU.out] at this
      have HLL : Hid (au + bu ≤ 1099511627776) := by have := HLA.out; show _ ≤ _; omega
      have HFIN : Hid (∀ (w3 : World) (g : Option Addr) (z : Nat), Below wr.heap.size wr w3 → w3.ownsRow N0 9 1 (.slice g (au + bu) z) (au + bu) ((M.unk a).map strV ++ (M.unk b).map strV) → Q (.returned (.agg #[.slice oa on oc, .slice g (au + bu) z])) (((w3.setCell ⟨O, 1, none⟩ (.slice g (au + bu) z)).setCell ⟨X + 1 + 1, 0, none⟩ (.slice oa on oc)).setCell ⟨X + 1 + 1, 1, none⟩ (.slice g (au + bu) z))) := by
        intro w3 g z hb13 hO3
        have hbx3 : Below X w w3 := HJ.out.below.trans (hb13.mono (by have := HJ.out.bx.lt; omega))
        have HSO := HSD.out.2
        have hn0 := HSD.out.1
        have hbx4 : Below X w (w3.setCell ⟨O, 1, none⟩ (.slice g (au + bu) z)) := hbx3.setCell (by show X ≤ O; omega) _
        rw [HQ.out]
        refine ⟨_, rfl, by rw [← HX.out]; exact (hbx4.setCell (by show X ≤ X + 1 + 1; omega) _).setCell (by show X ≤ X + 1 + 1; omega) _, fun W hW => ?_⟩
        rw [← HX.out] at hW
        have hag : ∀ b, b < w3.heap.size → (b < w0.heap.size ∨ O + 1 ≤ b) → W.heap[b]? = w3.heap[b]? := fun b hlt hc => by
          rw [hW b (by simpa using hlt) (by omega), Below.heap_setCell _ _ _ b (by show b ≠ X + 1 + 1; omega), Below.heap_setCell _ _ _ b (by show b ≠ X + 1 + 1; omega), Below.heap_setCell _ _ _ b (by show b ≠ O; omega)]
        obtain ⟨vv, uv, e, hVV, -⟩ := HJ.out.out W fun b hlt hc => (hag b (Nat.lt_of_lt_of_le hlt hb13.size) hc).trans (hb13.block b hlt)
        obtain ⟨rfl, -⟩ : vv = .slice oa on oc ∧ uv = .slice ea en ec := by cases e; exact ⟨rfl, rfl⟩
        have hll : joinV gj (M.vals a) (M.vals b) = l := by
          have := HJ.out.todo
          rw [List.drop_eq_nil_of_le (by rw [← HBN.out]; exact Nat.le_refl _)] at this
          exact this.symm
        rw [HJM.out, hll]
        refine ⟨_, _, rfl, hVV, ?_, fun x hx => (List.mem_append.1 hx).elim (HUA.out.2 x) (HUB.out.2 x)⟩
        have h2 := HJ.out.bo.lt
        have h3 := HN0.out
        have h4 := HLL.out
        have := row_seg (row_keep hO3 fun b _ hb he => hag b (Array.getElem?_eq_some_iff.1 he).1 (.inr (by omega))) (by omega)
        show Seg W _ 1 (M.unk a ++ M.unk b).length ((M.unk a ++ M.unk b).map strV)
        rw [List.length_append, List.map_append, ← HAU.out, ← HBU.out]
        exact this
      have HQ0 : Hid (Below wr.heap.size wr wr.drew ∧ wr.drew.cell? ⟨X, 1, none⟩ = some (.slice ra au rc) ∧ wr.drew.cell? ⟨X + 1, 1, none⟩ = some (.slice ta bu tc)) := ⟨(Below.refl _ _).drew, x1, y1⟩
      have HBO := hid (And.intro HJ.out.bo HJ.out.br)
      have HNE : Hid (X + 1 + 1 ≠ O) := by have := HSD.out.2; show X + 1 + 1 ≠ O; omega
      clear HJ HVA HVB HOKA HOKB HWT HUA HUB HJM HAM HBM HGJ HLA HVAS HZ1 HRE HHW HFT HFS HNM HC01 HSN HAN HBN HAU HBU HFN HS0 HX HW1 HW2 HSD HO HQ HMS
      go_upto_region 15 with fail
      clear x1 xl y0 y1 yl
      refine wp_region_eat (fun w' => Below wr.heap.size wr w' ∧ w'.cell? ⟨X, 1, none⟩ = some (.slice ra au rc) ∧ w'.cell? ⟨X + 1, 1, none⟩ = some (.slice ta bu tc)) (fun _ => GrowT N0 9) strE (StrI N0 ((M.unk a).map strV) ((M.unk b).map strV) au bu) 8 [1, 2, 4, 5] [⟨0, 101, []⟩, ⟨3, 104, [0]⟩, ⟨6, 107, [3]⟩] [(7, 0, 0), (8, 2, 0)] (by kernel_rfl) rfl (by kernel_rfl) (by kernel_rfl) (by kernel_rfl) (fun _ _ dst _ _ h => by cases dst <;> exact h) (fun _ _ => false) (by kernel_rfl) (by kernel_rfl) (fun i j w w' v hc h hg => by cases hc) HQ0.out (fun OPS HOPS => ?_)
      have hops := HOPS.out
      subst hops
      simp only [List.map_cons, List.map_nil, List.filterMap_cons, List.filterMap_nil, List.getElem?_cons_succ, List.getElem?_cons_zero]
      refine seqJ_q (v := ?v200) ?hy200 ?hr200
      case hy200 => (intro w hw; go_simp; all_goals rfl)
      simp only [Act.put, List.setIfInBounds_toArray, List.set_cons_zero, List.set_cons_succ]
      refine seqJ_q (v := ?v201) ?hy201 ?hr201
      case hy201 => (intro w hw; go_simp; all_goals rfl)
      simp only [Act.put, List.setIfInBounds_toArray, List.set_cons_zero, List.set_cons_succ]
      refine seqJ_q (v := ?v202) ?hy202 ?hr202
      case hy202 => (intro w hw; go_simp; all_goals rfl)
      simp only [Act.put, List.setIfInBounds_toArray, List.set_cons_zero, List.set_cons_succ]
      refine seqJ_q (v := ?v203) ?hy203 ?hr203
      case hy203 => (intro w hw; go_simp; all_goals rfl)
      simp only [Act.put, List.setIfInBounds_toArray, List.set_cons_zero, List.set_cons_succ]
      refine ⟨?obs, ?fin⟩
      case obs =>
        refine obsJ_cons rfl ?_ (obsJ_cons rfl ?_ (obsJ_cons rfl ?_ obsJ_nil))
        all_goals
          intro vals w7 hV hd K HK
          have HVW := hid hV
          have hK := HK.out
          clear hV HK
          simp only [actI, List.foldl_cons, List.foldl_nil, Act.put, List.setIfInBounds_toArray, List.set_cons_zero, List.set_cons_succ] at hK ⊢
          have HK := hid hK
          have hn7 : N0 ≤ w7.heap.size := by rw [HN0.out]; exact HVW.out.1.size
          clear hK
        · go_wp2_with fail
          obtain ⟨hg, hO, -⟩ := growT_lit (T := 9) hn7
          have hb := HVW.out.1.trans (show Below wr.heap.size _ _ by rw [← HN0.out]; exact hg.below)
          exact HK.out _ _ ⟨hb, ⟨below_keeps hb _ _ HQ0.out.2.1, below_keeps hb _ _ HQ0.out.2.2⟩⟩ hg hO
        · have h2 := hd 0 (by simp)
          generalize vals 0 = u2 at h2 HK ⊢
          have hk := below_keeps (HB0.out.trans (HVW.out.1.mono HB0.out.size))
          obtain ⟨a8, c8, w8, hr8, hO8, hg8⟩ := growT_app 25 9 (.string ⟨#[]⟩) 1 16 under_strs info_str rfl (by decide) h2 (HG1.out.keep hk) (strV_one _) (by have := HLL.out; omega) (by decide) hn7
          rw [Nat.zero_add] at hr8 hO8
          rw [List.nil_append] at hO8
          refine wpList_append_eq rfl _ _ _ rfl _ _ rfl rfl hr8 ?_
          have hb := HVW.out.1.trans (show Below wr.heap.size _ _ by rw [← HN0.out]; exact hg8.below)
          exact HK.out _ _ ⟨hb, ⟨below_keeps hb _ _ HQ0.out.2.1, below_keeps hb _ _ HQ0.out.2.2⟩⟩ hg8 ⟨_, _, rfl, hO8⟩
        · obtain ⟨g2, z2, e2, h2⟩ := hd 3 (by simp)
          generalize vals 3 = u2 at e2 h2 HK ⊢
          subst e2
          have hk := below_keeps (HB0.out.trans (HVW.out.1.mono HB0.out.size))
          obtain ⟨a8, c8, w8, hr8, hO8, hg8⟩ := growT_app 25 9 (.string ⟨#[]⟩) 1 16 under_strs info_str rfl (by decide) h2 (HG2.out.keep hk) (strV_one _) HLL.out (by decide) hn7
          refine wpList_append_eq rfl _ _ _ rfl _ _ rfl rfl hr8 ?_
          have hb := HVW.out.1.trans (show Below wr.heap.size _ _ by rw [← HN0.out]; exact hg8.below)
          exact HK.out _ _ ⟨hb, ⟨below_keeps hb _ _ HQ0.out.2.1, below_keeps hb _ _ HQ0.out.2.2⟩⟩ hg8 ⟨_, _, rfl, hO8⟩
      case fin =>
        intro vals w7 hV hI
        obtain ⟨g, z, hv, hO7⟩ : ∃ g z, vals 6 = .slice g (au + bu) z ∧ w7.ownsRow N0 _ _ (.slice g (au + bu) z) _ _ := by
          obtain ⟨g, z, e, h⟩ := hI ⟨6, 107, [3]⟩ (by simp) rfl
          replace e : vals _ = _ := e
          exact ⟨g, z, e, e ▸ h⟩
        simp only [actI, List.foldl_cons, List.foldl_nil, Act.put, List.setIfInBounds_toArray, List.set_cons_zero, List.set_cons_succ]
        generalize vals 6 = u6 at hv ⊢
        subst hv
        generalize vals 0 = t0
        generalize vals 3 = t3
        have hb7 : Below wr.heap.size wr w7 := hV.1
        have HEND := hid (HFIN.out w7 g z hb7 hO7)
        have ho := HBO.out.1.below hb7
        have hs := ho.set 1 (.slice g (au + bu) z)
        have hz := (HBO.out.2.below hb7).set_other ⟨O, 1, none⟩ (.slice g (au + bu) z) HNE.out
        have p1 := ho.cell 1 _ rfl
        have pf := ho.free 1
        have pl := ho.lt
        obtain ⟨W4, HW4⟩ : ∃ W, Hid (W = w7.setCell ⟨O, 1, none⟩ (.slice g (au + bu) z)) := ⟨_, rfl⟩
        rw [← HW4.out] at hs hz HEND
        have HZ := hid (And.intro hs hz)
        clear hV hI hO7 ho hs hz hb7
        refine seqH0 (v := ?v207) ?hy207 ?hr207
        case hy207 => (intro w hw; go_simp; all_goals rfl)
        simp only [Act.put, List.setIfInBounds_toArray, List.set_cons_zero, List.set_cons_succ]
        refine seqH2 (fun K12 HK12 => ?_)
        go_wp2_with fail
        rw [← HW4.out]
        refine HK12.out _ _ trivial ?_
        clear HK12 K12 p1 pf pl
        intro _
        refine seqH_end ?_
        have o0 := HZ.out.1.cell 0 _ rfl
        have o1 := HZ.out.1.cell 1 _ rfl
        have ol := HZ.out.1.lt
        have r0 := HZ.out.2.cell 0 _ rfl
        have r1 := HZ.out.2.cell 1 _ rfl
        have f0 := HZ.out.2.free 0
        have f1 := HZ.out.2.free 1
        have rl := HZ.out.2.lt
        have z2 := (HZ.out.2.set 0 (.slice oa on oc)).set 1 (.slice g (au + bu) z)
        have y0 := z2.cell 0 _ rfl
        have y1 := z2.cell 1 _ rfl
        clear z2
        go_wp2_with fail
        refine bodyPost_ret (v := .agg #[.slice oa on oc, .slice g (au + bu) z]) ?_ rfl HEND.out
        simp [results, Tryz.results19, go_sem, y0, y1]
theorem ref15_Join {w0 : World} {sv : Value} {s : List Mes} (hS0 : SchemaAt w0 sv s) : ∀ d, RJoinOk w0 sv s d
  | 0 => fun _ _ _ _ x _ _ _ _ _ _ _ _ _ => x.elim
  | d + 1 => ref15_Join_step hS0 d (ref15_Join hS0 d)
end Go.Proofs.YtaefpjecalnbcaaGreat
