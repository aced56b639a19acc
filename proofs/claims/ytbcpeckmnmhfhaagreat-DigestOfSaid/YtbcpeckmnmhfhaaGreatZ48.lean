/- darningref27.Make: the sheet of a right meaning (mkSh). Meanings of at most 2^40 things. -/
import Derived.Test.YtbcpeckmnmhfhaaGreatZ45
import Derived.Test.YtbcpeckmnmhfhaaGreatZ46
import Derived.Test.YtbcpeckmnmhfhaaGreatZ47
namespace Go.Proofs.YtbcpeckmnmhfhaaGreat
open Go.RowKit Go.Shelf
def RShOk (w0 : World) (sv : Value) (s : List Mes) (d : Nat) : Prop := ∀ (m : Nat) (w : World) (v : Value) (x : M d), m < s.length → Below w0.heap.size w0 w → MsgAt d w0 v x → rightB s d (m : Int) x = true → mwt d x ≤ 1099511627776 →
  Calls Tryz.prog 16 #[sv, .int .i64 (m : Int), v] w fun e w' => ∃ v', e = .returned v' ∧ Below w.heap.size w w' ∧ Apart 0 w.heap.size w' fun w2 => RShAt d w2 v' (mkSh s d (m : Int) x)
theorem size_rval3 (w : World) : (sizeOf 79).run Tryz.prog w = .ok 4 w := by kernel_rfl
theorem size_rmsg3 (w : World) : (sizeOf 41).run Tryz.prog w = .ok 2 w := by kernel_rfl
set_option maxRecDepth 100000 in
set_option maxHeartbeats 16000000 in
theorem ref27_Make_step {w0 : World} {sv : Value} {s : List Mes} (hS0 : SchemaAt w0 sv s) (d : Nat) (hrec : RShOk w0 sv s d) : RShOk w0 sv s (d + 1) := by
  intro m w v x hm hw hx hr hwt
  have HWT := hid hwt
  have HRE := hid hrec
  have HXM := hid (hx.keep (below_keeps hw))
  obtain ⟨fs, HFS⟩ : ∃ fs, Hid (fs = (s.getD m .zero).fields) := ⟨_, rfl⟩
  obtain ⟨-, sa, sc, rfl, hat⟩ := hS0.open
  obtain ⟨sn, HSN⟩ : ∃ n, Hid (n = s.length) := ⟨_, rfl⟩
  obtain ⟨sb, so, fv, hsa, -, c0, c1, hF⟩ := hat m hm
  subst hsa
  rw [← HFS.out] at hF
  obtain ⟨nm, HNM⟩ : ∃ nm, Hid (nm = (s.getD m .zero).name) := ⟨_, rfl⟩
  rw [← HNM.out] at c0
  obtain ⟨vv, uv, rfl, hV, hU⟩ := hx
  obtain ⟨-, va, vc, rfl, -, hva⟩ := hV.open
  obtain ⟨-, ua, uc, huv, -, -⟩ := hU.open
  obtain ⟨hfl, fa, fc, rfl, hfat⟩ := hF.open
  have hok : ValsOk (fitsB (rightB s d)) fs (M.vals x) := by
    unfold rightB at hr
    by_cases h0 : (m : Int) < 0 ∨ (s.length : Int) ≤ (m : Int)
    · rw [if_pos h0] at hr; cases hr
    · rw [if_neg h0, Bool.and_eq_true, Int.toNat_natCast, ← HFS.out] at hr
      exact (valsOk_of hr.1).1
  have HOK := hid hok
  obtain ⟨un, HUN⟩ : ∃ n, Hid (n = (M.unk x).length) := ⟨_, rfl⟩
  obtain ⟨vn, HVN⟩ : ∃ n, Hid (n = (M.vals x).length) := ⟨_, rfl⟩
  obtain ⟨fn, HFN⟩ : ∃ n, Hid (n = fs.length) := ⟨_, rfl⟩
  rw [← HUN.out] at huv
  subst huv
  rw [← HSN.out] at hS0 HRE hm ⊢
  rw [← HVN.out] at hV HXM ⊢
  have hU' := hU
  rw [← HFN.out] at hF c1 hfat hfl
  have hvn : vn ≤ 1099511627776 := by rw [HVN.out]; exact (unk_len x hwt).2
  obtain ⟨D, HD⟩ : ∃ D, Hid (D = dMsg (d + 1) x) := ⟨_, rfl⟩
  obtain ⟨U, HUU⟩ : ∃ U, Hid (U = dUnk (M.unk x)) := ⟨_, rfl⟩
  obtain ⟨L, HL⟩ : ∃ L, Hid (L = mkLin s d fs) := ⟨_, rfl⟩
  obtain ⟨Q, HQ⟩ : ∃ Q : Ending → World → Prop, Hid (Q = fun e w' => ∃ v', e = .returned v' ∧ Below w.heap.size w w' ∧ Apart 0 w.heap.size w' fun w2 => RShAt (d + 1) w2 v' (mkSh s (d + 1) (m : Int) x)) := ⟨_, rfl⟩
  rw [← HQ.out]
  obtain ⟨X, HX⟩ : ∃ X, Hid (X = w.heap.size) := ⟨_, rfl⟩
  obtain ⟨W1, HW1⟩ : ∃ W1, Hid (W1 = (w.alloc (.cells #[.slice va vn vc, .slice ua un uc] 41)).alloc (.cells #[.int .u64 0, .int .u64 0, .slice none 0 0, .slice none 0 0, .slice none 0 0] 49)) := ⟨_, rfl⟩
  have hb1 : Below w.heap.size w W1 := by rw [HW1.out]; exact ((Below.refl _ _).alloc (Nat.le_refl _) _).alloc (by simp) _
  have hx1 : Blk W1 X [.slice va vn vc, .slice ua un uc] 41 := by
    rw [HW1.out, HX.out]
    exact (Blk.new w [.slice va vn vc, .slice ua un uc] 41).below ((Below.refl _ _).alloc (Nat.le_refl _) _)
  have hr1 : Blk W1 (X + 1) [.int .u64 0, .int .u64 0, .slice none 0 0, .slice none 0 0, .slice none 0 0] 49 := by
    have h := Blk.new (w.alloc (.cells #[.slice va vn vc, .slice ua un uc] 41)) [.int .u64 0, .int .u64 0, .slice none 0 0, .slice none 0 0, .slice none 0 0] 49
    rw [World.size_alloc, ← HX.out] at h
    rw [HW1.out]
    exact h
  have HDM : Hid (∀ W, Below W1.heap.size W1 W → Calls Tryz.prog 13 #[.agg #[.slice va vn vc, .slice ua un uc]] W fun e w' => e = .returned (.int .u64 (D : Nat)) ∧ Below W.heap.size W w') := fun W hW => by
    rw [HD.out]; exact ref27_Message (d + 1) W _ _ ((HXM.out.below hb1).below hW) HWT.out
  have HDU : Hid (∀ W, Below W1.heap.size W1 W → Calls Tryz.prog 33 #[.slice ua un uc] W fun e w' => e = .returned (.int .u64 (U : Nat)) ∧ Below W.heap.size W w') := fun W hW => by
    rw [HUU.out]
    exact ref27_Unknown (((hU'.keep (below_keeps hw)).keep (below_keeps hb1)).keep (below_keeps hW)) (by
      have h2 := HWT.out
      have e : mwt (d + 1) x = 1 + twt (M.unk x) + ((M.vals x).map (vwt (mwt d))).sum := rfl
      omega)
  have HS0 := hid hS0
  have HHW := hid hw
  have HVA := hid hva
  have HC01 := hid (And.intro c0 c1)
  have HFT := hid (And.intro hF hfat)
  have HB1 := hid hb1
  have HX1 := hid hx1
  have q0 := And.intro (show W1.drew.cell? ⟨X, 0, none⟩ = some (.slice va vn vc) from hx1.cell 0 _ rfl) (show W1.drew.cell? ⟨X, 1, none⟩ = some (.slice ua un uc) from hx1.cell 1 _ rfl)
  have hxl := hx1.lt
  have HR1 := hid hr1
  clear hS0 hw hva hat c0 c1 hF hU hU' hV hr hok hfat hrec hwt hb1 hx1 hr1
  go_enter Tryz.func16, Tryz.ntmps16
  go_upto_region 1 with fail
  rw [← HW1.out, ← HX.out]
  have k0 : W1.cell? ⟨X, 0, none⟩ = some (.slice va vn vc) ∧ W1.cell? ⟨X, 1, none⟩ = some (.slice ua un uc) := ⟨HX1.out.cell 0 _ rfl, HX1.out.cell 1 _ rfl⟩
  have HNW : Hid (∀ W, Below W1.heap.size W1 W → Blk (W.alloc (.cells #[.int .u64 0, .int .u64 0, .slice none 0 0, .slice none 0 0, .slice none 0 0] 49)) W.heap.size [.int .u64 0, .int .u64 0, .slice none 0 0, .slice none 0 0, .slice none 0 0] 49 ∧ Below W1.heap.size W1 (W.alloc (.cells #[.int .u64 0, .int .u64 0, .slice none 0 0, .slice none 0 0, .slice none 0 0] 49))) := fun W hW => ⟨Blk.new W [.int .u64 0, .int .u64 0, .slice none 0 0, .slice none 0 0, .slice none 0 0] _, hW.alloc hW.size _⟩
  have HZ1 : Hid (Blk (W1.alloc (.cells #[.int .u64 0, .int .u64 0, .slice none 0 0, .slice none 0 0, .slice none 0 0] 49)).drew W1.heap.size [.int .u64 0, .int .u64 0, .slice none 0 0, .slice none 0 0, .slice none 0 0] 49 ∧ Below W1.heap.size W1 (W1.alloc (.cells #[.int .u64 0, .int .u64 0, .slice none 0 0, .slice none 0 0, .slice none 0 0] 49)).drew) := ⟨(HNW.out W1 (Below.refl _ _)).1, (HNW.out W1 (Below.refl _ _)).2.drew⟩
  have HD1 := hid (Below.refl W1.heap.size W1).drew
  go_cut [7] from 12 to 17 (fun s7 wx => ∃ O : Nat, s7 = .pointer (some ⟨O, 0, none⟩) ∧ Hid (Below W1.heap.size W1 wx ∧ W1.heap.size ≤ O ∧ Blk wx O [.int .u64 (D : Int), .int .u64 (U : Int), .slice none 0 0, .slice none 0 0, .slice none 0 0] 49))
  case first =>
    clear HVA HOK HWT HRE HHW HFT HFS HNM HC01 HSN HUN HVN HFN HS0 HX HW1 HB1 HXM HD HUU HL HQ HR1
    go_region_held3 (fun w' => w'.cell? ⟨X, 0, none⟩ = some (.slice va vn vc) ∧ w'.cell? ⟨X, 1, none⟩ = some (.slice ua un uc)) (first | (with_reducible exact q0) | (with_reducible exact q1) | (with_reducible exact q2) | go_keep | (refine (fun (hb : Below W1.heap.size W1 _) => ⟨below_keeps hb _ _ k0.1, below_keeps hb _ _ k0.2⟩) ?_; (repeat (first | with_reducible exact Below.refl _ _ | with_reducible refine Below.setCell ?_ (by first | omega | (simp; omega) | (simp; done)) _ | with_reducible refine Below.alloc ?_ (by first | omega | (simp; omega) | (simp; done)) _ | with_reducible refine below_drewN ?_ _ | with_reducible refine Below.drew ?_)); first | exact HB2.out | exact HB3.out)) (first
      | (go_at_call 13; (with_reducible refine (HDM.out _ HZ1.out.2).mono ?_); rintro e w2 ⟨rfl, hb2⟩; have hb12 := HZ1.out.2.trans (hb2.mono HZ1.out.2.size); have q1 : w2.cell? ⟨X, 0, none⟩ = some (.slice va vn vc) ∧ w2.cell? ⟨X, 1, none⟩ = some (.slice ua un uc) := ⟨below_keeps hb12 _ _ k0.1, below_keeps hb12 _ _ k0.2⟩; have HZ2 := hid (HZ1.out.1.below hb2); have HB2 := hid hb12; clear hb2 hb12)
      | (go_at_call 13; (with_reducible refine (HDM.out _ HD1.out).mono ?_); rintro e w2 ⟨rfl, hb2⟩; have hb12 := HD1.out.trans (hb2.mono HD1.out.size); have q1 : w2.cell? ⟨X, 0, none⟩ = some (.slice va vn vc) ∧ w2.cell? ⟨X, 1, none⟩ = some (.slice ua un uc) := ⟨below_keeps hb12 _ _ k0.1, below_keeps hb12 _ _ k0.2⟩; have s2 := hb12.size; have HN2 := hid (HNW.out w2 hb12); have HB2 := hid hb12; clear hb2 hb12)
      | (go_at_call 33; (with_reducible refine (HDU.out _ HB2.out).mono ?_); rintro e w3 ⟨rfl, hb3⟩; have hz3 := HZ2.out.below hb3; have z0 := hz3.cell 0 _ rfl; have y0 := hz3.free 0; have z1 := hz3.cell 1 _ rfl; have y1 := hz3.free 1; have z2 := hz3.cell 2 _ rfl; have y2 := hz3.free 2; have z3 := hz3.cell 3 _ rfl; have y3 := hz3.free 3; have z4 := hz3.cell 4 _ rfl; have y4 := hz3.free 4; have zl := hz3.lt; have hb13 := HB2.out.trans (hb3.mono HB2.out.size); have q2 : w3.cell? ⟨X, 0, none⟩ = some (.slice va vn vc) ∧ w3.cell? ⟨X, 1, none⟩ = some (.slice ua un uc) := ⟨below_keeps hb13 _ _ k0.1, below_keeps hb13 _ _ k0.2⟩; have HZ3 := hid hz3; have HB3 := hid hb13; clear hb3 hb13 hz3)
      | (go_at_call 33; (with_reducible refine (HDU.out _ HN2.out.2).mono ?_); rintro e w3 ⟨rfl, hb3⟩; have hz3 := HN2.out.1.below hb3; have z0 := hz3.cell 0 _ rfl; have y0 := hz3.free 0; have z1 := hz3.cell 1 _ rfl; have y1 := hz3.free 1; have z2 := hz3.cell 2 _ rfl; have y2 := hz3.free 2; have z3 := hz3.cell 3 _ rfl; have y3 := hz3.free 3; have z4 := hz3.cell 4 _ rfl; have y4 := hz3.free 4; have zl := hz3.lt; have hb13 := HN2.out.2.trans (hb3.mono HN2.out.2.size); have q2 : w3.cell? ⟨X, 0, none⟩ = some (.slice va vn vc) ∧ w3.cell? ⟨X, 1, none⟩ = some (.slice ua un uc) := ⟨below_keeps hb13 _ _ k0.1, below_keeps hb13 _ _ k0.2⟩; have HZ3 := hid hz3; have HB3 := hid hb13; clear hb3 hb13 hz3)
      | (go_at_call 33; (with_reducible refine (HDU.out _ HB2.out).mono ?_); rintro e w3 ⟨rfl, hb3⟩; have hb13 := HB2.out.trans (hb3.mono HB2.out.size); have q2 : w3.cell? ⟨X, 0, none⟩ = some (.slice va vn vc) ∧ w3.cell? ⟨X, 1, none⟩ = some (.slice ua un uc) := ⟨below_keeps hb13 _ _ k0.1, below_keeps hb13 _ _ k0.2⟩; have s3 := hb13.size; have HB3 := hid hb13; clear hb3 hb13))
    all_goals
      go_wp2_with fail
      go_meet
      case rel => first
        | exact ⟨_, rfl, HB3.out.alloc HB3.out.size _, HB3.out.size, Blk.new w3 [.int .u64 (D : Int), .int .u64 (U : Int), .slice none 0 0, .slice none 0 0, .slice none 0 0] _⟩
        | (refine ⟨_, rfl, ?_, (by first | omega | exact Nat.le_refl _), (((((HZ3.out.set 0 (.int .u64 (D : Int))).set 1 (.int .u64 (U : Int))).set 2 (.slice none 0 0)).set 3 (.slice none 0 0)).set 4 (.slice none 0 0))⟩
           (repeat (first | with_reducible exact Below.refl _ _ | with_reducible refine Below.setCell ?_ (by first | omega | (simp; omega) | (simp; done)) _ | with_reducible refine Below.alloc ?_ (by first | omega | (simp; omega) | (simp; done)) _ | with_reducible refine below_drewN ?_ _ | with_reducible refine Below.drew ?_))
           exact HB3.out)
  case rest =>
  clear q0 k0 HNW HZ1 HD1 HDM HDU
  obtain ⟨O, rfl, HC⟩ := hcut
  obtain ⟨W4, rfl⟩ : ∃ W, W = wc := ⟨_, rfl⟩
  have HB14 := hid HC.out.1
  have HB4 := hid (HB1.out.trans (HC.out.1.mono HB1.out.size))
  have HX4 := hid (HX1.out.below HC.out.1)
  have HRO : Hid (w.heap.size = X ∧ X + 1 < O) := ⟨HX.out.symm, Nat.lt_of_lt_of_le HR1.out.lt HC.out.2.1⟩
  obtain ⟨ls, HLS⟩ : ∃ l, Hid (l = (M.vals x).map L) := ⟨_, rfl⟩
  have HLL : Hid (ls.length = vn) := by rw [Hid, HLS.out, List.length_map, HVN.out]
  have HFIT : Hid (∀ l ∈ ls, i64ok l.num ∧ l.dig < 2 ^ 64) := by
    have h := mkSh_fit s (d + 1) (m : Int) _ x HXM.out HWT.out
    intro l hl
    refine ⟨(h.2 l ?_).1, (h.2 l ?_).2.1⟩ <;>
    · rw [HLS.out, HL.out, HFS.out] at hl
      exact hl
  have HJ0 : Hid (O3 d O D U W4 W4 (.slice none 0 0) (.slice none 0 0) (.slice none 0 0) [] [] []) := O3.start HC.out.2.2
  have HBO : Hid (∀ W, Below O W4 W → Below w.heap.size w W) := fun W h => HB4.out.trans (h.mono (by have := HRO.out; omega))
  have HXB : Hid (∀ W, Below O W4 W → Blk W X [.slice va vn vc, .slice ua un uc] 41 ∧ Blk W (X + 1) [.int .u64 0, .int .u64 0, .slice none 0 0, .slice none 0 0, .slice none 0 0] 49) := fun W h => ⟨(h.block X (by have := HRO.out; omega)).trans HX4.out, (h.block (X + 1) (by have := HRO.out; omega)).trans (HR1.out.below HB14.out)⟩
  have HFIN : Hid (∀ W W' nv dv sv, O3 d O D U W4 W nv dv sv (ls.map Lin.num) (ls.map Lin.dig) (ls.map Lin.sub) → Below X W W' → (∀ b, b < W.heap.size → O + 1 ≤ b → W'.heap[b]? = W.heap[b]?) → Q (.returned (.agg #[.int .u64 (D : Int), .int .u64 (U : Int), nv, dv, sv])) W') := by
    intro W W' nv dv sv hO hb hh
    rw [HQ.out]
    have hs := HRO.out
    refine ⟨_, rfl, (HBO.out W hO.below).trans (hb.mono (by omega)), fun w2 hw2 => ?_⟩
    have h := hO.done (by rw [HLL.out]; exact hvn) (fun l hl => (HFIT.out l hl).1) (fun l hl => (HFIT.out l hl).2) (w' := w2) fun b hlt hc => (hw2 b (Nat.lt_of_lt_of_le hlt hb.size) (.inr (by omega))).trans (hh b hlt hc)
    rw [HLS.out, HL.out, HFS.out] at h
    show RShAt (d + 1) w2 (.agg #[.int .u64 (D : Int), .int .u64 (U : Int), nv, dv, sv]) _
    rw [HD.out, HUU.out] at h ⊢
    exact h
  clear HC hxl
  go_upto_region 3 with fail
  go_loopw [8] (fun v8 wr => ∃ (i : Nat) (na : Option Addr) (nc : Nat) (da : Option Addr) (dc : Nat) (sa : Option Addr) (sc : Nat), v8 = .int .i64 (i : Int) ∧ i ≤ vn ∧ Hid (O3 d O D U W4 wr (.slice na i nc) (.slice da i dc) (.slice sa i sc) ((ls.take i).map Lin.num) ((ls.take i).map Lin.dig) ((ls.take i).map Lin.sub))) (fun v8 _ => vn - (intOf v8).toNat)
  case atStart => exact ⟨0, none, 0, none, 0, none, 0, rfl, by omega, HJ0.out⟩
  case round =>
    obtain ⟨i, na, nc, da, dc, ta, tc, rfl, hi, HJ⟩ := hrel
    have hxb := HXB.out wr HJ.out.below
    have x0 := hxb.1.cell 0 _ rfl
    have xl := hxb.1.lt
    by_cases hlt : i < vn
    · clear hxb
      obtain ⟨v, hv⟩ : ∃ v, (M.vals x)[i]? = some v := ⟨_, List.getElem?_eq_getElem (by rw [← HVN.out]; exact hlt)⟩
      have HBWr := hid (HBO.out wr HJ.out.below)
      have HB0 := hid (HHW.out.trans (HBWr.out.mono HHW.out.size))
      obtain ⟨b, o', v1, v2, v3, ha, g0, g1, g2, g3, hM⟩ := HVA.out i v hv
      have hM0 := hM
      obtain ⟨wv, tv, sv', hform, hnum, hWo, hTe, hSu⟩ := hM
      obtain ⟨-, a1, q1, rfl, -, -⟩ := hWo.open
      obtain ⟨-, a2, q2, rfl, -, -⟩ := hTe.open
      obtain ⟨-, a3, q3, rfl, -, hsa⟩ := hSu.open
      obtain ⟨rfl, rfl, rfl⟩ : v1 = .slice a1 v.words.length q1 ∧ v2 = .slice a2 v.texts.length q2 ∧ v3 = .slice a3 v.subs.length q3 := by cases hform; exact ⟨rfl, rfl, rfl⟩
      clear hform
      obtain ⟨num, HNUM⟩ : ∃ n, Hid (n = v.num) := ⟨_, rfl⟩
      obtain ⟨n1, HN1⟩ : ∃ n, Hid (n = v.words.length) := ⟨_, rfl⟩
      obtain ⟨n2, HN2⟩ : ∃ n, Hid (n = v.texts.length) := ⟨_, rfl⟩
      obtain ⟨n3, HN3⟩ : ∃ n, Hid (n = v.subs.length) := ⟨_, rfl⟩
      rw [← HNUM.out] at g0 hM0
      rw [← HN1.out] at g1 hM0
      rw [← HN2.out] at g2 hM0
      rw [← HN3.out] at g3 hM0
      have hkr := below_keeps HB0.out
      replace g0 := hkr _ _ g0
      replace g1 := hkr _ _ g1
      replace g2 := hkr _ _ g2
      replace g3 := hkr _ _ g3
      obtain ⟨hq0, hq1, hqn, hqF⟩ := HOK.out.at' v (List.mem_of_getElem? hv)
      unfold qOf at hq0 hq1 hqn hqF
      obtain ⟨q, hq⟩ : ∃ q : Nat, fieldAt fs v.num = q := ⟨(fieldAt fs v.num).toNat, by omega⟩
      rw [hq, Int.toNat_natCast] at hqn hqF
      rw [hq] at hq1
      have hqlt : q < fn := by rw [HFN.out]; omega
      obtain ⟨f, HF⟩ : ∃ f, Hid (f = fs.getD q .zero) := ⟨_, rfl⟩
      rw [← HF.out] at hqn hqF
      obtain ⟨dg, HDG⟩ : ∃ n, Hid (n = dVal d v) := ⟨_, rfl⟩
      have HLV : Hid (L v = ⟨num, dg, if subF f = true then v.subs.head?.map (mkSh s d f.of) else none⟩) := by
        rw [Hid, HL.out, mkLin, hq, Int.toNat_natCast, ← HF.out, HNUM.out, HDG.out]
      have HVW : Hid (vwt (mwt d) v ≤ 1099511627776) := by
        have h1 := mem_sum_le (vwt (mwt d)) (M.vals x) v (List.mem_of_getElem? hv)
        have h2 := HWT.out
        have e : mwt (d + 1) x = 1 + twt (M.unk x) + ((M.vals x).map (vwt (mwt d))).sum := rfl
        show _ ≤ _
        omega
      obtain ⟨sb1, HSUB⟩ : ∃ o, Hid (o = (L v).sub) := ⟨_, rfl⟩
      have HTK : Hid ((ls.take (i + 1)).map Lin.num = (ls.take i).map Lin.num ++ [num] ∧ (ls.take (i + 1)).map Lin.dig = (ls.take i).map Lin.dig ++ [dg] ∧ (ls.take (i + 1)).map Lin.sub = (ls.take i).map Lin.sub ++ [sb1]) := by
        have h : ls[i]? = some (L v) := by rw [HLS.out, List.getElem?_map, hv]; rfl
        rw [Hid, List.take_add_one, h, HSUB.out, List.map_append, List.map_append, List.map_append, HLV.out]; exact ⟨rfl, rfl, rfl⟩
      have HLEN : Hid ((ls.take i).length = i) := by rw [Hid, List.length_take, HLL.out]; omega
      have hix := index_run Tryz.underlying38 size_rval3 ha i hlt (cap := vc)
      have hbl := World.block_lt_of_cell? wr _ g0
      obtain ⟨B, HBB⟩ : ∃ B, Hid (B = wr.heap.size) := ⟨_, rfl⟩
      obtain ⟨W6, HW6⟩ : ∃ W6, Hid (W6 = wr.alloc (.cells #[.int .i64 num, .slice a1 n1 q1, .slice a2 n2 q2, .slice a3 n3 q3] 79)) := ⟨_, rfl⟩
      have hb6 : Below wr.heap.size wr W6 := by rw [HW6.out]; exact (Below.refl _ _).alloc (Nat.le_refl _) _
      have hv6 : Blk W6 B [.int .i64 num, .slice a1 n1 q1, .slice a2 n2 q2, .slice a3 n3 q3] 79 := by rw [HW6.out, HBB.out]; exact Blk.new wr [.int .i64 num, .slice a1 n1 q1, .slice a2 n2 q2, .slice a3 n3 q3] _
      have HB6 := hid hb6
      have HV6 := hid hv6
      have HB06 := hid (HB0.out.trans (hb6.mono HB0.out.size))
      have HDV : Hid (∀ W, Below w0.heap.size w0 W → Calls Tryz.prog 31 #[.agg #[.int .i64 num, .slice a1 n1 q1, .slice a2 n2 q2, .slice a3 n3 q3]] W fun e w' => e = .returned (.int .u64 (dg : Nat)) ∧ Below W.heap.size W w') := fun W hW => by
        rw [HDG.out]; exact ref27_Value (VMsg.below hM0 hW) HVW.out
      have HQF := hid (And.intro hqn hqF)
      have HSA := hid hsa
      have HQ2 := hid hq
      clear hv hkr hM0 hnum hWo hTe hSu hsa hq0 hq1 hqn hqF hq hb6 hv6 ha
      go_upto_region 6 with fail
      rw [← HW6.out, ← HBB.out]
      clear g0 g1 g2 g3 hix hbl x0 xl
      have d0 := HV6.out.cell 0 _ rfl
      have dl := HV6.out.lt
      obtain ⟨fb, fo, hfb, hfok, f0, f1, f2, f3, f4, f5⟩ := HFT.out.2 q hqlt
      subst hfb
      rw [← HF.out] at f0 f1 f2 f3 f4 f5 hfok
      have hk6 := below_keeps HB06.out
      replace f0 := hk6 _ _ f0
      replace f1 := hk6 _ _ f1
      replace f2 := hk6 _ _ f2
      replace f3 := hk6 _ _ f3
      replace f4 := hk6 _ _ f4
      replace f5 := hk6 _ _ f5
      have c0 := hk6 _ _ HC01.out.1
      have c1 := hk6 _ _ HC01.out.2
      have hixf := index_run Tryz.underlying53 size_fld rfl q hqlt (a := some ⟨fb, fo, none⟩) (cap := fc)
      have hixs := index_run Tryz.underlying23 size_mes rfl m hm (a := some ⟨sb, so, none⟩) (cap := sc)
      have hgl := World.block_lt_of_cell? W6 _ f0
      have hsl6 := World.block_lt_of_cell? W6 _ c1
      have HFD : Hid (∀ W, Below W6.heap.size W6 W → Calls Tryz.prog 34 #[.agg #[.string nm, .slice (some ⟨fb, fo, none⟩) fn fc], .int .i64 num] W fun e w' => e = .returned (.int .i64 (q : Int)) ∧ Below W.heap.size W w') := fun W hW => by
        have := ref07_Field ((HFT.out.1.below HB06.out).below hW) nm num
        rw [HNUM.out, HQ2.out, ← HNUM.out] at this
        exact this
      have q0 : W6.drew.cell? ⟨sb, so + m * 2, none⟩ = some (.string nm) ∧ W6.drew.cell? ⟨sb, so + m * 2 + 1, none⟩ = some (.slice (some ⟨fb, fo, none⟩) fn fc) ∧ W6.drew.cell? ⟨B, 0, none⟩ = some (.int .i64 num) ∧ W6.drew.cell? ⟨fb, fo + q * 6, none⟩ = some (.string f.name) ∧ W6.drew.cell? ⟨fb, fo + q * 6 + 1, none⟩ = some (.int .i64 f.number) ∧ W6.drew.cell? ⟨fb, fo + q * 6 + 2, none⟩ = some (.int .i64 f.kind) ∧ W6.drew.cell? ⟨fb, fo + q * 6 + 3, none⟩ = some (.bool f.rep) ∧ W6.drew.cell? ⟨fb, fo + q * 6 + 4, none⟩ = some (.bool f.packed) ∧ W6.drew.cell? ⟨fb, fo + q * 6 + 5, none⟩ = some (.int .i64 f.of) := ⟨c0, c1, d0, f0, f1, f2, f3, f4, f5⟩
      have hz6 : Blk (W6.alloc (.cells #[.string ⟨#[]⟩, .int .i64 0, .int .i64 0, .bool false, .bool false, .int .i64 0] 60)).drew W6.heap.size [.string ⟨#[]⟩, .int .i64 0, .int .i64 0, .bool false, .bool false, .int .i64 0] 60 := Blk.new W6 [.string ⟨#[]⟩, .int .i64 0, .int .i64 0, .bool false, .bool false, .int .i64 0] _
      have hbz : Below W6.heap.size W6 (W6.alloc (.cells #[.string ⟨#[]⟩, .int .i64 0, .int .i64 0, .bool false, .bool false, .int .i64 0] 60)).drew := ((Below.refl _ _).alloc (Nat.le_refl _) _).drew
      have HZ6 := hid (And.intro hz6 hbz)
      clear hz6 hbz
      have HD6 := hid ((Below.refl W6.heap.size W6).drew)
      go_cut [10] from 30 to 43 (fun s10 wx => ∃ FB : Nat, s10 = .pointer (some ⟨FB, 0, none⟩) ∧ Hid (Below W6.heap.size W6 wx ∧ W6.heap.size ≤ FB ∧ Blk wx FB f.cells 60))
      case first =>
        clear HJ HVA HOK HWT HUU HX1 HR1 HB1 HB0 HRE HHW HFT HFS HNM HC01 HSN HUN HVN HFN HS0 HX HW1 HTK HLEN HLV HVW HSA HDV HQF HSUB HLS HLL HFIT HJ0 HBO HXB HFIN HXM HX4 HRO HB14 HB4 HBWr
        go_region_held3 (fun w' => w'.cell? ⟨sb, so + m * 2, none⟩ = some (.string nm) ∧ w'.cell? ⟨sb, so + m * 2 + 1, none⟩ = some (.slice (some ⟨fb, fo, none⟩) fn fc) ∧ w'.cell? ⟨B, 0, none⟩ = some (.int .i64 num) ∧ w'.cell? ⟨fb, fo + q * 6, none⟩ = some (.string f.name) ∧ w'.cell? ⟨fb, fo + q * 6 + 1, none⟩ = some (.int .i64 f.number) ∧ w'.cell? ⟨fb, fo + q * 6 + 2, none⟩ = some (.int .i64 f.kind) ∧ w'.cell? ⟨fb, fo + q * 6 + 3, none⟩ = some (.bool f.rep) ∧ w'.cell? ⟨fb, fo + q * 6 + 4, none⟩ = some (.bool f.packed) ∧ w'.cell? ⟨fb, fo + q * 6 + 5, none⟩ = some (.int .i64 f.of)) (first | (with_reducible exact q0) | (with_reducible exact q1) | go_keep | (refine (fun (hb : Below W6.heap.size W6 _) => ⟨below_keeps hb _ _ q0.1, below_keeps hb _ _ q0.2.1, below_keeps hb _ _ q0.2.2.1, below_keeps hb _ _ q0.2.2.2.1, below_keeps hb _ _ q0.2.2.2.2.1, below_keeps hb _ _ q0.2.2.2.2.2.1, below_keeps hb _ _ q0.2.2.2.2.2.2.1, below_keeps hb _ _ q0.2.2.2.2.2.2.2.1, below_keeps hb _ _ q0.2.2.2.2.2.2.2.2⟩) ?_; (repeat (first | with_reducible exact Below.refl _ _ | with_reducible refine Below.setCell ?_ (by first | omega | (simp; omega) | (simp; done)) _ | with_reducible refine Below.alloc ?_ (by first | omega | (simp; omega) | (simp; done)) _ | with_reducible refine below_drewN ?_ _ | with_reducible refine Below.drew ?_)); exact HB67.out)) (first
          | (go_at_call 34; (with_reducible refine (HFD.out _ HZ6.out.2).mono ?_); rintro e w7 ⟨rfl, hb7⟩; have hb67 := below_step HZ6.out.2 hb7 HZ6.out.2.size; have q1 : w7.cell? ⟨sb, so + m * 2, none⟩ = some (.string nm) ∧ w7.cell? ⟨sb, so + m * 2 + 1, none⟩ = some (.slice (some ⟨fb, fo, none⟩) fn fc) ∧ w7.cell? ⟨B, 0, none⟩ = some (.int .i64 num) ∧ w7.cell? ⟨fb, fo + q * 6, none⟩ = some (.string f.name) ∧ w7.cell? ⟨fb, fo + q * 6 + 1, none⟩ = some (.int .i64 f.number) ∧ w7.cell? ⟨fb, fo + q * 6 + 2, none⟩ = some (.int .i64 f.kind) ∧ w7.cell? ⟨fb, fo + q * 6 + 3, none⟩ = some (.bool f.rep) ∧ w7.cell? ⟨fb, fo + q * 6 + 4, none⟩ = some (.bool f.packed) ∧ w7.cell? ⟨fb, fo + q * 6 + 5, none⟩ = some (.int .i64 f.of) := ⟨below_keeps hb67 _ _ q0.1, below_keeps hb67 _ _ q0.2.1, below_keeps hb67 _ _ q0.2.2.1, below_keeps hb67 _ _ q0.2.2.2.1, below_keeps hb67 _ _ q0.2.2.2.2.1, below_keeps hb67 _ _ q0.2.2.2.2.2.1, below_keeps hb67 _ _ q0.2.2.2.2.2.2.1, below_keeps hb67 _ _ q0.2.2.2.2.2.2.2.1, below_keeps hb67 _ _ q0.2.2.2.2.2.2.2.2⟩; have hz7 := HZ6.out.1.below hb7; have z0 := hz7.cell 0 _ rfl; have z1 := hz7.cell 1 _ rfl; have z2 := hz7.cell 2 _ rfl; have z3 := hz7.cell 3 _ rfl; have z4 := hz7.cell 4 _ rfl; have z5 := hz7.cell 5 _ rfl; have y0 := hz7.free 0; have y1 := hz7.free 1; have y2 := hz7.free 2; have y3 := hz7.free 3; have y4 := hz7.free 4; have y5 := hz7.free 5; have zl := hz7.lt; have HZ7 := hid hz7; have HB67 := hid hb67; clear hz7 hb67 hb7)
          | (go_at_call 34; (with_reducible refine (HFD.out _ HD6.out).mono ?_); rintro e w7 ⟨rfl, hb7⟩; have hb67 := below_step HD6.out hb7 HD6.out.size; have q1 : w7.cell? ⟨sb, so + m * 2, none⟩ = some (.string nm) ∧ w7.cell? ⟨sb, so + m * 2 + 1, none⟩ = some (.slice (some ⟨fb, fo, none⟩) fn fc) ∧ w7.cell? ⟨B, 0, none⟩ = some (.int .i64 num) ∧ w7.cell? ⟨fb, fo + q * 6, none⟩ = some (.string f.name) ∧ w7.cell? ⟨fb, fo + q * 6 + 1, none⟩ = some (.int .i64 f.number) ∧ w7.cell? ⟨fb, fo + q * 6 + 2, none⟩ = some (.int .i64 f.kind) ∧ w7.cell? ⟨fb, fo + q * 6 + 3, none⟩ = some (.bool f.rep) ∧ w7.cell? ⟨fb, fo + q * 6 + 4, none⟩ = some (.bool f.packed) ∧ w7.cell? ⟨fb, fo + q * 6 + 5, none⟩ = some (.int .i64 f.of) := ⟨below_keeps hb67 _ _ q0.1, below_keeps hb67 _ _ q0.2.1, below_keeps hb67 _ _ q0.2.2.1, below_keeps hb67 _ _ q0.2.2.2.1, below_keeps hb67 _ _ q0.2.2.2.2.1, below_keeps hb67 _ _ q0.2.2.2.2.2.1, below_keeps hb67 _ _ q0.2.2.2.2.2.2.1, below_keeps hb67 _ _ q0.2.2.2.2.2.2.2.1, below_keeps hb67 _ _ q0.2.2.2.2.2.2.2.2⟩; have HB67 := hid hb67; clear hb67 hb7))
        · go_wp2_with fail
          go_meet
          case rel => exact ⟨_, rfl, HB67.out.alloc HB67.out.size _, HB67.out.size, Blk.new w7 f.cells _⟩
        · go_wp2_with fail
          go_meet
          case rel =>
            refine ⟨_, rfl, ?_, Nat.le_refl _, ?_⟩
            · (repeat (first | with_reducible exact Below.refl _ _ | with_reducible refine Below.setCell ?_ (by first | omega | (simp; omega) | (simp; done)) _ | with_reducible refine Below.alloc ?_ (by first | omega | (simp; omega) | (simp; done)) _ | with_reducible refine below_drewN ?_ _ | with_reducible refine Below.drew ?_))
              exact HB67.out
            · exact ((((((HZ7.out.set 0 (.string f.name)).set 1 (.int .i64 f.number)).set 2 (.int .i64 f.kind)).set 3 (.bool f.rep)).set 4 (.bool f.packed)).set 5 (.int .i64 f.of))
      case rest =>
      clear c0 c1 d0 dl f0 f1 f2 f3 f4 f5 hk6 hixf hixs hgl hsl6 q0 HZ6 HFD hfok HD6
      obtain ⟨FB, rfl, HC⟩ := hcut
      obtain ⟨W8, rfl⟩ : ∃ W, W = wc := ⟨_, rfl⟩
      have HB8 := hid (HB6.out.trans (HC.out.1.mono HB6.out.size))
      have HVB := hid (HV6.out.below HC.out.1)
      have HFB := hid HC.out.2.2
      have HK0 : Hid (O3K d O D U wr.heap.size W8.heap.size W8 W4 W8 (.slice na i nc) (.slice da i dc) (.slice ta i tc) ((ls.take i).map Lin.num) ((ls.take i).map Lin.dig) ((ls.take i).map Lin.sub)) := O3K.start HJ.out HB8.out
      have HRB : Hid (wr.heap.size ≤ B ∧ B < W8.heap.size ∧ wr.heap.size ≤ FB ∧ FB < W8.heap.size) := ⟨by rw [HBB.out]; exact Nat.le_refl _, HVB.out.lt, Nat.le_trans HB6.out.size HC.out.2.1, HFB.out.lt⟩
      obtain ⟨a7, c7, w7, hr7, hb7, hk7, hK7⟩ := HK0.out.num num (by rw [List.length_map, HLEN.out]; omega)
      rw [List.length_map, HLEN.out] at hr7 hK7
      have o2 := HK0.out.o.blk.cell 2 _ rfl
      have ol := HK0.out.o.blk.lt
      have d0 := HVB.out.cell 0 _ rfl
      have dl := HVB.out.lt
      have y2 := hb7.cell 2 _ rfl
      have yl := hb7.lt
      have yf := hb7.free 2
      have HR7 := hid hr7
      rw [← HTK.out.1] at hK7
      have HK7 := hid hK7
      clear hr7 hb7 hk7 hK7 HC HJ
      go_upto_region 8 with (at_builtin; refine wpList_append_eq rfl _ _ _ rfl _ _ rfl rfl HR7.out ?_)
      obtain ⟨W9, HW9⟩ : ∃ W, Hid (W = w7.setCell ⟨O, 2, none⟩ (.slice a7 (i + 1) c7)) := ⟨_, rfl⟩
      rw [← HW9.out] at HK7
      rw [← HW9.out]
      clear o2 ol d0 dl y2 yl yf HR7 HK0 HW9
      have HW0 : Hid (∀ W, Below O W4 W → Below w0.heap.size w0 W) := fun W h => HHW.out.trans ((HBO.out W h).mono HHW.out.size)
      have hv9 := HK7.out.blk HVB.out HRB.out.1 HRB.out.2.1
      have HBV := HRB.out
      have HDV9 := hid (HDV.out W9.drew (HW0.out W9 HK7.out.o.below).drew)
      have HDIG : Hid (∀ W, Below W9.heap.size W9 W → ∃ a c w10, (Builtin.append_ #[46, 46] 46 #[.slice da i dc, .slice (some ⟨W.heap.size, 0, none⟩) 1 1]).run Tryz.prog (W.alloc (.cells #[.int .u64 (dg : Int)] 27)) = .ok (.slice a (i + 1) c) w10 ∧
          (w10.cell? ⟨O, 3, none⟩ = some (.slice da i dc) ∧ w10.frozen? ⟨O, 3, none⟩ = false ∧ O < w10.heap.size) ∧ (w10.cell? ⟨B, 0, none⟩ = some (.int .i64 num) ∧ w10.cell? ⟨B, 1, none⟩ = some (.slice a1 n1 q1) ∧ w10.cell? ⟨B, 2, none⟩ = some (.slice a2 n2 q2) ∧ w10.cell? ⟨B, 3, none⟩ = some (.slice a3 n3 q3)) ∧
          Hid (O3K d O D U wr.heap.size W8.heap.size W8 W4 (w10.setCell ⟨O, 3, none⟩ (.slice a (i + 1) c)) (.slice a7 (i + 1) c7) (.slice a (i + 1) c) (.slice ta i tc) ((ls.take (i + 1)).map Lin.num) ((ls.take (i + 1)).map Lin.dig) ((ls.take i).map Lin.sub))) := by
        intro W hW
        obtain ⟨a, c, w10, hr, hb, hk, hK⟩ := (HK7.out.later hW).dig dg (by rw [List.length_map, HLEN.out]; omega)
        rw [List.length_map, HLEN.out] at hr hK
        rw [← HTK.out.2.1] at hK
        have hB : Blk w10 B [.int .i64 num, .slice a1 n1 q1, .slice a2 n2 q2, .slice a3 n3 q3] 79 := (hk B HRB.out.1 HRB.out.2.1).trans HVB.out
        exact ⟨a, c, w10, hr, ⟨hb.cell 3 _ rfl, hb.free 3, hb.lt⟩, ⟨hB.cell 0 _ rfl, hB.cell 1 _ rfl, hB.cell 2 _ rfl, hB.cell 3 _ rfl⟩, hK⟩
      have q0 : W9.drew.cell? ⟨O, 3, none⟩ = some (.slice da i dc) ∧ W9.drew.cell? ⟨B, 0, none⟩ = some (.int .i64 num) ∧ W9.drew.cell? ⟨B, 1, none⟩ = some (.slice a1 n1 q1) ∧ W9.drew.cell? ⟨B, 2, none⟩ = some (.slice a2 n2 q2) ∧ W9.drew.cell? ⟨B, 3, none⟩ = some (.slice a3 n3 q3) := ⟨HK7.out.o.blk.cell 3 _ rfl, hv9.cell 0 _ rfl, hv9.cell 1 _ rfl, hv9.cell 2 _ rfl, hv9.cell 3 _ rfl⟩
      have ol := HK7.out.o.blk.lt
      have bl := hv9.lt
      clear hv9 HBV
      go_cut [] from 51 to 57 (fun wx => ∃ (a8 : Option Addr) (c8 : Nat), Hid (O3K d O D U wr.heap.size W8.heap.size W8 W4 wx (.slice a7 (i + 1) c7) (.slice a8 (i + 1) c8) (.slice ta i tc) ((ls.take (i + 1)).map Lin.num) ((ls.take (i + 1)).map Lin.dig) ((ls.take i).map Lin.sub)))
      case first =>
        clear HVA HOK HWT HUU HX1 HR1 HB1 HB0 HRE HHW HFT HFS HNM HC01 HSN HUN HVN HFN HS0 HX HW1 HTK HLEN HLV HVW HSA HDV HQF HSUB HLS HLL HFIT HJ0 HBO HXB HFIN HXM HX4 HRO HB14 HB4 HBWr HK7 HVB HFB HRB HB8 HW0 HB6 HV6 HB06 HF HDG HNUM HN1 HN2 HN3 HQ2 HW6 HBB
        go_region_law (first
          | (go_simp; go_at_call 31; (with_reducible refine HDV9.out.mono ?_); rintro e w8 ⟨rfl, hb8⟩; have kq1 : w8.cell? ⟨O, 3, none⟩ = some (.slice da i dc) ∧ w8.cell? ⟨B, 0, none⟩ = some (.int .i64 num) ∧ w8.cell? ⟨B, 1, none⟩ = some (.slice a1 n1 q1) ∧ w8.cell? ⟨B, 2, none⟩ = some (.slice a2 n2 q2) ∧ w8.cell? ⟨B, 3, none⟩ = some (.slice a3 n3 q3) := ⟨below_keeps hb8 _ _ q0.1, below_keeps hb8 _ _ q0.2.1, below_keeps hb8 _ _ q0.2.2.1, below_keeps hb8 _ _ q0.2.2.2.1, below_keeps hb8 _ _ q0.2.2.2.2⟩; obtain ⟨a8, c8, w10, hr, ⟨y3, yf, yl⟩, qb, hK⟩ := HDIG.out w8 ((Below.refl W9.heap.size W9).drew.trans hb8); have hba := (Below.refl w8.heap.size w8).alloc (Nat.le_refl _) (.cells #[.int .u64 (dg : Int)] 27); have kq2 : (w8.alloc (.cells #[.int .u64 (dg : Int)] 27)).cell? ⟨O, 3, none⟩ = some (.slice da i dc) ∧ (w8.alloc (.cells #[.int .u64 (dg : Int)] 27)).cell? ⟨B, 0, none⟩ = some (.int .i64 num) ∧ (w8.alloc (.cells #[.int .u64 (dg : Int)] 27)).cell? ⟨B, 1, none⟩ = some (.slice a1 n1 q1) ∧ (w8.alloc (.cells #[.int .u64 (dg : Int)] 27)).cell? ⟨B, 2, none⟩ = some (.slice a2 n2 q2) ∧ (w8.alloc (.cells #[.int .u64 (dg : Int)] 27)).cell? ⟨B, 3, none⟩ = some (.slice a3 n3 q3) := ⟨below_keeps hba _ _ kq1.1, below_keeps hba _ _ kq1.2.1, below_keeps hba _ _ kq1.2.2.1, below_keeps hba _ _ kq1.2.2.2.1, below_keeps hba _ _ kq1.2.2.2.2⟩; have ol8 := Nat.lt_of_lt_of_le ol hb8.size; have bl8 := Nat.lt_of_lt_of_le bl hb8.size; have HR9 := hid hr; clear hr hb8 hba HDIG)
          | (refine step_append_eq rfl (.tmp 52) (.tmp 55) _ rfl _ _ rfl rfl HR9.out ?_))
        all_goals
          go_wp2_with fail
          go_meet
          case rel => exact ⟨_, _, hK⟩
      case rest =>
      clear q0 ol bl HDIG HDV9 HDV HK7
      obtain ⟨a8, c8, HK8⟩ := hcut
      have HBK := hid HK8.out.o.below
      have hvx := HK8.out.blk HVB.out HRB.out.1 HRB.out.2.1
      have hfx := HK8.out.blk HFB.out HRB.out.2.2.1 HRB.out.2.2.2
      have e2 := hfx.cell 2 _ rfl
      have e3 := hfx.cell 3 _ rfl
      have el := hfx.lt
      have HADD : Hid (∀ (Wx : World) (u : Value), u.oneCell' = true → Below wc.heap.size wc Wx → (∀ w', (∀ b, b < Wx.heap.size → wc.heap.size ≤ b → w'.heap[b]? = Wx.heap[b]?) → OptP (RShAt d) w' [u] sb1) →
          ∃ a9 c9 w9, (Builtin.append_ #[47, 47] 47 #[.slice ta i tc, .slice (some ⟨Wx.heap.size, 0, none⟩) 1 1]).run Tryz.prog (Wx.alloc (.cells #[u] 93)) = .ok (.slice a9 (i + 1) c9) w9 ∧
            (w9.cell? ⟨O, 4, none⟩ = some (.slice ta i tc) ∧ w9.frozen? ⟨O, 4, none⟩ = false ∧ O < w9.heap.size) ∧
            O3 d O D U W4 (w9.setCell ⟨O, 4, none⟩ (.slice a9 (i + 1) c9)) (.slice a7 (i + 1) c7) (.slice a8 (i + 1) c8) (.slice a9 (i + 1) c9) ((ls.take (i + 1)).map Lin.num) ((ls.take (i + 1)).map Lin.dig) ((ls.take (i + 1)).map Lin.sub)) := by
        intro Wx u hu hb hx
        have h := HK8.out.sub hb u hu sb1 hx (by rw [List.length_map, HLEN.out]; omega)
        rw [List.length_map, HLEN.out, ← HTK.out.2.2] at h
        exact h
      have HO4 : Hid (∀ Wx, Below wc.heap.size wc Wx → Wx.cell? ⟨O, 4, none⟩ = some (.slice ta i tc) ∧ O < Wx.heap.size) := fun Wx hb => ⟨(hb.cell (p := ⟨O, 4, none⟩) HK8.out.o.blk.lt).trans (HK8.out.o.blk.cell 4 _ rfl), Nat.lt_of_lt_of_le HK8.out.o.blk.lt hb.size⟩
      have HB0c := hid (HW0.out wc HBK.out)
      have v3 := hvx.cell 3 _ rfl
      have vl := hvx.lt
      have e5 := hfx.cell 5 _ rfl
      clear HVA HFT HC01 HB1 HB4 HB14 HX1 HR1 HX4 HXB HFIN HJ0 HBWr HB0 HB6 HV6 HB06 HB8 HVB HFB HK8 hvx hfx HW0 HBO HHW HRO HRB HLL HLS HFIT HTK HLEN
      by_cases hsf : f.kind = 17 ∧ f.rep = false
      · obtain ⟨h17, hrp⟩ := hsf
        obtain ⟨y, hsy, hry⟩ := fits_sub1 HQF.out.2 h17 hrp
        obtain ⟨r, hr, hrs⟩ := right_range1 hry
        obtain ⟨b', o2, y1, y2, hya, u0, u1, hMy⟩ := HSA.out 0 y (by rw [hsy]; rfl)
        have hn3 : n3 = 1 := by rw [HN3.out, hsy]; rfl
        subst hn3
        have HMY : Hid (mwt d y ≤ 1099511627776) := by
          have h1 := mem_sum_le (mwt d) v.subs y (by rw [hsy]; simp)
          have h2 := HVW.out
          have e : vwt (mwt d) v = 1 + v.words.length + twt v.texts + (v.subs.map (mwt d)).sum := rfl
          show _ ≤ _
          omega
        have hkr := below_keeps HB0c.out
        replace u0 := hkr _ _ u0
        replace u1 := hkr _ _ u1
        rw [Nat.zero_mul, Nat.add_zero] at u0 u1
        obtain ⟨z1, m1, r1, z2, m2, r2, e1, e4⟩ := msg_form hMy
        subst e1
        subst e4
        subst hya
        have hix := index_run Tryz.underlying77 size_rmsg3 rfl 0 (by decide : 0 < 1) (a := some ⟨b', o2, none⟩) (cap := q3)
        have HSU : Hid (sb1 = some (mkSh s d (r : Int) y)) := by
          rw [Hid, HSUB.out, HLV.out]
          show (if subF f = true then v.subs.head?.map (mkSh s d f.of) else none) = _
          unfold subF
          rw [if_pos (by rw [h17, hrp]; rfl), hsy, hr]; rfl
        have HC := hid (HRE.out r wc.drew _ y hrs HB0c.out.drew hMy (by rw [hr] at hry; exact hry) HMY.out)
        have hb17 : (f.kind == 17) = true := by simpa using h17
        rw [hr] at e5
        rw [hrp] at e3
        have ul := World.block_lt_of_cell? wc _ u0
        have q0 : wc.drew.cell? ⟨FB, 5, none⟩ = some (.int .i64 (r : Int)) ∧ wc.drew.cell? ⟨B, 3, none⟩ = some (.slice (some ⟨b', o2, none⟩) 1 q3) ∧ wc.drew.cell? ⟨b', o2, none⟩ = some (.slice z1 m1 r1) ∧ wc.drew.cell? ⟨b', o2 + 1, none⟩ = some (.slice z2 m2 r2) := ⟨e5, v3, u0, u1⟩
        clear hMy hkr hry hsy h17 hrp hr hrs v3 e5 u1 HQF HSA HRE HVW HMY HLV HSUB HB0c HXM HOK HWT HUU
        go_upto_region 11 with fail
        clear u0 e2 e3
        go_region_held3 (fun w' => w'.cell? ⟨FB, 5, none⟩ = some (.int .i64 (r : Int)) ∧ w'.cell? ⟨B, 3, none⟩ = some (.slice (some ⟨b', o2, none⟩) 1 q3) ∧ w'.cell? ⟨b', o2, none⟩ = some (.slice z1 m1 r1) ∧ w'.cell? ⟨b', o2 + 1, none⟩ = some (.slice z2 m2 r2)) (first | (with_reducible exact q0) | (with_reducible exact p1) | (with_reducible exact p2) | go_keep) (first
          | (go_at_call 16; (with_reducible refine HC.out.mono ?_); rintro e w10 ⟨v', rfl, hb10, hap⟩; obtain ⟨g, k, x1, x2, x3, x4, x5, x6, x7, x8, x9, rfl⟩ := hap.here.form; have p1 : w10.cell? ⟨FB, 5, none⟩ = some (.int .i64 (r : Int)) ∧ w10.cell? ⟨B, 3, none⟩ = some (.slice (some ⟨b', o2, none⟩) 1 q3) ∧ w10.cell? ⟨b', o2, none⟩ = some (.slice z1 m1 r1) ∧ w10.cell? ⟨b', o2 + 1, none⟩ = some (.slice z2 m2 r2) := ⟨below_keeps hb10 _ _ q0.1, below_keeps hb10 _ _ q0.2.1, below_keeps hb10 _ _ q0.2.2.1, below_keeps hb10 _ _ q0.2.2.2⟩; have hba := (Below.refl w10.heap.size w10).alloc (Nat.le_refl _) (.cells #[.int .u64 g, .int .u64 k, .slice x1 x2 x3, .slice x4 x5 x6, .slice x7 x8 x9] 49); have p2 : (w10.alloc (.cells #[.int .u64 g, .int .u64 k, .slice x1 x2 x3, .slice x4 x5 x6, .slice x7 x8 x9] 49)).cell? ⟨FB, 5, none⟩ = some (.int .i64 (r : Int)) ∧ (w10.alloc (.cells #[.int .u64 g, .int .u64 k, .slice x1 x2 x3, .slice x4 x5 x6, .slice x7 x8 x9] 49)).cell? ⟨B, 3, none⟩ = some (.slice (some ⟨b', o2, none⟩) 1 q3) ∧ (w10.alloc (.cells #[.int .u64 g, .int .u64 k, .slice x1 x2 x3, .slice x4 x5 x6, .slice x7 x8 x9] 49)).cell? ⟨b', o2, none⟩ = some (.slice z1 m1 r1) ∧ (w10.alloc (.cells #[.int .u64 g, .int .u64 k, .slice x1 x2 x3, .slice x4 x5 x6, .slice x7 x8 x9] 49)).cell? ⟨b', o2 + 1, none⟩ = some (.slice z2 m2 r2) := ⟨below_keeps hba _ _ p1.1, below_keeps hba _ _ p1.2.1, below_keeps hba _ _ p1.2.2.1, below_keeps hba _ _ p1.2.2.2⟩; have HAP := hid hap; have HB10 := hid ((Below.refl wc.heap.size wc).drew.trans hb10); clear hap hb10 hba))
        clear q0 p1 p2 el vl ul hix HC hb17
        obtain ⟨B2, HB2⟩ : ∃ B, Hid (B = w10.heap.size) := ⟨_, rfl⟩
        obtain ⟨W11, HW11⟩ : ∃ W, Hid (W = w10.alloc (.cells #[.int .u64 g, .int .u64 k, .slice x1 x2 x3, .slice x4 x5 x6, .slice x7 x8 x9] 49)) := ⟨_, rfl⟩
        have hb11 : Below wc.heap.size wc W11 := by rw [HW11.out]; exact HB10.out.alloc HB10.out.size _
        have hz11 : W11.heap.size = w10.heap.size + 1 := by rw [HW11.out]; simp
        have hk11 : Blk W11 B2 [.int .u64 g, .int .u64 k, .slice x1 x2 x3, .slice x4 x5 x6, .slice x7 x8 x9] 49 := by rw [HW11.out, HB2.out]; exact Blk.new w10 [.int .u64 g, .int .u64 k, .slice x1 x2 x3, .slice x4 x5 x6, .slice x7 x8 x9] _
        have hx : ∀ w', (∀ b, b < W11.heap.size → wc.heap.size ≤ b → w'.heap[b]? = W11.heap[b]?) → OptP (RShAt d) w' [.slice (some ⟨B2, 0, none⟩) 1 1] sb1 := by
          intro w' hw'
          rw [HSU.out]
          have hblk : Blk w' B2 [.int .u64 g, .int .u64 k, .slice x1 x2 x3, .slice x4 x5 x6, .slice x7 x8 x9] 49 := (hw' _ hk11.lt (by rw [HB2.out]; exact HB10.out.size)).trans hk11
          refine ⟨_, rfl, [[.int .u64 g, .int .u64 k, .slice x1 x2 x3, .slice x4 x5 x6, .slice x7 x8 x9]], rfl, by simp, seg_blk hblk 5 1 rfl (by omega), fun q r z hr hz => ?_⟩
          match q, hr, hz with
          | 0, hr, hz =>
            injection hr with hr
            injection hz with hz
            subst hr
            subst hz
            exact HAP.out w' fun b hb hc => (hw' b (by omega) (by
              rcases hc with hc | hc
              · omega
              · exact hc)).trans (by rw [HW11.out]; exact Below.heap_alloc w10 _ b hb)
        obtain ⟨a9, c9, w9, hr9, ⟨y4, yf, yl⟩, hO9⟩ := HADD.out W11 (.slice (some ⟨B2, 0, none⟩) 1 1) rfl hb11 hx
        obtain ⟨o4, ol4⟩ := HO4.out _ hb11
        have HR9 := hid hr9
        have HO9 := hid hO9
        clear hr9 hO9 HADD HO4 hx hb11 HAP HB10 hz11 hk11
        go_upto_region 12 with fail
        rw [← HW11.out, ← HB2.out]
        go_wp2_with (at_builtin; refine wpList_append_eq rfl _ _ _ rfl _ _ rfl rfl HR9.out ?_)
        go_roundw
        case rel => exact ⟨i + 1, _, _, _, _, _, _, by go_num, hlt, HO9.out⟩
        case measure => simp [intOf]; omega
      · have hk : (decide (f.kind = 17) && !f.rep) = false := by
          cases h2 : f.rep with
          | true => simp
          | false =>
            have h1 : f.kind ≠ 17 := fun e => hsf ⟨e, h2⟩
            simp [h1]
        have hsub : sb1 = none := by rw [HSUB.out, HLV.out]; show (if subF f = true then _ else none) = none; unfold subF; rw [hk, if_neg (by decide)]
        obtain ⟨a9, c9, w9, hr9, ⟨y4, yf, yl⟩, hO9⟩ := HADD.out wc (.slice none 0 0) rfl (Below.refl _ _) (fun w' _ => by rw [hsub]; exact ⟨_, rfl, rfl⟩)
        obtain ⟨o4, ol4⟩ := HO4.out wc (Below.refl _ _)
        have HR9 := hid hr9
        have HO9 := hid hO9
        clear hr9 hO9 HADD HO4 hsub HLV HSUB HRE HQF HSA HVW v3 e5 HXM HOK HWT HUU
        by_cases h17 : f.kind = 17
        · have hrp : f.rep = true := by cases h2 : f.rep with
            | true => rfl
            | false => exact absurd ⟨h17, h2⟩ hsf
          have hb17 : (f.kind == 17) = true := by simpa using h17
          rw [hrp] at e3
          clear hsf hk h17 hrp
          go_upto_region 12 with fail
          go_wp2_with (at_builtin; refine wpList_append_eq rfl _ _ _ rfl _ _ rfl rfl HR9.out ?_)
          go_roundw
          case rel => exact ⟨i + 1, _, _, _, _, _, _, by go_num, hlt, HO9.out⟩
          case measure => simp [intOf]; omega
        · have hb17 : (f.kind == 17) = false := by simpa using h17
          clear hsf hk h17
          go_upto_region 12 with fail
          go_wp2_with (at_builtin; refine wpList_append_eq rfl _ _ _ rfl _ _ rfl rfl HR9.out ?_)
          go_roundw
          case rel => exact ⟨i + 1, _, _, _, _, _, _, by go_num, hlt, HO9.out⟩
          case measure => simp [intOf]; omega
    · obtain rfl : i = vn := by omega
      have hJ := HJ.out
      rw [← HLL.out, List.take_length, HLL.out] at hJ
      have hO := hJ.blk
      have o0 := hO.cell 0 _ rfl
      have o1 := hO.cell 1 _ rfl
      have o2 := hO.cell 2 _ rfl
      have o3 := hO.cell 3 _ rfl
      have o4 := hO.cell 4 _ rfl
      have ol := hO.lt
      have hR := hxb.2
      have r0 := hR.cell 0 _ rfl
      have r1 := hR.cell 1 _ rfl
      have r2 := hR.cell 2 _ rfl
      have r3 := hR.cell 3 _ rfl
      have r4 := hR.cell 4 _ rfl
      have rl := hR.lt
      have z0 := hR.free 0
      have z1 := hR.free 1
      have z2 := hR.free 2
      have z3 := hR.free 3
      have z4 := hR.free 4
      have s1 := hR.set 0 (.int .u64 (D : Int))
      have s2 := s1.set 1 (.int .u64 (U : Int))
      have s3 := s2.set 2 (.slice na i nc)
      have s4 := s3.set 3 (.slice da i dc)
      have s5 := s4.set 4 (.slice ta i tc)
      have c0 := s5.cell 0 _ rfl
      have c1 := s5.cell 1 _ rfl
      have c2 := s5.cell 2 _ rfl
      have c3 := s5.cell 3 _ rfl
      have c4 := s5.cell 4 _ rfl
      have HE : Hid (Q (.returned (.agg #[.int .u64 (D : Int), .int .u64 (U : Int), .slice na i nc, .slice da i dc, .slice ta i tc])) _) := HFIN.out wr ((((wr.setCell ⟨X + 1, 0, none⟩ (.int .u64 (D : Int))).setCell ⟨X + 1, 1, none⟩ (.int .u64 (U : Int))).setCell ⟨X + 1, 2, none⟩ (.slice na i nc)).setCell ⟨X + 1, 3, none⟩ (.slice da i dc) |>.setCell ⟨X + 1, 4, none⟩ (.slice ta i tc)) _ _ _ hJ (by (repeat (first | with_reducible exact Below.refl _ _ | with_reducible refine Below.setCell ?_ (by first | omega | (simp; omega) | (simp; done)) _ | with_reducible refine Below.alloc ?_ (by first | omega | (simp; omega) | (simp; done)) _ | with_reducible refine below_drewN ?_ _ | with_reducible refine Below.drew ?_))) fun b _ hb => by
        have : b ≠ X + 1 := by have := HRO.out.2; omega
        rw [Below.heap_setCell _ _ _ b this, Below.heap_setCell _ _ _ b this, Below.heap_setCell _ _ _ b this, Below.heap_setCell _ _ _ b this, Below.heap_setCell _ _ _ b this]
      clear hJ hO hR HJ s1 s2 s3 s4 s5 hxb
      go_wp2_with fail
      refine bodyPost_ret (v := .agg #[.int .u64 (D : Int), .int .u64 (U : Int), .slice na i nc, .slice da i dc, .slice ta i tc]) ?_ rfl HE.out
      simp [results, Tryz.results16, go_sem, c0, c1, c2, c3, c4]
theorem ref27_Make {w0 : World} {sv : Value} {s : List Mes} (hS : SchemaAt w0 sv s) : ∀ d, RShOk w0 sv s d
  | 0 => fun _ _ _ _ _ _ h _ _ => h.elim
  | d + 1 => ref27_Make_step hS d (ref27_Make hS d)
end Go.Proofs.YtbcpeckmnmhfhaaGreat
