/- darningref15.Part: what a mask keeps, or leaves, of a right meaning (partM). Meanings of at most 2^40 things. -/
import Derived.Test.YtaefpjecalnbcaaGreatZ06
import Derived.Test.YtaefpjecalnbcaaGreatZ13
import Derived.Test.YtaefpjecalnbcaaGreatZ16
import Derived.Test.YtaefpjecalnbcaaGreatZ23
import Derived.Test.YtaefpjecalnbcaaGreatZ25
import Derived.Test.YtaefpjecalnbcaaGreatZ30
import Derived.StillTailTactics
import Derived.Deep.RegionHeld3
import Derived.Deep.CutBlock
import Derived.Deep.CutRange
namespace Go.Proofs.YtaefpjecalnbcaaGreat
open Go.RowKit Go.Shelf
def RPartOk (w0 : World) (sv : Value) (s : List Mes) (keep : Bool) (d : Nat) : Prop := ∀ (m : Nat) (w : World) (v mv : Value) (x : M d) (ws : List (List Int)), m < s.length → Below w0.heap.size w0 w → MsgAt d w0 v x → WaysAt w mv ws → LightW ws → rightB s d (m : Int) x = true → mwt d x ≤ 1099511627776 →
  Calls Tryz.prog 16 #[sv, .int .i64 (m : Int), v, mv, .bool keep] w fun e w' => ∃ v', e = .returned v' ∧ Below w.heap.size w w' ∧ Apart w0.heap.size w.heap.size w' fun w2 => MsgAt d w2 v' (partM s keep d m ws x)
set_option maxRecDepth 100000 in
set_option maxHeartbeats 8000000 in
theorem ref15_Part_step {w0 : World} {sv : Value} {s : List Mes} (hS0 : SchemaAt w0 sv s) (keep : Bool) (d : Nat) (hrec : RPartOk w0 sv s keep d) : RPartOk w0 sv s keep (d + 1) := by
  intro m w v mv x ws hm hw hx hM hL hr hwt
  have HWT := hid hwt
  have HRE := hid hrec
  obtain ⟨fs, HFS⟩ : ∃ fs, Hid (fs = (s.getD m .zero).fields) := ⟨_, rfl⟩
  obtain ⟨-, sa, sc, rfl, hat⟩ := hS0.open
  obtain ⟨sn, HSN⟩ : ∃ n, Hid (n = s.length) := ⟨_, rfl⟩
  obtain ⟨sb, so, fv, hsa, -, c0, c1, hF⟩ := hat m hm
  subst hsa
  rw [← HFS.out] at hF
  obtain ⟨nm, HNM⟩ : ∃ nm, Hid (nm = (s.getD m .zero).name) := ⟨_, rfl⟩
  rw [← HNM.out] at c0
  obtain ⟨vv, uv, rfl, hV, hU⟩ := hx
  obtain ⟨-, va, vc, rfl, -, hva⟩ := hV.open
  obtain ⟨-, ua, uc, huv, -, -⟩ := hU.open
  obtain ⟨-, ma, mc, rfl, -, -⟩ := hM.open
  obtain ⟨hfl, fa, fc, rfl, hfat⟩ := hF.open
  have hok : ValsOk (fitsB (rightB s d)) fs (M.vals x) := by
    unfold rightB at hr
    by_cases h0 : (m : Int) < 0 ∨ (s.length : Int) ≤ (m : Int)
    · rw [if_pos h0] at hr; cases hr
    · rw [if_neg h0, Bool.and_eq_true, Int.toNat_natCast, ← HFS.out] at hr
      exact (valsOk_of hr.1).1
  have HOK := hid hok
  obtain ⟨un, HUN⟩ : ∃ n, Hid (n = (M.unk x).length) := ⟨_, rfl⟩
  obtain ⟨vn, HVN⟩ : ∃ n, Hid (n = (M.vals x).length) := ⟨_, rfl⟩
  obtain ⟨mn, HMN⟩ : ∃ n, Hid (n = ws.length) := ⟨_, rfl⟩
  obtain ⟨fn, HFN⟩ : ∃ n, Hid (n = fs.length) := ⟨_, rfl⟩
  rw [← HUN.out] at huv
  subst huv
  rw [← HSN.out] at hS0 HRE hm ⊢
  rw [← HVN.out] at hV ⊢
  rw [← HMN.out] at hM ⊢
  rw [← HFN.out] at hF c1 hfat hfl
  have hvn : vn ≤ 1099511627776 := by rw [HVN.out]; exact (unk_len x hwt).2
  obtain ⟨kp, HKP⟩ : ∃ kp, Hid (kp = keep) := ⟨_, rfl⟩
  obtain ⟨P, HP⟩ : ∃ P : Val (M d) → List (Val (M d)), Hid (P = pval (fun o u y => partM s kp d o.toNat u y) fs kp ws) := ⟨_, rfl⟩
  obtain ⟨Q, HQ⟩ : ∃ Q : Ending → World → Prop, Hid (Q = fun e w' => ∃ v', e = .returned v' ∧ Below w.heap.size w w' ∧ Apart w0.heap.size w.heap.size w' fun w2 => MsgAt (d + 1) w2 v' (partM s keep (d + 1) m ws x)) := ⟨_, rfl⟩
  rw [← HQ.out]
  have HQ' := HQ
  obtain ⟨X, HX⟩ : ∃ X, Hid (X = w.heap.size) := ⟨_, rfl⟩
  have HS0 := hid hS0
  have HHW := hid hw
  have HML := hid (And.intro hM hL)
  have HVA := hid hva
  have HC01 := hid (And.intro c0 c1)
  have HFT := hid (And.intro hF hfat)
  have HUU := hid hU
  clear hS0 hw hM hL hva hat c0 c1 hF hU hV hr hok hfat hrec hwt HQ
  obtain ⟨uw, HUW⟩ : ∃ uw, Hid (uw = if keep = true then Value.slice none 0 0 else .slice ua un uc) := ⟨_, rfl⟩
  have h3 := news3 w [.slice va vn vc, .slice ua un uc] [.slice none 0 0, .slice none 0 0] [.slice none 0 0, uw] 35 35 35
  obtain ⟨W1, HW1⟩ : ∃ W1, Hid (W1 = ((w.alloc (.cells #[.slice va vn vc, .slice ua un uc] 35)).alloc (.cells #[.slice none 0 0, .slice none 0 0] 35)).alloc (.cells #[.slice none 0 0, uw] 35)) := ⟨_, rfl⟩
  rw [← HW1.out, ← HX.out] at h3
  obtain ⟨hx1, hr1, ho1, hz1, hb1⟩ := h3
  have HX1 := hid hx1
  have HR1 := hid hr1
  have HO1 : Hid (OutB (ValP' d) 71 4 w0.heap.size 35 (X + 1 + 1) [] [uw] W1 W1 (.slice none 0 0) []) := OutB.start ho1
  have HB1 := hid hb1
  have HN0 : Hid (w0.heap.size ≤ X) := by rw [HX.out]; exact HHW.out.size
  have HBW : Hid (∀ wr, Below (X + 1 + 1) W1 wr → Below X w wr) := fun wr h => HB1.out.trans (h.mono (by omega))
  clear hx1 hr1 ho1 hz1 hb1
  have HZL : Hid (∀ k : Nat, k ≤ vn → ((M.vals x).take k).length = k) := fun k hk => by rw [List.length_take, ← HVN.out]; omega
  have HFIN : Hid (∀ (W : World) (v' : Value) (o : List (Val (M d))), o = (M.vals x).flatMap P → o.length ≤ 1099511627776 → OutB (ValP' d) 71 4 w0.heap.size 35 (X + 1 + 1) [] [uw] W1 W v' o → Q (.returned (.agg #[v', uw])) ((W.setCell ⟨X + 1, 0, none⟩ v').setCell ⟨X + 1, 1, none⟩ uw)) := by
    intro W v' o ho hol hO
    have hB : Below X w ((W.setCell ⟨X + 1, 0, none⟩ v').setCell ⟨X + 1, 1, none⟩ uw) := ((HBW.out W hO.below).setCell (by show X ≤ X + 1; omega) _).setCell (by show X ≤ X + 1; omega) _
    rw [HQ'.out]
    refine ⟨_, rfl, by rw [← HX.out]; exact hB, fun w2 hw2 => ?_⟩
    rw [← HX.out] at hw2
    have hag : ∀ b, b < W.heap.size → (b < w0.heap.size ∨ X + 1 + 1 + 1 ≤ b) → w2.heap[b]? = W.heap[b]? := by
      intro b hlt hc
      have hne : b ≠ X + 1 := by have := HN0.out; omega
      refine (hw2 b (by simpa using hlt) (hc.imp id fun h => by omega)).trans ?_
      rw [Below.heap_setCell _ _ _ b hne, Below.heap_setCell _ _ _ b hne]
    refine ⟨v', uw, rfl, ?_, ?_⟩
    · have h := hO.at (by omega) hag
      rw [ho, HP.out] at h
      rw [HKP.out, HFS.out] at h
      exact h
    · rw [HUW.out]
      show StrsAt w2 _ (if keep = true then [] else M.unk x)
      cases keep with
      | true => exact strs_none w2
      | false => exact HUU.out.keep (keep_apart rfl (HHW.out.trans ((HBW.out W hO.below).mono HN0.out)) hag)
  cases keep
  all_goals
    have huw := HUW.out
    simp only [if_true, reduceCtorEq, if_false] at huw
    rw [huw] at HW1
    go_enter Tryz.func16, Tryz.ntmps16
    go_wp2_with fail
    rw [← HW1.out, ← HX.out]
    obtain ⟨za, zn, zc, HZW⟩ : ∃ a n c, Hid (uw = .slice a n c) := ⟨_, _, _, huw⟩
    clear huw HUW
    go_loopw [12] (fun v12 wr => ∃ (i : Nat) (o : List (Val (M d))) (oa : Option Addr) (oc : Nat) (on : Nat), v12 = .int .i64 (i : Int) ∧ i ≤ vn ∧ on ≤ i ∧ Hid (OutB (ValP' d) 71 4 w0.heap.size 35 (X + 1 + 1) [] [uw] W1 wr (.slice oa on oc) o ∧ o.length = on ∧ o ++ ((M.vals x).drop i).flatMap P = (M.vals x).flatMap P)) (fun v12 _ => vn - (intOf v12).toNat)
    case atStart => exact ⟨0, [], none, 0, 0, rfl, by omega, by omega, HO1.out, rfl, rfl⟩
    case round =>
      obtain ⟨i, o, oa, oc, on, rfl, hi, hon, HJ⟩ := hrel
      have hX1 : Blk wr X [.slice va vn vc, .slice ua un uc] 35 := (HJ.out.1.below.block X (by omega)).trans HX1.out
      have hXl := hX1.lt
      have x0 := hX1.cell 0 _ rfl
      by_cases hlt : i < vn
      · obtain ⟨v, hv⟩ : ∃ v, (M.vals x)[i]? = some v := ⟨_, List.getElem?_eq_getElem (by rw [← HVN.out]; exact hlt)⟩
        have HBW0 := hid (HBW.out wr HJ.out.1.below)
        have HB0 := hid (HHW.out.trans ((HBW0.out.mono (Nat.le_of_eq HX.out.symm)).mono HHW.out.size))
        obtain ⟨b, o', v1, v2, v3, ha, g0, g1, g2, g3, hM⟩ := HVA.out i v hv
        obtain ⟨num, a1, n1, q1, a2, n2, q2, a3, n3, q3, hform⟩ := hM.form
        obtain ⟨rfl, rfl, rfl⟩ : v1 = .slice a1 n1 q1 ∧ v2 = .slice a2 n2 q2 ∧ v3 = .slice a3 n3 q3 := by cases hform; exact ⟨rfl, rfl, rfl⟩
        have hnum : v.num = num := by cases hform; rfl
        rw [hnum] at g0 hM
        clear hform
        have hkr := below_keeps HB0.out
        replace g0 := hkr _ _ g0
        replace g1 := hkr _ _ g1
        replace g2 := hkr _ _ g2
        replace g3 := hkr _ _ g3
        have HV := hid hv
        have HMV := hid hM
        obtain ⟨hq0, hq1, hqn, hqF⟩ := HOK.out.at' v (List.mem_of_getElem? hv)
        unfold qOf at hq0 hq1 hqn hqF
        rw [hnum] at hq0 hq1 hqn hqF
        obtain ⟨q, hq⟩ : ∃ q : Nat, fieldAt fs num = q := ⟨(fieldAt fs num).toNat, by omega⟩
        rw [hq, Int.toNat_natCast] at hqn hqF
        rw [hq] at hq1
        have hqlt : q < fn := by rw [HFN.out]; omega
        obtain ⟨f, HF⟩ : ∃ f, Hid (f = fs.getD q .zero) := ⟨_, rfl⟩
        rw [← HF.out] at hqn hqF
        have HQF := hid (And.intro hqn hqF)
        have HNUM := hid (And.intro hnum hq)
        have hix := index_run Tryz.underlying33 size_rval' ha i hlt (cap := vc)
        have hbl := World.block_lt_of_cell? wr _ g0
        obtain ⟨B, HBB⟩ : ∃ B, Hid (B = wr.heap.size) := ⟨_, rfl⟩
        obtain ⟨W6, HW6⟩ : ∃ W6, Hid (W6 = wr.alloc (.cells #[.int .i64 num, .slice a1 n1 q1, .slice a2 n2 q2, .slice a3 n3 q3] 71)) := ⟨_, rfl⟩
        have hb6 : Below wr.heap.size wr W6 := by rw [HW6.out]; exact (Below.refl _ _).alloc (Nat.le_refl _) _
        have hv6 : Blk W6 B [.int .i64 num, .slice a1 n1 q1, .slice a2 n2 q2, .slice a3 n3 q3] 71 := by rw [HW6.out, HBB.out]; exact Blk.new wr [.int .i64 num, .slice a1 n1 q1, .slice a2 n2 q2, .slice a3 n3 q3] _
        have HB6 := hid hb6
        have HV6 := hid hv6
        have HB06 := hid (HB0.out.trans (hb6.mono HB0.out.size))
        clear hv hM hkr hnum hq0 hq1 hqn hqF hb6 hv6 ha
        go_upto_region 8 with fail
        rw [← HW6.out, ← HBB.out]
        clear g0 g1 g2 g3 hix hbl x0 hXl hX1
        have d0 := HV6.out.cell 0 _ rfl
        have dl := HV6.out.lt
        obtain ⟨fb, fo, hfb, hfok, f0, f1, f2, f3, f4, f5⟩ := HFT.out.2 q hqlt
        subst hfb
        rw [← HF.out] at f0 f1 f2 f3 f4 f5 hfok
        have hk6 := below_keeps HB06.out
        replace f0 := hk6 _ _ f0
        replace f1 := hk6 _ _ f1
        replace f2 := hk6 _ _ f2
        replace f3 := hk6 _ _ f3
        replace f4 := hk6 _ _ f4
        replace f5 := hk6 _ _ f5
        have c0 := hk6 _ _ HC01.out.1
        have c1 := hk6 _ _ HC01.out.2
        have hixf := index_run Tryz.underlying60 size_fld rfl q hqlt (a := some ⟨fb, fo, none⟩) (cap := fc)
        have hixs := index_run Tryz.underlying23 size_mes rfl m hm (a := some ⟨sb, so, none⟩) (cap := sc)
        have hgl := World.block_lt_of_cell? W6 _ f0
        have hsl6 := World.block_lt_of_cell? W6 _ c1
        have HFD : Hid (∀ W, Below W6.heap.size W6 W → Calls Tryz.prog 33 #[.agg #[.string nm, .slice (some ⟨fb, fo, none⟩) fn fc], .int .i64 num] W fun e w' => e = .returned (.int .i64 (q : Int)) ∧ Below W.heap.size W w') := fun W hW => by
          have := ref07_Field ((HFT.out.1.below HB06.out).below hW) nm num
          rwa [HNUM.out.2] at this
        have q0 : W6.drew.cell? ⟨sb, so + m * 2, none⟩ = some (.string nm) ∧ W6.drew.cell? ⟨sb, so + m * 2 + 1, none⟩ = some (.slice (some ⟨fb, fo, none⟩) fn fc) ∧ W6.drew.cell? ⟨B, 0, none⟩ = some (.int .i64 num) ∧ W6.drew.cell? ⟨fb, fo + q * 6, none⟩ = some (.string f.name) ∧ W6.drew.cell? ⟨fb, fo + q * 6 + 1, none⟩ = some (.int .i64 f.number) ∧ W6.drew.cell? ⟨fb, fo + q * 6 + 2, none⟩ = some (.int .i64 f.kind) ∧ W6.drew.cell? ⟨fb, fo + q * 6 + 3, none⟩ = some (.bool f.rep) ∧ W6.drew.cell? ⟨fb, fo + q * 6 + 4, none⟩ = some (.bool f.packed) ∧ W6.drew.cell? ⟨fb, fo + q * 6 + 5, none⟩ = some (.int .i64 f.of) := ⟨c0, c1, d0, f0, f1, f2, f3, f4, f5⟩
        have hz6 : Blk (W6.alloc (.cells #[.string ⟨#[]⟩, .int .i64 0, .int .i64 0, .bool false, .bool false, .int .i64 0] 59)).drew W6.heap.size [.string ⟨#[]⟩, .int .i64 0, .int .i64 0, .bool false, .bool false, .int .i64 0] 59 := Blk.new W6 [.string ⟨#[]⟩, .int .i64 0, .int .i64 0, .bool false, .bool false, .int .i64 0] _
        have hbz : Below W6.heap.size W6 (W6.alloc (.cells #[.string ⟨#[]⟩, .int .i64 0, .int .i64 0, .bool false, .bool false, .int .i64 0] 59)).drew := ((Below.refl _ _).alloc (Nat.le_refl _) _).drew
        have HZ6 := hid (And.intro hz6 hbz)
        clear hz6 hbz
        have HD6 := hid ((Below.refl W6.heap.size W6).drew)
        go_cut [14] from 35 to 48 (fun s14 wx => ∃ FB : Nat, s14 = .pointer (some ⟨FB, 0, none⟩) ∧ Hid (Below W6.heap.size W6 wx ∧ W6.heap.size ≤ FB ∧ Blk wx FB f.cells 59))
        case first =>
          clear HJ HVA HOK HWT HUU HX1 HR1 HO1 HB1 HN0 HBW HZL HFIN HV HMV HNUM HB0 HBW0 HML HRE HQF HP HHW HFT HFS HNM HC01 HSN HUN HVN HMN HFN HS0 HX HW1
          go_region_held3 (fun w' => w'.cell? ⟨sb, so + m * 2, none⟩ = some (.string nm) ∧ w'.cell? ⟨sb, so + m * 2 + 1, none⟩ = some (.slice (some ⟨fb, fo, none⟩) fn fc) ∧ w'.cell? ⟨B, 0, none⟩ = some (.int .i64 num) ∧ w'.cell? ⟨fb, fo + q * 6, none⟩ = some (.string f.name) ∧ w'.cell? ⟨fb, fo + q * 6 + 1, none⟩ = some (.int .i64 f.number) ∧ w'.cell? ⟨fb, fo + q * 6 + 2, none⟩ = some (.int .i64 f.kind) ∧ w'.cell? ⟨fb, fo + q * 6 + 3, none⟩ = some (.bool f.rep) ∧ w'.cell? ⟨fb, fo + q * 6 + 4, none⟩ = some (.bool f.packed) ∧ w'.cell? ⟨fb, fo + q * 6 + 5, none⟩ = some (.int .i64 f.of)) (first | (with_reducible exact q0) | (with_reducible exact q1) | go_keep | (refine (fun (hb : Below W6.heap.size W6 _) => ⟨below_keeps hb _ _ q0.1, below_keeps hb _ _ q0.2.1, below_keeps hb _ _ q0.2.2.1, below_keeps hb _ _ q0.2.2.2.1, below_keeps hb _ _ q0.2.2.2.2.1, below_keeps hb _ _ q0.2.2.2.2.2.1, below_keeps hb _ _ q0.2.2.2.2.2.2.1, below_keeps hb _ _ q0.2.2.2.2.2.2.2.1, below_keeps hb _ _ q0.2.2.2.2.2.2.2.2⟩) ?_; (repeat (first | with_reducible exact Below.refl _ _ | with_reducible refine Below.setCell ?_ (by first | omega | (simp; omega) | (simp; done)) _ | with_reducible refine Below.alloc ?_ (by first | omega | (simp; omega) | (simp; done)) _ | with_reducible refine below_drewN ?_ _ | with_reducible refine Below.drew ?_)); exact HB67.out)) (first
            | (go_at_call 33; (with_reducible refine (HFD.out _ HZ6.out.2).mono ?_); rintro e w7 ⟨rfl, hb7⟩; have hb67 := below_step HZ6.out.2 hb7 HZ6.out.2.size; have q1 : w7.cell? ⟨sb, so + m * 2, none⟩ = some (.string nm) ∧ w7.cell? ⟨sb, so + m * 2 + 1, none⟩ = some (.slice (some ⟨fb, fo, none⟩) fn fc) ∧ w7.cell? ⟨B, 0, none⟩ = some (.int .i64 num) ∧ w7.cell? ⟨fb, fo + q * 6, none⟩ = some (.string f.name) ∧ w7.cell? ⟨fb, fo + q * 6 + 1, none⟩ = some (.int .i64 f.number) ∧ w7.cell? ⟨fb, fo + q * 6 + 2, none⟩ = some (.int .i64 f.kind) ∧ w7.cell? ⟨fb, fo + q * 6 + 3, none⟩ = some (.bool f.rep) ∧ w7.cell? ⟨fb, fo + q * 6 + 4, none⟩ = some (.bool f.packed) ∧ w7.cell? ⟨fb, fo + q * 6 + 5, none⟩ = some (.int .i64 f.of) := ⟨below_keeps hb67 _ _ q0.1, below_keeps hb67 _ _ q0.2.1, below_keeps hb67 _ _ q0.2.2.1, below_keeps hb67 _ _ q0.2.2.2.1, below_keeps hb67 _ _ q0.2.2.2.2.1, below_keeps hb67 _ _ q0.2.2.2.2.2.1, below_keeps hb67 _ _ q0.2.2.2.2.2.2.1, below_keeps hb67 _ _ q0.2.2.2.2.2.2.2.1, below_keeps hb67 _ _ q0.2.2.2.2.2.2.2.2⟩; have hz7 := HZ6.out.1.below hb7; have z0 := hz7.cell 0 _ rfl; have z1 := hz7.cell 1 _ rfl; have z2 := hz7.cell 2 _ rfl; have z3 := hz7.cell 3 _ rfl; have z4 := hz7.cell 4 _ rfl; have z5 := hz7.cell 5 _ rfl; have y0 := hz7.free 0; have y1 := hz7.free 1; have y2 := hz7.free 2; have y3 := hz7.free 3; have y4 := hz7.free 4; have y5 := hz7.free 5; have zl := hz7.lt; have HZ7 := hid hz7; have HB67 := hid hb67; clear hz7 hb67 hb7)
            | (go_at_call 33; (with_reducible refine (HFD.out _ HD6.out).mono ?_); rintro e w7 ⟨rfl, hb7⟩; have hb67 := below_step HD6.out hb7 HD6.out.size; have q1 : w7.cell? ⟨sb, so + m * 2, none⟩ = some (.string nm) ∧ w7.cell? ⟨sb, so + m * 2 + 1, none⟩ = some (.slice (some ⟨fb, fo, none⟩) fn fc) ∧ w7.cell? ⟨B, 0, none⟩ = some (.int .i64 num) ∧ w7.cell? ⟨fb, fo + q * 6, none⟩ = some (.string f.name) ∧ w7.cell? ⟨fb, fo + q * 6 + 1, none⟩ = some (.int .i64 f.number) ∧ w7.cell? ⟨fb, fo + q * 6 + 2, none⟩ = some (.int .i64 f.kind) ∧ w7.cell? ⟨fb, fo + q * 6 + 3, none⟩ = some (.bool f.rep) ∧ w7.cell? ⟨fb, fo + q * 6 + 4, none⟩ = some (.bool f.packed) ∧ w7.cell? ⟨fb, fo + q * 6 + 5, none⟩ = some (.int .i64 f.of) := ⟨below_keeps hb67 _ _ q0.1, below_keeps hb67 _ _ q0.2.1, below_keeps hb67 _ _ q0.2.2.1, below_keeps hb67 _ _ q0.2.2.2.1, below_keeps hb67 _ _ q0.2.2.2.2.1, below_keeps hb67 _ _ q0.2.2.2.2.2.1, below_keeps hb67 _ _ q0.2.2.2.2.2.2.1, below_keeps hb67 _ _ q0.2.2.2.2.2.2.2.1, below_keeps hb67 _ _ q0.2.2.2.2.2.2.2.2⟩; have HB67 := hid hb67; clear hb67 hb7))
          · go_wp2_with fail
            go_meet
            case rel => exact ⟨_, rfl, HB67.out.alloc HB67.out.size _, HB67.out.size, Blk.new w7 f.cells _⟩
          · go_wp2_with fail
            go_meet
            case rel =>
              refine ⟨_, rfl, ?_, Nat.le_refl _, ?_⟩
              · (repeat (first | with_reducible exact Below.refl _ _ | with_reducible refine Below.setCell ?_ (by first | omega | (simp; omega) | (simp; done)) _ | with_reducible refine Below.alloc ?_ (by first | omega | (simp; omega) | (simp; done)) _ | with_reducible refine below_drewN ?_ _ | with_reducible refine Below.drew ?_))
                exact HB67.out
              · exact ((((((HZ7.out.set 0 (.string f.name)).set 1 (.int .i64 f.number)).set 2 (.int .i64 f.kind)).set 3 (.bool f.rep)).set 4 (.bool f.packed)).set 5 (.int .i64 f.of))
        case rest =>
          obtain ⟨FB, rfl, HC⟩ := hcut
          have HBc := hid (HB6.out.trans (HC.out.1.mono HB6.out.size))
          have HWc := hid ((HBW0.out.mono (Nat.le_of_eq HX.out.symm)).trans (HBc.out.mono (HX.out ▸ HBW0.out.size)))
          have hVc := HV6.out.below HC.out.1
          have hFc := HC.out.2.2
          clear c0 c1 d0 dl f0 f1 f2 f3 f4 f5 hk6 hixf hixs hgl hsl6 q0 HZ6 HFD hfok
          -- what is known at each world behind
          have HCN : Hid (∀ W, Below wc.heap.size wc W → Blk W B [.int .i64 num, .slice a1 n1 q1, .slice a2 n2 q2, .slice a3 n3 q3] 71 ∧ Blk W FB f.cells 59 ∧ WaysAt W (.slice ma mn mc) ws ∧ Below wr.heap.size wr W ∧ W.cell? ⟨X + 1 + 1, 0, none⟩ = some (.slice oa on oc) ∧ X + 1 + 1 < W.heap.size) := by
            intro W hW
            have h := HBc.out.trans (hW.mono HBc.out.size)
            exact ⟨hVc.below hW, hFc.below hW, HML.out.1.below (HWc.out.trans (hW.mono HWc.out.size)), h, (h.cell (p := ⟨X + 1 + 1, 0, none⟩) HJ.out.1.lt).trans (HJ.out.1.cell 0 _ rfl), Nat.lt_of_lt_of_le HJ.out.1.lt h.size⟩
          have HADD : Hid (∀ W, Below wc.heap.size wc W → ∃ a' c' w5, (Builtin.append_ #[33, 33] 33 #[.slice oa on oc, .slice (some ⟨W.heap.size, 0, none⟩) 1 1]).run Tryz.prog (W.alloc (.cells #[.int .i64 num, .slice a1 n1 q1, .slice a2 n2 q2, .slice a3 n3 q3] 71)) = .ok (.slice a' (on + 1) c') w5 ∧
              (w5.cell? ⟨X + 1 + 1, 0, none⟩ = some (.slice oa on oc) ∧ w5.frozen? ⟨X + 1 + 1, 0, none⟩ = false ∧ X + 1 + 1 < w5.heap.size) ∧
              OutB (ValP' d) 71 4 w0.heap.size 35 (X + 1 + 1) [] [uw] W1 (w5.setCell ⟨X + 1 + 1, 0, none⟩ (.slice a' (on + 1) c')) (.slice a' (on + 1) c') (o ++ [v])) := by
            intro W hW
            have h := (HCN.out W hW).2.2.2.1
            obtain ⟨a', c', w5, h1, -, -, ⟨h4, h6, h7, -⟩, h5⟩ := HJ.out.1.step h (by decide) (by have := HN0.out; omega) HJ.out.2.1 33 _ 80 Tryz.underlying33 info_rval rfl #[.int .i64 num, .slice a1 n1 q1, .slice a2 n2 q2, .slice a3 n3 q3] rfl (by intro u hu; simp at hu; rcases hu with rfl | rfl | rfl | rfl <;> rfl) v (fun w' hw' => VMsg.keep HMV.out (keep_apart rfl (HB0.out.trans (h.mono HB0.out.size)) hw')) (by omega) (by decide) 0 rfl
            exact ⟨a', c', w5, h1, ⟨h4, h6, h7⟩, h5⟩
          obtain ⟨U, HUU2⟩ : ∃ U, Hid (U = underW ws num) := ⟨_, rfl⟩
          obtain ⟨y, HY⟩ : ∃ y, Hid (y = ws.any (wholeW num)) := ⟨_, rfl⟩
          have HPV : Hid (P v = if y = false ∧ U ≠ [] ∧ f.kind = 17 ∧ f.rep = false then [⟨num, [], [], (v.subs.take 1).map (partM s kp d f.of.toNat U)⟩] else if y = kp then [v] else []) := by
            have h := HP.out
            show P v = _
            rw [h]
            unfold pval
            rw [HNUM.out.1, HNUM.out.2, Int.toNat_natCast, ← HF.out, ← HY.out, ← HUU2.out]
          have HREL : Hid (∀ (W : World) (o2 : List (Val (M d))) (oa2 : Option Addr) (oc2 on2 : Nat), on2 ≤ i + 1 → o2 = o ++ P v → OutB (ValP' d) 71 4 w0.heap.size 35 (X + 1 + 1) [] [uw] W1 W (.slice oa2 on2 oc2) o2 → Hid (OutB (ValP' d) 71 4 w0.heap.size 35 (X + 1 + 1) [] [uw] W1 W (.slice oa2 on2 oc2) o2 ∧ o2.length = on2 ∧ o2 ++ ((M.vals x).drop (i + 1)).flatMap P = (M.vals x).flatMap P)) := by
            intro W o2 oa2 oc2 on2 _ ho hO
            refine ⟨hO, ?_, by rw [ho, List.append_assoc, ← drop_step HV.out, HJ.out.2.2]⟩
            obtain ⟨a, c, h⟩ := hO.form
            injection h with h1 h2 h3
            exact h2.symm
          have HUW3 : Hid (∀ W, Below wc.heap.size wc W → Calls Tryz.prog 34 #[.slice ma mn mc, .int .i64 num] W fun e w' => ∃ v', e = .returned v' ∧ WaysAt w' v' U ∧ Below W.heap.size W w') := fun W hW => by rw [HUU2.out]; exact ref13_Under (HCN.out W hW).2.2.1 HML.out.2 num
          have HWH : Hid (∀ W, Below wc.heap.size wc W → Calls Tryz.prog 35 #[.slice ma mn mc, .int .i64 num] W fun e w' => e = .returned (.bool y) ∧ Drew W w') := fun W hW => by rw [HY.out]; exact ref13_Whole (HCN.out W hW).2.2.1 num
          have hVW := HCN.out wc (Below.refl _ _)
          have d0 := hVW.1.cell 0 _ rfl
          have dl := hVW.1.lt
          clear hVW hVc hFc
          have HQF' := hid HQF.out.2
          have HGE : Hid (wr.heap.size ≤ B ∧ wr.heap.size ≤ FB) := ⟨by rw [HBB.out]; exact Nat.le_refl _, Nat.le_trans HB6.out.size HC.out.2.1⟩
          have HSTAT := hid (And.intro HHW (And.intro HML (And.intro HRE (And.intro HMV.out (And.intro HN0.out (And.intro HB0.out (And.intro HJ (And.intro HQF (And.intro HWT.out HV.out)))))))))
          clear HVA HOK HWT HUU HX1 HR1 HO1 HB1 HBW HZL HFIN HML HRE HQF HP HHW HFT HFS HNM HC01 HSN HUN HVN HMN HFN HS0 HX HW1 HV HMV HNUM HB0 HBW0 HN0 HJ HB6 HV6 HB06 HC HBc HWc HW6 HBB
          go_wp2_with fail
          refine (HUW3.out _ (Below.refl _ _)).mono ?_
          rintro e w9 ⟨v9, rfl, hU9, hb9⟩
          obtain ⟨-, ka, kc, rfl, -, -⟩ := hU9.open
          obtain ⟨kn, HKN⟩ : ∃ n, Hid (n = U.length) := ⟨_, rfl⟩
          rw [← HKN.out] at hU9 ⊢
          have hc := HCN.out w9 hb9
          have d0 := hc.1.cell 0 _ rfl
          have dl := hc.1.lt
          have HU9 := hid hU9
          have HB9 := hid hb9
          clear hU9 hb9 hc
          go_wp2_with fail
          refine (HWH.out _ HB9.out).mono ?_
          rintro e w10 ⟨rfl, hd10⟩
          have HB10 := hid (HB9.out.trans (hd10.below.mono HB9.out.size))
          have HU10 := hid (HU9.out.below hd10.below)
          have hc := HCN.out w10 HB10.out
          have d0 := hc.1.cell 0 _ rfl
          have d1 := hc.1.cell 1 _ rfl
          have d2 := hc.1.cell 2 _ rfl
          have d3 := hc.1.cell 3 _ rfl
          have dl := hc.1.lt
          have e2 := hc.2.1.cell 2 _ rfl
          have e3 := hc.2.1.cell 3 _ rfl
          have e5 := hc.2.1.cell 5 _ rfl
          have el := hc.2.1.lt
          have x0 := hc.2.2.2.2.1
          have xl := hc.2.2.2.2.2
          clear hd10 hc HUW3 HWH HU9 HB9
          have HO10 := hid (HSTAT.out.2.2.2.2.2.2.1.out.1.later (HCN.out w10 HB10.out).2.2.2.1)
          by_cases hcs : y = false ∧ 0 < kn ∧ f.kind = 17 ∧ f.rep = false
          · obtain ⟨rfl, hk0, h17, hrp⟩ := hcs
            obtain ⟨sy, hsy, hry⟩ := fits_sub HQF'.out h17 hrp
            obtain ⟨r, hr, hrs⟩ := right_range hry
            rw [hr] at hry
            have hUne : U ≠ [] := by
              intro h
              have := HKN.out
              rw [h] at this
              simp at this
              omega
            have HPW : Hid (P v = [⟨num, [], [], [partM s kp d r U sy]⟩]) := by
              rw [Hid, HPV.out, if_pos ⟨rfl, hUne, h17, hrp⟩, hsy, hr]; rfl
            have hM := HSTAT.out.2.2.2.1
            obtain ⟨wv, tv, sv', hve, hnb, -, -, hSU⟩ := hM
            obtain ⟨hn3, -, hSU3⟩ : Value.slice a3 n3 q3 = sv' ∧ True ∧ True := by cases hve; exact ⟨rfl, trivial, trivial⟩
            have hvnum : v.num = num := by cases hve; rfl
            rw [hvnum] at hnb
            clear hvnum
            subst hn3
            obtain ⟨-, ga, gcc, hge, -, hgat⟩ := hSU.open
            obtain ⟨gb, go, u1, u2, hga, gg0, gg1, hMs⟩ := hgat 0 sy (by rw [hsy]; rfl)
            rw [hsy] at hge
            obtain ⟨rfl, rfl, rfl⟩ : a3 = ga ∧ n3 = 1 ∧ q3 = gcc := by injection hge with h1 h2 h3; exact ⟨h1, h2, h3⟩
            subst hga
            rw [Nat.zero_mul, Nat.add_zero] at gg0 gg1
            obtain ⟨s1, s1n, s1c, s2, s2n, s2c, hse⟩ := hMs.form
            obtain ⟨rfl, rfl⟩ : u1 = .slice s1 s1n s1c ∧ u2 = .slice s2 s2n s2c := by cases hse; exact ⟨rfl, rfl⟩
            have hB0 : Below w0.heap.size w0 w10 := HSTAT.out.2.2.2.2.2.1.trans ((HCN.out w10 HB10.out).2.2.2.1.mono HSTAT.out.2.2.2.2.2.1.size)
            have g0 := below_keeps hB0 _ _ gg0
            have g1 := below_keeps hB0 _ _ gg1
            have gl := World.block_lt_of_cell? w10 _ g0
            have hwts : mwt d sy ≤ 1099511627776 := by
              have h1 := mem_sum_le (vwt (mwt d)) (M.vals x) v (List.mem_of_getElem? HSTAT.out.2.2.2.2.2.2.2.2.2)
              have h2 : 1 + twt (M.unk x) + ((M.vals x).map (vwt (mwt d))).sum ≤ 1099511627776 := HSTAT.out.2.2.2.2.2.2.2.2.1
              have h3 : mwt d sy ≤ vwt (mwt d) v := by unfold vwt; rw [hsy, List.map_cons, List.map_nil, List.sum_cons, List.sum_nil]; omega
              omega
            have HREC : Hid (∀ W, Below w10.heap.size w10 W → Calls Tryz.prog 16 #[.slice (some ⟨sb, so, none⟩) sn sc, .int .i64 (r : Int), .agg #[.slice s1 s1n s1c, .slice s2 s2n s2c], .slice ka kn kc, .bool kp] W fun e w' => ∃ v', e = .returned v' ∧ Below W.heap.size W w' ∧ Apart w0.heap.size W.heap.size w' fun w2 => MsgAt d w2 v' (partM s kp d r U sy)) := by
              intro W hW
              rw [HKP.out]
              exact HSTAT.out.2.2.1.out r W _ _ sy U hrs (hB0.trans (hW.mono hB0.size)) hMs (HU10.out.below hW) (by rw [HUU2.out]; exact underW_light HSTAT.out.2.1.out.2 num) hry hwts
            have HADD2 : Hid (∀ (w11 : World) (p1 p2 : Option Addr) (p1n p1c p2n p2c : Nat), Below w10.heap.size w10 w11 → (Apart w0.heap.size w10.heap.size w11 fun w2 => MsgAt d w2 (.agg #[.slice p1 p1n p1c, .slice p2 p2n p2c]) (partM s kp d r U sy)) → ∃ a' c' w5, (Builtin.append_ #[33, 33] 33 #[.slice oa on oc, .slice (some ⟨w11.heap.size + 1, 0, none⟩) 1 1]).run Tryz.prog ((w11.alloc (.cells #[.slice p1 p1n p1c, .slice p2 p2n p2c] 35)).alloc (.cells #[.int .i64 num, .slice none 0 0, .slice none 0 0, .slice (some ⟨w11.heap.size, 0, none⟩) 1 1] 71)) = .ok (.slice a' (on + 1) c') w5 ∧
                (w5.cell? ⟨X + 1 + 1, 0, none⟩ = some (.slice oa on oc) ∧ w5.frozen? ⟨X + 1 + 1, 0, none⟩ = false ∧ X + 1 + 1 < w5.heap.size) ∧
                Kept (X + 1 + 1 + 1) wr.heap.size w10.drew w5 ∧
                OutB (ValP' d) 71 4 w0.heap.size 35 (X + 1 + 1) [] [uw] W1 (w5.setCell ⟨X + 1 + 1, 0, none⟩ (.slice a' (on + 1) c')) (.slice a' (on + 1) c') (o ++ [⟨num, [], [], [partM s kp d r U sy]⟩])) := by
              intro w11 p1 p2 p1n p1c p2n p2c hb11 hap
              have h := (HCN.out w10 HB10.out).2.2.2.1
              have h11 : Below wr.heap.size wr w11 := h.trans (hb11.mono h.size)
              have hal : Below w11.heap.size w11 (w11.alloc (.cells #[.slice p1 p1n p1c, .slice p2 p2n p2c] 35)) := (Below.refl _ _).alloc (Nat.le_refl _) _
              have hsz : wr.heap.size ≤ w11.heap.size := h11.size
              have hP : Apart w0.heap.size wr.heap.size (w11.alloc (.cells #[.slice p1 p1n p1c, .slice p2 p2n p2c] 35)) fun w' => ValP' d w' [.int .i64 num, .slice none 0 0, .slice none 0 0, .slice (some ⟨w11.heap.size, 0, none⟩) 1 1] ⟨num, [], [], [partM s kp d r U sy]⟩ := by
                intro w' hw'
                refine val_one hnb (T := 35) (c1 := .slice p1 p1n p1c) (c2 := .slice p2 p2n p2c) ((hw' w11.heap.size (by simp) (.inr hsz)).trans (Blk.new w11 [.slice p1 p1n p1c, .slice p2 p2n p2c] _)) ?_
                refine hap w' fun b hlt hc => ?_
                have hwz : wr.heap.size ≤ w10.heap.size := h.size
                exact (hw' b (by simp; omega) (hc.imp id fun h => by omega)).trans (hal.block b hlt)
              obtain ⟨a', c', w5, h1, -, -, ⟨h4, h6, h7, hkp⟩, h5⟩ := HSTAT.out.2.2.2.2.2.2.1.out.1.step (w1 := w11.alloc (.cells #[.slice p1 p1n p1c, .slice p2 p2n p2c] 35)) (h11.trans (hal.mono hsz)) (by decide) (by have := HSTAT.out.2.2.2.2.1; omega) HSTAT.out.2.2.2.2.2.2.1.out.2.1 33 _ 80 Tryz.underlying33 info_rval rfl #[.int .i64 num, .slice none 0 0, .slice none 0 0, .slice (some ⟨w11.heap.size, 0, none⟩) 1 1] rfl (by intro u hu; simp at hu; rcases hu with rfl | rfl | rfl | rfl <;> rfl) ⟨num, [], [], [partM s kp d r U sy]⟩ hP (by omega) (by decide) 0 rfl
              rw [show (w11.alloc (.cells #[.slice p1 p1n p1c, .slice p2 p2n p2c] 35)).heap.size = w11.heap.size + 1 by simp] at h1
              refine ⟨a', c', w5, h1, ⟨h4, h6, h7⟩, fun b hl hc => ?_, h5⟩
              have hl' : b < w10.heap.size := hl
              have hl11 := hb11.size
              rw [hkp b (by simp; omega) hc, Below.heap_alloc _ _ b (by simp; omega), Below.heap_alloc _ _ b (by omega), hb11.block b hl']
              rfl
            rw [h17] at e2
            rw [hrp] at e3
            rw [hr] at e5
            have hix0 : ∀ W, (Instr.indexAt 43 (.slice (some ⟨gb, go, none⟩) 1 q3) (.int .i64 0)).run Tryz.prog W = .ok (.pointer (some ⟨gb, go, none⟩)) W := by
              intro W
              have := index_run Tryz.underlying43 size_rmsg' (a := some ⟨gb, go, none⟩) rfl 0 (by decide : 0 < 1) W (cap := q3)
              simpa using this
            have e5' : decide (0 < kn) = true := decide_eq_true hk0
            have HD10 := hid ((Below.refl w10.heap.size w10).drew)
            have hgb : gb < X + 1 + 1 + 1 := by
              have h1 : gb < w0.heap.size := World.block_lt_of_cell? w0 _ gg0
              have := HSTAT.out.2.2.2.2.1
              omega
            have hge1 := HGE.out
            obtain ⟨SS, HSS⟩ : ∃ SS, Hid (SS = Kept (X + 1 + 1 + 1) wr.heap.size w10.drew) := ⟨_, rfl⟩
            have HKF : Hid (∀ V, SS V → (V.cell? ⟨X + 1 + 1, 0, none⟩ = some (.slice oa on oc) ∧ V.cell? ⟨B, 0, none⟩ = some (.int .i64 num) ∧ V.cell? ⟨B, 3, none⟩ = some (.slice (some ⟨gb, go, none⟩) 1 q3) ∧ V.cell? ⟨FB, 5, none⟩ = some (.int .i64 (r : Int)) ∧ V.cell? ⟨gb, go, none⟩ = some (.slice s1 s1n s1c) ∧ V.cell? ⟨gb, go + 1, none⟩ = some (.slice s2 s2n s2c))) := by
              intro V hV
              rw [HSS.out] at hV
              exact ⟨hV.cell (.inl (by omega)) x0, hV.cell (.inr hge1.1) d0, hV.cell (.inr hge1.1) d3, hV.cell (.inr hge1.2) e5, hV.cell (.inl hgb) g0, hV.cell (.inl hgb) g1⟩
            have HS0 : Hid (SS w10.drew) := by rw [HSS.out]; exact Kept.refl _ _ _
            have HS1 : Hid (∀ w11, Below w10.drew.heap.size w10.drew w11 → SS w11) := fun w11 h => by rw [HSS.out]; exact kept_below h
            have HS2 : Hid (∀ w11 o, Below w10.drew.heap.size w10.drew w11 → SS (w11.alloc o)) := fun w11 o h => by rw [HSS.out]; exact kept_below (h.alloc h.size o)
            have HS3 : Hid (∀ w11 o o', Below w10.drew.heap.size w10.drew w11 → SS ((w11.alloc o).alloc o')) := fun w11 o o' h => by rw [HSS.out]; exact kept_below ((h.alloc h.size o).alloc (Nat.le_trans h.size (by simp)) o')
            rw [← HSS.out] at HADD2
            have hs0 := HS0.out
            have hkp := HKP.out
            clear HPV HADD HCN HSTAT HU10 HB10 HKN HUU2 HF HKP HO10 hsy hry hr hrs hUne hve hnb hSU hSU3 hge hgat gg0 gg1 hMs hse hB0 hwts h17 hrp HQF'
            subst hkp
            go_upto_region 12 with fail
            clear x0 d0 d1 d2 d3 e2 e3 e5 g0 g1 gl el dl hge1 hgb
            refine wp_region_E 19 SS (by kernel_rfl) ?_
            refine wpAnyE_take (i := 0) (oi := ⟨some 74, _, _, _, _, _⟩) (v := ?_) rfl (by kernel_rfl) (by kernel_rfl) (by kernel_rfl) (by kernel_rfl) (fun _ _ _ h => h) hs0 (Or.inl ⟨by rfl, ?_⟩) ?_
            rotate_left
            · (intro V hV; obtain ⟨k1, k2, k3, k4, k5, k6⟩ := HKF.out V hV; go_simp; (try with_reducible rfl))
            simp only [Act.put, List.setIfInBounds_toArray, List.set_cons_zero, List.set_cons_succ]
            refine wpAnyE_take (i := 1) (oi := ⟨some 75, _, _, _, _, _⟩) (v := ?_) rfl (by kernel_rfl) (by kernel_rfl) (by kernel_rfl) (by kernel_rfl) (fun _ _ _ h => h) hs0 (Or.inl ⟨by rfl, ?_⟩) ?_
            rotate_left
            · (intro V hV; obtain ⟨k1, k2, k3, k4, k5, k6⟩ := HKF.out V hV; go_simp; (try with_reducible rfl))
            simp only [Act.put, List.setIfInBounds_toArray, List.set_cons_zero, List.set_cons_succ]
            refine wpAnyE_take (i := 2) (oi := ⟨some 76, _, _, _, _, _⟩) (v := ?_) rfl (by kernel_rfl) (by kernel_rfl) (by kernel_rfl) (by kernel_rfl) (fun _ _ _ h => h) hs0 (Or.inl ⟨by rfl, ?_⟩) ?_
            rotate_left
            · (intro V hV; obtain ⟨k1, k2, k3, k4, k5, k6⟩ := HKF.out V hV; go_simp; (try with_reducible rfl))
            simp only [Act.put, List.setIfInBounds_toArray, List.set_cons_zero, List.set_cons_succ]
            refine wpAnyE_take (i := 3) (oi := ⟨some 77, _, _, _, _, _⟩) (v := ?_) rfl (by kernel_rfl) (by kernel_rfl) (by kernel_rfl) (by kernel_rfl) (fun _ _ _ h => h) hs0 (Or.inl ⟨by rfl, ?_⟩) ?_
            rotate_left
            · (intro V hV; obtain ⟨k1, k2, k3, k4, k5, k6⟩ := HKF.out V hV; go_simp; (try with_reducible rfl))
            simp only [Act.put, List.setIfInBounds_toArray, List.set_cons_zero, List.set_cons_succ]
            refine wpAnyE_take (i := 4) (oi := ⟨some 78, _, _, _, _, _⟩) (v := ?_) rfl (by kernel_rfl) (by kernel_rfl) (by kernel_rfl) (by kernel_rfl) (fun _ _ _ h => h) hs0 (Or.inl ⟨by rfl, ?_⟩) ?_
            rotate_left
            · (intro V hV; obtain ⟨k1, k2, k3, k4, k5, k6⟩ := HKF.out V hV; go_simp; (try with_reducible rfl))
            simp only [Act.put, List.setIfInBounds_toArray, List.set_cons_zero, List.set_cons_succ]
            refine wpAnyE_take (i := 5) (oi := ⟨some 79, _, _, _, _, _⟩) (v := ?_) rfl (by kernel_rfl) (by kernel_rfl) (by kernel_rfl) (by kernel_rfl) (fun _ _ _ h => h) hs0 (Or.inl ⟨by rfl, ?_⟩) ?_
            rotate_left
            · (intro V hV; obtain ⟨k1, k2, k3, k4, k5, k6⟩ := HKF.out V hV; go_simp; (try with_reducible rfl))
            simp only [Act.put, List.setIfInBounds_toArray, List.set_cons_zero, List.set_cons_succ]
            refine wpAnyE_take (i := 6) (oi := ⟨some 80, _, _, _, _, _⟩) (v := ?_) rfl (by kernel_rfl) (by kernel_rfl) (by kernel_rfl) (by kernel_rfl) (fun _ _ _ h => h) hs0 (Or.inl ⟨by rfl, ?_⟩) ?_
            rotate_left
            · (intro V hV; obtain ⟨k1, k2, k3, k4, k5, k6⟩ := HKF.out V hV; go_simp; (try with_reducible rfl))
            simp only [Act.put, List.setIfInBounds_toArray, List.set_cons_zero, List.set_cons_succ]
            refine wpAnyE_take (i := 7) (oi := ⟨some 81, _, _, _, _, _⟩) (v := ?_) rfl (by kernel_rfl) (by kernel_rfl) (by kernel_rfl) (by kernel_rfl) (fun _ _ _ h => h) hs0 (Or.inl ⟨by rfl, ?_⟩) ?_
            rotate_left
            · (intro V hV; obtain ⟨k1, k2, k3, k4, k5, k6⟩ := HKF.out V hV; go_simp; (try with_reducible rfl))
            simp only [Act.put, List.setIfInBounds_toArray, List.set_cons_zero, List.set_cons_succ]
            refine wpAnyE_take (i := 8) (oi := ⟨some 82, _, _, _, _, _⟩) (v := ?_) rfl (by kernel_rfl) (by kernel_rfl) (by kernel_rfl) (by kernel_rfl) (fun _ _ _ h => h) hs0 (Or.inl ⟨by rfl, ?_⟩) ?_
            rotate_left
            · (intro V hV; obtain ⟨k1, k2, k3, k4, k5, k6⟩ := HKF.out V hV; go_simp; (try with_reducible rfl))
            simp only [Act.put, List.setIfInBounds_toArray, List.set_cons_zero, List.set_cons_succ]
            refine wpAnyE_take (i := 9) (oi := ⟨some 83, _, _, _, _, _⟩) (v := ?_) rfl (by kernel_rfl) (by kernel_rfl) (by kernel_rfl) (by kernel_rfl) (fun _ _ _ h => h) hs0 (Or.inl ⟨by rfl, ?_⟩) ?_
            rotate_left
            · (intro V hV; obtain ⟨k1, k2, k3, k4, k5, k6⟩ := HKF.out V hV; go_simp; (try with_reducible rfl))
            simp only [Act.put, List.setIfInBounds_toArray, List.set_cons_zero, List.set_cons_succ]
            refine wpAnyE_take (i := 10) (oi := ⟨some 84, _, _, _, _, _⟩) (v := ?_) rfl (by kernel_rfl) (by kernel_rfl) (by kernel_rfl) (by kernel_rfl) (fun _ _ _ h => h) hs0 (Or.inl ⟨by rfl, ?_⟩) ?_
            rotate_left
            · (intro V hV; obtain ⟨k1, k2, k3, k4, k5, k6⟩ := HKF.out V hV; go_simp; (try with_reducible rfl))
            simp only [Act.put, List.setIfInBounds_toArray, List.set_cons_zero, List.set_cons_succ]
            refine wpAnyE_take (i := 11) (oi := ⟨some 85, _, _, _, _, _⟩) (v := ?_) rfl (by kernel_rfl) (by kernel_rfl) (by kernel_rfl) (by kernel_rfl) (fun _ _ _ h => h) hs0 (Or.inl ⟨by rfl, ?_⟩) ?_
            rotate_left
            · (intro V hV; obtain ⟨k1, k2, k3, k4, k5, k6⟩ := HKF.out V hV; go_simp; (try with_reducible rfl))
            simp only [Act.put, List.setIfInBounds_toArray, List.set_cons_zero, List.set_cons_succ]
            refine wpAnyE_take (i := 12) (oi := ⟨some 86, _, _, _, _, _⟩) (v := ?_) rfl (by kernel_rfl) (by kernel_rfl) (by kernel_rfl) (by kernel_rfl) (fun _ _ _ h => h) hs0 (Or.inl ⟨by rfl, ?_⟩) ?_
            rotate_left
            · (intro V hV; obtain ⟨k1, k2, k3, k4, k5, k6⟩ := HKF.out V hV; go_simp; (try with_reducible rfl))
            simp only [Act.put, List.setIfInBounds_toArray, List.set_cons_zero, List.set_cons_succ]
            refine wpAnyE_one (i := 13) (oi := ⟨some 87, _, _, _, _, _⟩) (by kernel_rfl) rfl rfl fun K13 hK13 => ?_
            go_simp
            go_at_call 16
            refine (HREC.out _ HD10.out).mono ?_
            rintro e w11 ⟨vM, rfl, hb11, hap⟩
            obtain ⟨p1, p1n, p1c, p2, p2n, p2c, rfl⟩ := hap.here.form
            obtain ⟨a5, c5, w5, hr5, ⟨x5, z5, l5⟩, hk5, hO5⟩ := HADD2.out w11 p1 p2 p1n p1c p2n p2c (below_step HD10.out hb11 HD10.out.size) hap
            have HO5 := hid hO5
            have HR5 := hid hr5
            have hs1 := HS1.out _ hb11
            have hs2 := HS2.out _ (.cells #[.slice p1 p1n p1c, .slice p2 p2n p2c] 35) hb11
            have hs3 := HS3.out _ (.cells #[.slice p1 p1n p1c, .slice p2 p2n p2c] 35) (.cells #[.int .i64 num, .slice none 0 0, .slice none 0 0, .slice (some ⟨w11.heap.size, 0, none⟩) 1 1] 71) hb11
            clear hO5 hr5 hap hb11
            change K13 _ _
            refine hK13.out _ _ (fun _ => hs1) ?_
            try simp only [Act.put, List.setIfInBounds_toArray, List.set_cons_zero, List.set_cons_succ]
            refine wpAnyE_one (i := 14) (oi := ⟨some 88, _, _, _, _, _⟩) (by kernel_rfl) rfl rfl fun K14 hK14 => ?_
            go_simp
            refine hK14.out _ _ (fun _ => hs2) ?_
            try simp only [Act.put, List.setIfInBounds_toArray, List.set_cons_zero, List.set_cons_succ]
            refine wpAnyE_one (i := 15) (oi := ⟨some 89, _, _, _, _, _⟩) (by kernel_rfl) rfl rfl fun K15 hK15 => ?_
            go_simp
            refine hK15.out _ _ (fun _ => hs2) ?_
            try simp only [Act.put, List.setIfInBounds_toArray, List.set_cons_zero, List.set_cons_succ]
            refine wpAnyE_one (i := 16) (oi := ⟨some 90, _, _, _, _, _⟩) (by kernel_rfl) rfl rfl fun K16 hK16 => ?_
            go_simp
            refine hK16.out _ _ (fun _ => hs3) ?_
            try simp only [Act.put, List.setIfInBounds_toArray, List.set_cons_zero, List.set_cons_succ]
            refine wpAnyE_one (i := 17) (oi := ⟨some 91, _, _, _, _, _⟩) (by kernel_rfl) rfl rfl fun K17 hK17 => ?_
            refine wp_append_eq (.tmp 75) (.tmp 90) _ rfl _ _ rfl rfl HR5.out ?_
            refine hK17.out _ _ (fun _ => hk5) ?_
            try simp only [Act.put, List.setIfInBounds_toArray, List.set_cons_zero, List.set_cons_succ]
            refine wpAnyE_take (i := 18) (oi := ⟨some 92, _, _, _, _, _⟩) (v := ?_) rfl (by kernel_rfl) (by kernel_rfl) (by kernel_rfl) (by kernel_rfl) (fun _ _ _ h => h) hk5 (Or.inl ⟨by rfl, ?_⟩) ?_
            rotate_left
            · (intro V hV; go_simp; (try with_reducible rfl))
            try simp only [Act.put, List.setIfInBounds_toArray, List.set_cons_zero, List.set_cons_succ]
            refine wpAnyE_one (i := 19) (oi := ⟨none, _, _, _, _, _⟩) (by kernel_rfl) rfl rfl fun K19 hK19 => ?_
            go_simp
            refine hK19.out _ _ (fun h => absurd rfl h) ?_
            try simp only [Act.put, List.setIfInBounds_toArray, List.set_cons_zero, List.set_cons_succ]
            refine wpAnyE_done (by kernel_rfl) ?_ _
            go_wp2_with fail
            go_roundw
            case rel => exact ⟨i + 1, _, _, _, on + 1, by go_num, hlt, by omega, HREL.out _ _ _ _ _ (by omega) (by rw [HPW.out]) HO5.out⟩
            case measure => simp [intOf]; omega
          · have HPW : Hid (P v = if y = kp then [v] else []) := by
              rw [Hid, HPV.out, if_neg]
              rintro ⟨h1, h2, h3, h4⟩
              exact hcs ⟨h1, by rw [HKN.out]; exact List.length_pos_iff.2 h2, h3, h4⟩
            have hcase : y = true ∨ (y = false ∧ kn = 0) ∨ (y = false ∧ 0 < kn ∧ f.kind ≠ 17) ∨ (y = false ∧ 0 < kn ∧ f.kind = 17 ∧ f.rep = true) := by
              cases y with
              | true => exact .inl rfl
              | false =>
                rcases Nat.eq_zero_or_pos kn with h | h
                · exact .inr (.inl ⟨rfl, h⟩)
                · by_cases h3 : f.kind = 17
                  · cases h4 : f.rep with
                    | true => exact .inr (.inr (.inr ⟨rfl, h, h3, rfl⟩))
                    | false => exact absurd ⟨rfl, h, h3, h4⟩ hcs
                  · exact .inr (.inr (.inl ⟨rfl, h, h3⟩))
            obtain ⟨a5, c5, w5, hr5, ⟨x5, z5, l5⟩, hO5⟩ := HADD.out w10 HB10.out
            have HO5 := hid hO5
            have hkp := HKP.out
            subst hkp
            clear hcs HPV HADD HCN hO5 HSTAT HU10 HB10 HKN HUU2 HF HKP
            rcases hcase with rfl | ⟨rfl, rfl⟩ | ⟨rfl, hk0, h3⟩ | ⟨rfl, hk0, h3, h4⟩
            rotate_left 2
            · have e4 : ((f.kind : Int) == 17) = false := by simpa using h3
              have e5' : decide (0 < kn) = true := decide_eq_true hk0
              clear h3
              go_wp2_with (at_builtin; refine wpList_append_eq rfl _ _ _ rfl _ _ rfl rfl hr5 ?_)
              go_roundw
              case rel => first | exact ⟨i + 1, _, _, _, on + 1, by go_num, hlt, by omega, HREL.out _ _ _ _ _ (by omega) (by rw [HPW.out]; rfl) HO5.out⟩ | exact ⟨i + 1, _, _, _, on, by go_num, hlt, by omega, HREL.out _ _ _ _ _ (by omega) (by rw [HPW.out]; simp) HO10.out⟩
              case measure => simp [intOf]; omega
            · rw [h3] at e2
              rw [h4] at e3
              have e5' : decide (0 < kn) = true := decide_eq_true hk0
              clear h3 h4
              go_wp2_with (at_builtin; refine wpList_append_eq rfl _ _ _ rfl _ _ rfl rfl hr5 ?_)
              go_roundw
              case rel => first | exact ⟨i + 1, _, _, _, on + 1, by go_num, hlt, by omega, HREL.out _ _ _ _ _ (by omega) (by rw [HPW.out]; rfl) HO5.out⟩ | exact ⟨i + 1, _, _, _, on, by go_num, hlt, by omega, HREL.out _ _ _ _ _ (by omega) (by rw [HPW.out]; simp) HO10.out⟩
              case measure => simp [intOf]; omega
            all_goals
              go_wp2_with (at_builtin; refine wpList_append_eq rfl _ _ _ rfl _ _ rfl rfl hr5 ?_)
              go_roundw
              case rel => first | exact ⟨i + 1, _, _, _, on + 1, by go_num, hlt, by omega, HREL.out _ _ _ _ _ (by omega) (by rw [HPW.out]; rfl) HO5.out⟩ | exact ⟨i + 1, _, _, _, on, by go_num, hlt, by omega, HREL.out _ _ _ _ _ (by omega) (by rw [HPW.out]; simp) HO10.out⟩
              case measure => simp [intOf]; omega
      · obtain rfl : i = vn := by omega
        have HEN := hid (HFIN.out wr (.slice oa on oc) o (by
          have h := HJ.out.2.2
          rwa [List.drop_eq_nil_of_le (by rw [← HVN.out]; exact Nat.le_refl _), List.flatMap_nil, List.append_nil] at h) (by rw [HJ.out.2.1]; omega) HJ.out.1)
        have hR1 : Blk wr (X + 1) [.slice none 0 0, .slice none 0 0] 35 := (HJ.out.1.below.block (X + 1) (by omega)).trans HR1.out
        have r0 := hR1.cell 0 _ rfl
        have r1 := hR1.cell 1 _ rfl
        have f0 := hR1.free 0
        have f1 := hR1.free 1
        have rl := hR1.lt
        have o0 := HJ.out.1.cell 0 _ rfl
        have o1 := HJ.out.1.cell 1 _ rfl
        have ol := HJ.out.1.lt
        rw [HZW.out] at o1 HEN
        clear hR1 HVA HOK HWT HUU HX1 HR1 HO1 HB1 HBW HZL HFIN HML HRE HP HHW HFT HFS HNM HC01 HSN HUN HVN HMN HFN HS0 HX HW1 HJ HZW
        go_wp2_with fail
        refine bodyPost_ret (v := .agg #[.slice oa on oc, .slice za zn zc]) ?_ rfl HEN.out
        simp [results, Tryz.results16, go_sem, r0, r1]
theorem ref15_Part {w0 : World} {sv : Value} {s : List Mes} (hS0 : SchemaAt w0 sv s) (keep : Bool) : ∀ d, RPartOk w0 sv s keep d
  | 0 => fun _ _ _ _ x _ _ _ _ _ _ _ _ => x.elim
  | d + 1 => ref15_Part_step hS0 keep d (ref15_Part hS0 keep d)
end Go.Proofs.YtaefpjecalnbcaaGreat
