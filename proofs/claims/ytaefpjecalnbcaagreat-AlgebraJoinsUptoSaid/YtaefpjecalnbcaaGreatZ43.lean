/- Parts of a proof: texts of the author, merged. No condition of their own. -/
import Derived.Test.YtaefpjecalnbcaaGreatZ02
import Derived.Test.YtaefpjecalnbcaaGreatZ03
import Derived.Test.YtaefpjecalnbcaaGreatZ07
import Derived.Test.YtaefpjecalnbcaaGreatZ09
import Derived.Test.YtaefpjecalnbcaaGreatZ10
import Derived.Test.YtaefpjecalnbcaaGreatZ12
import Derived.Test.YtaefpjecalnbcaaGreatZ16
import Derived.Test.YtaefpjecalnbcaaGreatZ22
import Derived.Test.YtaefpjecalnbcaaGreatZ24
import Derived.Test.YtaefpjecalnbcaaGreatZ35
import Derived.Test.YtaefpjecalnbcaaGreatZ41
import Derived.Test.YtaefpjecalnbcaaGreatZ42
import Derived.StillTailTactics
import Derived.BigRegion
import Derived.Deep.CutBlock
import Derived.Deep.CutRange
import Derived.Deep.RegionLaw
import Derived.RangeFuncNested
import Derived.RangeFuncBound
import Derived.RangeFuncCalls
import Derived.RangeFuncLeaves
import Derived.Shelf.RegionOpen
import Derived.Deep.RegionHeld3
namespace Go.Proofs.YtaefpjecalnbcaaGreat
open Go.RowKit Go.Shelf
end Go.Proofs.YtaefpjecalnbcaaGreat
namespace Go.Proofs.YtaefpjecalnbcaaGreat
open Go.RowKit Go.Shelf
end Go.Proofs.YtaefpjecalnbcaaGreat
namespace Go.Proofs.YtaefpjecalnbcaaGreat
open Go.RowKit Go.Shelf
end Go.Proofs.YtaefpjecalnbcaaGreat
namespace Go.Proofs.YtaefpjecalnbcaaGreat
open Go.RowKit
end Go.Proofs.YtaefpjecalnbcaaGreat
namespace Go.Proofs.YtaefpjecalnbcaaGreat
open Go.RowKit Go.Shelf
end Go.Proofs.YtaefpjecalnbcaaGreat
namespace Go.Proofs.YtaefpjecalnbcaaGreat
open Go.RowKit
end Go.Proofs.YtaefpjecalnbcaaGreat
namespace Go.Proofs.YtaefpjecalnbcaaGreat
open Go.RowKit Go.Shelf
attribute [local go_sem] Oper.semAt_some
end Go.Proofs.YtaefpjecalnbcaaGreat
namespace Go.Proofs.YtaefpjecalnbcaaGreat
open Go.RowKit
end Go.Proofs.YtaefpjecalnbcaaGreat
namespace Go.Proofs.YtaefpjecalnbcaaGreat
open Go.RowKit Go.Shelf
end Go.Proofs.YtaefpjecalnbcaaGreat
namespace Go.Proofs.YtaefpjecalnbcaaGreat
open Go.RowKit
end Go.Proofs.YtaefpjecalnbcaaGreat
namespace Go.Proofs.YtaefpjecalnbcaaGreat
open Go.RowKit
def mayCode2 (s : List Mes) (root : Int) (a b : Nat) (x : M a) (y : M b) : Nat :=
  if sright s = false then 9 else if root < 0 ∨ (s.length : Int) ≤ root then 2 else if (rightB s a root x && rightB s b root y) = false then 12 else 0
set_option maxRecDepth 100000 in
set_option maxHeartbeats 4000000 in
theorem ref15_May2 {w : World} {sv v1 v2 u1 u2 : Value} {s : List Mes} {d e g : Nat} {x : M d} {y : M e} (hS : SchemaAt w sv s) (root : Int) (h : MsgAt d w (.agg #[v1, v2]) x) (h' : MsgAt e w (.agg #[u1, u2]) y) (hw : mwt d x ≤ 1099511627776) (hw' : mwt e y ≤ 1099511627776)
    (g0 : w.cell? ⟨g, 0, none⟩ = some v1) (g1 : w.cell? ⟨g, 1, none⟩ = some v2) (g2 : w.cell? ⟨g, 2, none⟩ = some u1) (g3 : w.cell? ⟨g, 3, none⟩ = some u2) :
    Calls Tryz.prog 13 #[sv, .int .i64 root, .slice (some ⟨g, 0, none⟩) 2 2] w fun e' w' => e' = .returned (.int .i64 (mayCode2 s root d e x y)) ∧ Below w.heap.size w w' := by
  have HS := hid hS
  have HM := hid h
  have HW := hid hw
  have HM' := hid h'
  have HW' := hid hw'
  have HA := hid (ref13_Args hS root)
  obtain ⟨hsl, sa, sc, rfl, -⟩ := hS.open
  obtain ⟨a1, n1, c1, a2, n2, c2, he⟩ := h.form
  cases he
  obtain ⟨a3, n3, c3, a4, n4, c4, he⟩ := h'.form
  cases he
  obtain ⟨m, HMC⟩ : ∃ m, Hid (m = mayCode2 s root d e x y) := ⟨_, rfl⟩
  rw [← HMC.out]
  by_cases hb : sright s = false
  · have HE : Hid (m = 9) := by rw [Hid, HMC.out, mayCode2, if_pos hb]
    rw [if_pos hb] at HA
    clear hS h h' hw hw' hb HMC
    go_enter Tryz.func13, Tryz.ntmps13
    go_wp2_with (go_at_call 28; refine HA.out.mono ?_; rintro e w1 ⟨rfl, hb1⟩)
    go_ret
    exact ⟨by rw [HE.out]; rfl, hb1⟩
  by_cases hr : root < 0 ∨ (s.length : Int) ≤ root
  · have HE : Hid (m = 2) := by rw [Hid, HMC.out, mayCode2, if_neg hb, if_pos hr]
    rw [if_neg hb, if_pos hr] at HA
    clear hS h h' hw hw' hb HMC hr
    go_enter Tryz.func13, Tryz.ntmps13
    go_wp2_with (go_at_call 28; refine HA.out.mono ?_; rintro e w1 ⟨rfl, hb1⟩)
    go_ret
    exact ⟨by rw [HE.out]; rfl, hb1⟩
  · rw [if_neg hb, if_neg hr] at HA
    have hok := ref14_rightOk (s := s) (by simpa using hb) d
    have hok' := ref14_rightOk (s := s) (by simpa using hb) e
    unfold RRightOk at hok hok'
    have HOK := hid hok
    have HOK' := hid hok'
    obtain ⟨r, HR⟩ : ∃ r, Hid (rightB s d root x = r) := ⟨_, rfl⟩
    obtain ⟨r', HR'⟩ : ∃ r, Hid (rightB s e root y = r) := ⟨_, rfl⟩
    have HE : Hid (m = if (r && r') = false then 12 else 0) := by rw [Hid, HMC.out, mayCode2, if_neg hb, if_neg hr, HR.out, HR'.out]
    have hix : ∀ W : World, (Instr.indexAt 43 (.slice (some ⟨g, 0, none⟩) 2 2) (.int .i64 0)).run Tryz.prog W = .ok (.pointer (some ⟨g, 0, none⟩)) W := fun W => by
      have := index_run Tryz.underlying43 size_rmsg (a := some ⟨g, 0, none⟩) rfl 0 (len := 2) (by decide) (cap := 2) W
      simpa using this
    have hix2 : ∀ W : World, (Instr.indexAt 43 (.slice (some ⟨g, 0, none⟩) 2 2) (.int .i64 1)).run Tryz.prog W = .ok (.pointer (some ⟨g, 2, none⟩)) W := fun W => by
      have := index_run Tryz.underlying43 size_rmsg (a := some ⟨g, 0, none⟩) rfl 1 (len := 2) (by decide) (cap := 2) W
      simpa using this
    clear hS h h' hw hw' hb HMC hr hok hok'
    go_enter Tryz.func13, Tryz.ntmps13
    go_wp2_with (go_at_call 28; refine HA.out.mono ?_; rintro e w1 ⟨rfl, hb1⟩)
    have HB1 := hid hb1
    have k0 := below_keeps hb1 _ _ g0
    have k1 := below_keeps hb1 _ _ g1
    have k2 := below_keeps hb1 _ _ g2
    have k3 := below_keeps hb1 _ _ g3
    have lg : g < w1.heap.size := World.block_lt_of_cell? w1 _ k0
    clear hb1
    go_loopw [8] (fun v8 wr => ∃ i : Nat, v8 = .int .i64 i ∧ i ≤ 2 ∧ Hid (1 ≤ i → r = true) ∧ Hid (i = 2 → r' = true) ∧ Hid (Below w1.heap.size w1 wr)) (fun v8 _ => 2 - (intOf v8).toNat)
    case atStart => exact ⟨0, rfl, by omega, fun h => absurd h (by decide), fun h => absurd h (by decide), Below.refl _ _⟩
    case round =>
      obtain ⟨i, rfl, hi, HI, HI2, HB⟩ := hrel
      have HBW := hid (HB1.out.trans (HB.out.mono HB1.out.size))
      replace k0 := below_keeps HB.out _ _ k0
      replace k1 := below_keeps HB.out _ _ k1
      replace k2 := below_keeps HB.out _ _ k2
      replace k3 := below_keeps HB.out _ _ k3
      have lg : g < wr.heap.size := World.block_lt_of_cell? wr _ k0
      have hi3 : i = 0 ∨ i = 1 ∨ i = 2 := by omega
      rcases hi3 with rfl | rfl | rfl
      · go_wp2_with fail
        refine (HOK.out _ root _ _ x (HS.out.below HBW.out) (HM.out.below HBW.out) HW.out).mono ?_
        rintro e w2 ⟨rfl, hb2⟩
        rw [HR.out]
        have HB2 := hid (HB.out.trans (hb2.mono HB.out.size))
        clear hb2
        cases r with
        | false =>
          go_wp2_with fail
          go_ret
          exact ⟨by rw [HE.out]; rfl, HB1.out.trans (HB2.out.mono HB1.out.size)⟩
        | true =>
          go_wp2_with fail
          go_roundw
          case rel => exact ⟨1, by first | rfl | go_num, by omega, by simp [Hid], by simp [Hid], HB2.out⟩
          case measure => simp [intOf]
      · have hr1 := HI.out (by omega)
        subst hr1
        go_wp2_with fail
        refine (HOK'.out _ root _ _ y (HS.out.below HBW.out) (HM'.out.below HBW.out) HW'.out).mono ?_
        rintro e w2 ⟨rfl, hb2⟩
        rw [HR'.out]
        have HB2 := hid (HB.out.trans (hb2.mono HB.out.size))
        clear hb2
        cases r' with
        | false =>
          go_wp2_with fail
          go_ret
          exact ⟨by rw [HE.out]; rfl, HB1.out.trans (HB2.out.mono HB1.out.size)⟩
        | true =>
          go_wp2_with fail
          go_roundw
          case rel => exact ⟨2, by first | rfl | go_num, by omega, by simp [Hid], by simp [Hid], HB2.out⟩
          case measure => simp [intOf]
      · have hr1 := HI.out (by omega)
        have hr2 := HI2.out rfl
        subst hr1
        subst hr2
        go_wp2_with fail
        go_ret
        exact ⟨by rw [HE.out]; rfl, HBW.out⟩
end Go.Proofs.YtaefpjecalnbcaaGreat
