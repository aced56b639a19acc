/- darningref14.Many, Fits: fitsB, where Right tells rightB of the messages in it. The value's weight is at most 2^40. darningref14.Right: rightB, for each depth, where the schema is right; darningref13.Args, darningref15.May of one meaning. The meaning's weight is at most 2^40. tree.Right; darningref13.Args, darningref15.May of one meaning: mayCode. The meaning's weight is at most 2^40. -/
import Derived.Test.YtaefpjecalnbcaaGreatZ21
import Derived.BigQuiet
namespace Go.Proofs.YtaefpjecalnbcaaGreat
open Go.RowKit
end Go.Proofs.YtaefpjecalnbcaaGreat
namespace Go.Proofs.YtaefpjecalnbcaaGreat
open Go.RowKit
end Go.Proofs.YtaefpjecalnbcaaGreat
namespace Go.Proofs.YtaefpjecalnbcaaGreat
open Go.RowKit
set_option maxRecDepth 100000 in
set_option maxHeartbeats 4000000 in
theorem tree_Right {w : World} {sv v : Value} {s : List Mes} {d : Nat} {x : M d} (hS : SchemaAt w sv s) (root : Int) (h : MsgAt d w v x) (hw : mwt d x ≤ 1099511627776) :
    Calls Tryz.prog 21 #[sv, .int .i64 root, v] w fun e w' => e = .returned (.bool (sright s && rightB s d root x)) ∧ Below w.heap.size w w' := by
  have HS := hid hS
  have HM := hid h
  have HW := hid hw
  have hok := tree_rightOk s d
  unfold RightOk at hok
  have HOK := hid hok
  obtain ⟨-, sa, sc, rfl, -⟩ := hS.open
  obtain ⟨a1, n1, c1, a2, n2, c2, rfl⟩ := h.form
  have hB1 : Below w.heap.size w (w.alloc (.cells #[.slice a1 n1 c1, .slice a2 n2 c2] 27)) := (Below.refl _ _).alloc (Nat.le_refl _) _
  have HB1 := hid hB1
  have hk := Blk.new w [.slice a1 n1 c1, .slice a2 n2 c2] 27
  have HK := hid hk
  obtain ⟨b, HBB⟩ : ∃ b, Hid (sright s = b) := ⟨_, rfl⟩
  obtain ⟨r, HR⟩ : ∃ r, Hid (rightB s d root x = r) := ⟨_, rfl⟩
  rw [HBB.out, HR.out]
  clear hok hS h hw hB1 hk
  cases b with
  | false =>
    go_enter Tryz.func21, Tryz.ntmps21
    go_wp2_with (go_at_call 42; refine (schema_Right (HS.out.below HB1.out)).mono ?_; rintro e w1 ⟨rfl, hb1⟩; rw [HBB.out])
    go_ret
    exact ⟨rfl, HB1.out.trans (hb1.mono HB1.out.size)⟩
  | true =>
    go_enter Tryz.func21, Tryz.ntmps21
    go_wp2_with fail
    refine (schema_Right (HS.out.below HB1.out)).mono ?_
    rintro e w1 ⟨rfl, hb1⟩
    rw [HBB.out]
    have HK1 := hid (HK.out.below hb1)
    have x0 := HK1.out.cell 0 _ rfl
    have x1 := HK1.out.cell 1 _ rfl
    have lx := HK1.out.lt
    have HB2 := hid (HB1.out.trans (hb1.mono HB1.out.size))
    clear hb1
    go_wp2_with fail
    refine (HOK.out _ root _ _ x (HS.out.below HB2.out) (HM.out.below HB2.out) HW.out).mono ?_
    rintro e w2 ⟨rfl, hb2⟩
    rw [HR.out]
    go_wp2_with fail
    go_ret
    exact ⟨rfl, HB2.out.trans (hb2.mono HB2.out.size)⟩
end Go.Proofs.YtaefpjecalnbcaaGreat
