/- Parts of a proof: texts of the author, merged. No condition of their own. -/
import Derived.Test.YtaefpjecalnbcaaGreatZ03
import Derived.Test.YtaefpjecalnbcaaGreatZ07
import Derived.Test.YtaefpjecalnbcaaGreatZ08
import Derived.Test.YtaefpjecalnbcaaGreatZ13
import Derived.Test.YtaefpjecalnbcaaGreatZ14
import Derived.Test.YtaefpjecalnbcaaGreatZ16
import Derived.Test.YtaefpjecalnbcaaGreatZ27
import Derived.Test.YtaefpjecalnbcaaGreatZ29
import Derived.Test.YtaefpjecalnbcaaGreatZ35
import Derived.Test.YtaefpjecalnbcaaGreatZ36
import Derived.Test.YtaefpjecalnbcaaGreatZ39
import Derived.Deep.CutBlock
import Derived.Deep.RegionLaw
namespace Go.Proofs.YtaefpjecalnbcaaGreat
open Go.RowKit Go.Shelf
def PlainPost (w : World) (d : Nat) (code : Nat) (x : M d) (e : Ending) (w' : World) : Prop := Below w.heap.size w w' ∧ (code ≠ 0 → e = .returned (.tuple #[.agg #[.slice none 0 0, .slice none 0 0], .int .u8 (code : Int)])) ∧
  (code = 0 → ∃ a n c, e = .returned (.tuple #[.agg #[.slice a n c, .slice none 0 0], .int .u8 0]) ∧ MsgAt d w' (.agg #[.slice a n c, .slice none 0 0]) (plainM d x))
set_option maxRecDepth 100000 in
set_option maxHeartbeats 8000000 in
theorem alg_Plain {w : World} {sv v : Value} {s : List Mes} {d : Nat} {x : M d} (hS : SchemaAt w sv s) (root : Int) (hx : MsgAt d w v x) (hwx : mwt d x ≤ 1099511627776) :
    Calls Tryz.prog 18 #[sv, .int .i64 root, v] w (PlainPost w d (mayAll s root [rightB s d root x]) x) := by
  obtain ⟨a1, n1, c1, a2, n2, c2, rfl⟩ := hx.form
  obtain ⟨X, HX⟩ : ∃ X, Hid (X = w.heap.size) := ⟨_, rfl⟩
  have hS2 := hS
  obtain ⟨-, sa, sc, rfl, -⟩ := hS2.open
  obtain ⟨sn, HSN⟩ : ∃ n, Hid (n = s.length) := ⟨_, rfl⟩
  rw [← HSN.out] at hS hS2 ⊢
  obtain ⟨W1, HW1⟩ : ∃ W, Hid (W = (w.alloc (.cells #[.slice a1 n1 c1, .slice a2 n2 c2] 27)).alloc (.cells #[.slice none 0 0, .slice none 0 0] 27)) := ⟨_, rfl⟩
  have hx1 : Blk W1 X [.slice a1 n1 c1, .slice a2 n2 c2] 27 := by rw [HW1.out, HX.out]; exact (Blk.new w [.slice a1 n1 c1, .slice a2 n2 c2] _).alloc _
  have hr1 : Blk W1 (X + 1) [.slice none 0 0, .slice none 0 0] 27 := by rw [HW1.out, HX.out]; exact Blk.new' _ [.slice none 0 0, .slice none 0 0] _ _ (by simp)
  have hb1 : Below w.heap.size w W1 := by rw [HW1.out]; (repeat (first | with_reducible exact Below.refl _ _ | with_reducible refine Below.setCell ?_ (by first | omega | (simp; omega) | (simp; done)) _ | with_reducible refine Below.alloc ?_ (by first | omega | (simp; omega) | (simp; done)) _ | with_reducible refine below_drewN ?_ _ | with_reducible refine Below.drew ?_))
  obtain ⟨W2, HW2⟩ : ∃ W, Hid (W = W1.alloc (.cells #[.slice a1 n1 c1, .slice a2 n2 c2] 27)) := ⟨_, rfl⟩
  obtain ⟨G, HG⟩ : ∃ G, Hid (G = W1.heap.size) := ⟨_, rfl⟩
  have hb12 : Below W1.heap.size W1 W2 := by rw [HW2.out]; exact (Below.refl _ _).alloc (Nat.le_refl _) _
  have hg2 : Blk W2 G [.slice a1 n1 c1, .slice a2 n2 c2] 27 := by rw [HW2.out, HG.out]; exact Blk.new W1 [.slice a1 n1 c1, .slice a2 n2 c2] _
  have hb2 := hb1.trans (hb12.mono hb1.size)
  obtain ⟨code, HC⟩ : ∃ c, Hid (c = mayAll s root [rightB s d root x]) := ⟨_, rfl⟩
  have HMAY := hid (alg_may (hS.below hb2) root (may_one (s := s) (root := root) hg2 (hx.below hb2) hwx) (n := 1) (c := 1) rfl (by decide))
  rw [← HC.out] at HMAY ⊢
  have hc12 : code ≤ 12 := by rw [HC.out]; exact may_small _ _ _
  have HB2 := hid hb2
  have HXB := hid (And.intro (hx1.below hb12) (hr1.below hb12))
  have HXM := hid hx
  have HWT := hid hwx
  obtain ⟨Q, HQ⟩ : ∃ Q : Ending → World → Prop, Hid (Q = PlainPost w d code x) := ⟨_, rfl⟩
  rw [← HQ.out]
  have k0 := hx1.cell 0 _ rfl
  have k1 := hx1.cell 1 _ rfl
  have kl := hx1.lt
  clear hx1 hr1 hb1 hb12 hg2 hb2 hS hS2 hx hwx
  go_enter Tryz.func18, Tryz.ntmps18
  go_upto_region 1 with fail
  rw [← HW1.out, ← HX.out]
  go_wp2_with fail
  rw [← HW2.out, ← HG.out]
  refine HMAY.out.mono ?_
  rintro e w3 ⟨rfl, hb3⟩
  have HB3 := hid (HB2.out.trans (hb3.mono HB2.out.size))
  have HX3 := hid (And.intro (HXB.out.1.below hb3) (HXB.out.2.below hb3))
  clear k0 k1 kl
  have k0 := HX3.out.1.cell 0 _ rfl
  have k1 := HX3.out.1.cell 1 _ rfl
  have kl := HX3.out.1.lt
  clear hb3 HMAY HXB
  by_cases h0 : code = 0
  · subst h0
    have HP := hid (tree_CopyQ (w0 := w) w3.heap.size d w3 _ x (Nat.le_refl _) HB3.out HXM.out HWT.out)
    clear HC hc12
    go_wp2_with fail
    refine HP.out.mono ?_
    rintro e w5 ⟨v5, rfl, hb5, hap5⟩
    have hM5 := hap5.here
    obtain ⟨p1, q1, o1, p2, q2, o2, rfl⟩ := hM5.form
    have HPL := hid (alg_plain d w3.heap.size w5.heap.size w5 _ x hb5.size (Nat.le_refl _) hM5)
    have HB5 := hid (HB3.out.trans (hb5.mono HB3.out.size))
    have HR5 := hid (HX3.out.2.below hb5)
    have hl3 := HX3.out.2.lt
    have hs35 := hb5.size
    clear hb5 hap5 hM5 k0 k1 kl
    go_wp2_with fail
    refine HPL.out.mono ?_
    rintro e w6 ⟨s1, t1, u1, su, rfl, -, hn6, hM6⟩
    have hr6 := hn6.blk_nil HR5.out
    have hb6 : Below w.heap.size w w6 := HB5.out.trans (hn6.to_below HB3.out.size)
    have r0 := hr6.cell 0 _ rfl
    have r1 := hr6.cell 1 _ rfl
    have f0 := hr6.free 0
    have f1 := hr6.free 1
    have rl := hr6.lt
    have z1 := hr6.set 0 (.slice s1 t1 u1)
    have z2 := z1.set 1 (.slice none 0 0)
    have q0 := z2.cell 0 _ rfl
    have q1' := z2.cell 1 _ rfl
    have HE : Hid (Q (.returned (.tuple #[.agg #[.slice s1 t1 u1, .slice none 0 0], .int .u8 0])) ((w6.setCell ⟨X + 1, 0, none⟩ (.slice s1 t1 u1)).setCell ⟨X + 1, 1, none⟩ (.slice none 0 0))) := by
      rw [HQ.out]
      refine ⟨(hb6.setCell (by rw [HX.out]; show w.heap.size ≤ w.heap.size + 1; omega) _).setCell (by rw [HX.out]; show w.heap.size ≤ w.heap.size + 1; omega) _, fun h => absurd rfl h, fun _ => ⟨_, _, _, rfl, MsgQ.plain (lo := w3.heap.size) (hi := w5.heap.size) d _ _ x ?_⟩⟩
      refine MsgQ.agree (w := w6) (U := UNil) (fun b hb1 hb2 => ?_) (fun v l h => (unil_nil _ _ _ _ v l h).1) d _ x hM6
      have hne : b ≠ X + 1 := by omega
      rw [Below.heap_setCell _ _ _ b hne, Below.heap_setCell _ _ _ b hne]
    clear hr6 z1 z2 hM6 hn6 hb6 HPL HP hl3 hs35
    go_wp2_with fail
    refine bodyPost_ret (v := .tuple #[.agg #[.slice s1 t1 u1, .slice none 0 0], .int .u8 0]) ?_ rfl HE.out
    simp [results, Tryz.results18, go_sem, q0, q1']
  · have hne : ((code : Int) != 0) = true := by simpa using h0
    have hr3 := HX3.out.2
    have r0 := hr3.cell 0 _ rfl
    have r1 := hr3.cell 1 _ rfl
    have f0 := hr3.free 0
    have f1 := hr3.free 1
    have rl := hr3.lt
    have z1 := hr3.set 0 (.slice none 0 0)
    have z2 := z1.set 1 (.slice none 0 0)
    have q0 := z2.cell 0 _ rfl
    have q1' := z2.cell 1 _ rfl
    have HE : Hid (Q (.returned (.tuple #[.agg #[.slice none 0 0, .slice none 0 0], .int .u8 (code : Int)])) ((w3.setCell ⟨X + 1, 0, none⟩ (.slice none 0 0)).setCell ⟨X + 1, 1, none⟩ (.slice none 0 0))) := by
      rw [HQ.out]
      exact ⟨(HB3.out.setCell (by rw [HX.out]; show w.heap.size ≤ w.heap.size + 1; omega) _).setCell (by rw [HX.out]; show w.heap.size ≤ w.heap.size + 1; omega) _, fun _ => rfl, fun h => absurd h h0⟩
    clear hr3 z1 z2 HX3 HC h0
    go_wp2_with fail
    refine bodyPost_ret (v := .tuple #[.agg #[.slice none 0 0, .slice none 0 0], .int .u8 (code : Int)]) ?_ rfl HE.out
    simp [results, Tryz.results18, go_sem, q0, q1']
end Go.Proofs.YtaefpjecalnbcaaGreat
namespace Go.Proofs.YtaefpjecalnbcaaGreat
open Go.RowKit
end Go.Proofs.YtaefpjecalnbcaaGreat
namespace Go.Proofs.YtaefpjecalnbcaaGreat
open Go.RowKit
end Go.Proofs.YtaefpjecalnbcaaGreat
namespace Go.Proofs.YtaefpjecalnbcaaGreat
open Go.RowKit
end Go.Proofs.YtaefpjecalnbcaaGreat
namespace Go.Proofs.YtaefpjecalnbcaaGreat
open Go.RowKit
end Go.Proofs.YtaefpjecalnbcaaGreat
namespace Go.Proofs.YtaefpjecalnbcaaGreat
open Go.RowKit
end Go.Proofs.YtaefpjecalnbcaaGreat
