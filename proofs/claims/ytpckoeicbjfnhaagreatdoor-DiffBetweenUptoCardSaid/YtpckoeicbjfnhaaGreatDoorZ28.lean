/- darningref14.Right: rightB, for each depth, where the schema is right; darningref13.Args, darningref15.May of one meaning. The meaning's weight is at most 2^40. tree.Right; darningref13.Args, darningref15.May of one meaning: mayCode. The meaning's weight is at most 2^40. canon's writer: put. The tag is right, the value fits; bytes are at most 2^39. canon.writer.value: what a value of a field writes. The value fits the field; bytes are at most 2^36, weights 2^35. append of a string's bytes onto the call's own bytes. No condition. canon.writer.message: what a right meaning's values and unknown records write, for each depth. The schema is right; bytes are at most 2^36, weights 2^35. canon.Encode, Size, Value: mayCode, encM, encV. The meaning's weight is at most 2^30. bytes.Equal. No condition. darningref11.Is; tree.Of and canon.Is, of a contract of tree.of. Bytes of at most 2 to the 40. -/
import Derived.Test.YtpckoeicbjfnhaaGreatDoorZ01
import Derived.Test.YtpckoeicbjfnhaaGreatDoorZ16
import Derived.Test.YtpckoeicbjfnhaaGreatDoorZ17
import Derived.Test.YtpckoeicbjfnhaaGreatDoorZ18
import Derived.Test.YtpckoeicbjfnhaaGreatDoorZ27
import Derived.BigQuiet
import Derived.Deep.CutBlock
namespace Go.Proofs.YtpckoeicbjfnhaaGreatDoor
open Go.RowKit
end Go.Proofs.YtpckoeicbjfnhaaGreatDoor
namespace Go.Proofs.YtpckoeicbjfnhaaGreatDoor
open Go.RowKit
set_option maxRecDepth 100000 in
set_option maxHeartbeats 4000000 in
theorem tree_Right {w : World} {sv v : Value} {s : List Mes} {d : Nat} {x : M d} (hS : SchemaAt w sv s) (root : Int) (h : MsgAt d w v x) (hw : mwt d x ≤ 1099511627776) :
    Calls Tryz.prog 29 #[sv, .int .i64 root, v] w fun e w' => e = .returned (.bool (sright s && rightB s d root x)) ∧ Below w.heap.size w w' := by
  have HS := hid hS
  have HM := hid h
  have HW := hid hw
  have hok := tree_rightOk s d
  unfold RightOk at hok
  have HOK := hid hok
  obtain ⟨-, sa, sc, rfl, -⟩ := hS.open
  obtain ⟨a1, n1, c1, a2, n2, c2, rfl⟩ := h.form
  have hB1 : Below w.heap.size w (w.alloc (.cells #[.slice a1 n1 c1, .slice a2 n2 c2] 27)) := (Below.refl _ _).alloc (Nat.le_refl _) _
  have HB1 := hid hB1
  have hk := Blk.new w [.slice a1 n1 c1, .slice a2 n2 c2] 27
  have HK := hid hk
  obtain ⟨b, HBB⟩ : ∃ b, Hid (sright s = b) := ⟨_, rfl⟩
  obtain ⟨r, HR⟩ : ∃ r, Hid (rightB s d root x = r) := ⟨_, rfl⟩
  rw [HBB.out, HR.out]
  clear hok hS h hw hB1 hk
  cases b with
  | false =>
    go_enter Tryz.func29, Tryz.ntmps29
    go_wp2_with (go_at_call 28; refine (schema_Right (HS.out.below HB1.out)).mono ?_; rintro e w1 ⟨rfl, hb1⟩; rw [HBB.out])
    go_ret
    exact ⟨rfl, HB1.out.trans (hb1.mono HB1.out.size)⟩
  | true =>
    go_enter Tryz.func29, Tryz.ntmps29
    go_wp2_with fail
    refine (schema_Right (HS.out.below HB1.out)).mono ?_
    rintro e w1 ⟨rfl, hb1⟩
    rw [HBB.out]
    have HK1 := hid (HK.out.below hb1)
    have x0 := HK1.out.cell 0 _ rfl
    have x1 := HK1.out.cell 1 _ rfl
    have lx := HK1.out.lt
    have HB2 := hid (HB1.out.trans (hb1.mono HB1.out.size))
    clear hb1
    go_wp2_with fail
    refine (HOK.out _ root _ _ x (HS.out.below HB2.out) (HM.out.below HB2.out) HW.out).mono ?_
    rintro e w2 ⟨rfl, hb2⟩
    rw [HR.out]
    go_wp2_with fail
    go_ret
    exact ⟨rfl, HB2.out.trans (hb2.mono HB2.out.size)⟩
end Go.Proofs.YtpckoeicbjfnhaaGreatDoor
namespace Go.Proofs.YtpckoeicbjfnhaaGreatDoor
open Go.RowKit
/-- What a call on the writer may change: block g, the block of its bytes, new blocks. -/
structure WrStep (g : Nat) (bv : Value) (w : World) (bv' : Value) (w' : World) : Prop where
  os : w'.os = w.os
  tape : w'.tape = w.tape
  output : w'.output = w.output
  size : w.heap.size ≤ w'.heap.size
  keep : ∀ b, b < w.heap.size → b ≠ g → bv.ownBlock ≠ some b → w'.heap[b]? = w.heap[b]?
  own : bv'.ownBlock = bv.ownBlock ∨ bv'.ownBlock = none ∨ ∃ k, w.heap.size ≤ k ∧ bv'.ownBlock = some k
theorem WrStep.refl (g : Nat) (bv : Value) (w : World) : WrStep g bv w bv w := ⟨rfl, rfl, rfl, Nat.le_refl _, fun _ _ _ _ => rfl, .inl rfl⟩
theorem WrStep.trans {g : Nat} {bv bv1 bv2 : Value} {w w1 w2 : World} (h : WrStep g bv w bv1 w1) (h2 : WrStep g bv1 w1 bv2 w2) : WrStep g bv w bv2 w2 := by
  refine ⟨h2.os.trans h.os, h2.tape.trans h.tape, h2.output.trans h.output, Nat.le_trans h.size h2.size, fun b hb hg ho => ?_, ?_⟩
  · refine (h2.keep b (Nat.lt_of_lt_of_le hb h.size) hg ?_).trans (h.keep b hb hg ho)
    rcases h.own with e | e | ⟨k, hk, e⟩
    · rw [e]; exact ho
    · rw [e]; simp
    · rw [e]; intro e2; simp at e2; omega
  · rcases h2.own with e | e | ⟨k, hk, e⟩
    · rw [e]; exact h.own
    · exact .inr (.inl e)
    · exact .inr (.inr ⟨k, Nat.le_trans h.size hk, e⟩)
theorem WrStep.blk {g b : Nat} {bv bv' : Value} {w w' : World} {cs : List Value} {T : TypeId} (h : WrStep g bv w bv' w') (hB : Blk w b cs T) (hg : b ≠ g) (ho : bv.ownBlock ≠ some b) : Blk w' b cs T := (h.keep b hB.lt hg ho).trans hB
end Go.Proofs.YtpckoeicbjfnhaaGreatDoor
namespace Go.Proofs.YtpckoeicbjfnhaaGreatDoor
open Go.RowKit
end Go.Proofs.YtpckoeicbjfnhaaGreatDoor
namespace Go.Proofs.YtpckoeicbjfnhaaGreatDoor
open Go.RowKit
end Go.Proofs.YtpckoeicbjfnhaaGreatDoor
namespace Go.Proofs.YtpckoeicbjfnhaaGreatDoor
open Go.RowKit
end Go.Proofs.YtpckoeicbjfnhaaGreatDoor
namespace Go.Proofs.YtpckoeicbjfnhaaGreatDoor
open Go.RowKit
/-! How long the bytes are. -/
end Go.Proofs.YtpckoeicbjfnhaaGreatDoor
namespace Go.Proofs.YtpckoeicbjfnhaaGreatDoor
open Go.RowKit
end Go.Proofs.YtpckoeicbjfnhaaGreatDoor
namespace Go.Proofs.YtpckoeicbjfnhaaGreatDoor
open Go.RowKit
def TreePost (s : List Mes) (root : Int) (l : List UInt8) (d : Int) (w : World) (e : Ending) (w' : World) : Prop :=
  ∃ v', e = .returned (.tuple #[v', .int .u8 ((vcheck s root l d).2 : Nat)]) ∧ Below w.heap.size w w' ∧ (∃ a1 n1 c1 a2 n2 c2, v' = .agg #[.slice a1 n1 c1, .slice a2 n2 c2]) ∧ ((vcheck s root l d).2 = 0 → Apart 0 w.heap.size w' fun w2 => MsgAt (d.toNat + 1) w2 v' (tof s d.toNat root.toNat l))
set_option maxRecDepth 100000 in
set_option maxHeartbeats 4000000 in
theorem tree_Of {w : World} {vs vb : Value} {s : List Mes} {l : List UInt8} (hof : sright s = true → ∀ d', TOfOk w vs s d') (hS : SchemaAt w vs s) (hb : Bytes w vb l) (hl : l.length ≤ 1099511627776) (root d : Int) :
    Calls Tryz.prog 73 #[vs, .int .i64 root, vb, .int .i64 d] w (TreePost s root l d w) := by
  obtain ⟨W1, HW1⟩ : ∃ W1, Hid (W1 = w.alloc (.cells #[.slice none 0 0, .slice none 0 0] 27)) := ⟨_, rfl⟩
  have hbw : Below w.heap.size w W1 := by rw [HW1.out]; (repeat (first | with_reducible exact Below.refl _ _ | with_reducible refine Below.setCell ?_ (by first | omega | (simp; omega) | (simp; done)) _ | with_reducible refine Below.alloc ?_ (by first | omega | (simp; omega) | (simp; done)) _ | with_reducible refine below_drewN ?_ _ | with_reducible refine Below.drew ?_))
  have hbx : Blk W1 w.heap.size [.slice none 0 0, .slice none 0 0] 27 := by rw [HW1.out]; exact Blk.new w [.slice none 0 0, .slice none 0 0] _
  have HBW := hid hbw
  have HBX := hid hbx
  have HC := hid (valid_Check (hS.below hbw) (hb.below hbw) root d)
  have HOF := hid hof
  have HB := hid hb
  have HL := hid hl
  obtain ⟨-, sa, sc, rfl, -⟩ := hS.open
  obtain ⟨-, a, c, rfl, -⟩ := hb.open
  obtain ⟨n, HN⟩ : ∃ n, Hid (n = s.length) := ⟨_, rfl⟩
  obtain ⟨m, HM⟩ : ∃ n, Hid (n = l.length) := ⟨_, rfl⟩
  rw [← HN.out] at HC HOF ⊢
  rw [← HM.out] at HC HB ⊢
  obtain ⟨p, HP⟩ : ∃ p, Hid (p = (vcheck s root l d).1) := ⟨_, rfl⟩
  obtain ⟨z, HZ⟩ : ∃ z, Hid (z = (vcheck s root l d).2) := ⟨_, rfl⟩
  rw [← HP.out, ← HZ.out] at HC
  obtain ⟨Q, HQ⟩ : ∃ Q : Ending → World → Prop, Hid (Q = TreePost s root l d w) := ⟨_, rfl⟩
  rw [← HQ.out]
  clear hS hb hof hbw hbx
  obtain ⟨X, HX⟩ : ∃ X, Hid (X = w.heap.size) := ⟨_, rfl⟩
  rw [← HX.out] at HBX
  by_cases hz : z = 0
  · obtain ⟨g1, ⟨g2, g3⟩, ⟨g4, g5⟩, g6⟩ := vcheck_ok (HZ.out.symm.trans hz)
    obtain ⟨r, rfl⟩ : ∃ r : Nat, root = r := ⟨root.toNat, by omega⟩
    have HG := hid (And.intro g3 g6)
    have HOF2 := hid (HOF.out g1)
    subst hz
    clear g1 g2 g3 g4 g5 g6 hl
    go_enter Tryz.func73, Tryz.ntmps73
    go_wp2_with ((try rw [← HW1.out]); go_at_call 54; refine HC.out.mono ?_; rintro e w1 ⟨rfl, hb1⟩; have HB1 := hid (HBW.out.trans (hb1.mono HBW.out.size)); have hx1 := HBX.out.below hb1)
    have hv : (vmsg s d.toNat r l).2 = 0 := by have := HG.out.2; rwa [Int.toNat_natCast] at this
    refine (HOF2.out d.toNat r _ _ l (by have := HG.out.1; omega) HB1.out (HB.out.below HB1.out) HL.out hv).mono ?_
    rintro e w2 ⟨v', rfl, hb2, hap⟩
    obtain ⟨a1, n1, c1, a2, n2, c2, rfl⟩ := hap.here.form
    have hx2 := hx1.below hb2
    have hx0 := hx2.cell 0 _ rfl
    have hx1' := hx2.cell 1 _ rfl
    have hf0 := hx2.free 0
    have hf1 := hx2.free 1
    have hlX := hx2.lt
    rw [HX.out] at hx0 hx1' hf0 hf1 hlX
    go_wp2_with fail
    refine bodyPost_ret (v := .tuple #[.agg #[.slice a1 n1 c1, .slice a2 n2 c2], .int .u8 0]) ?_ rfl ?_
    · simp [results, Tryz.results73, go_sem, hx0, hx1']
    · rw [HQ.out]
      have hbf : Below w.heap.size w ((w2.setCell ⟨w.heap.size, 0, none⟩ (.slice a1 n1 c1)).setCell ⟨w.heap.size, 1, none⟩ (.slice a2 n2 c2)) :=
        ((HB1.out.trans (hb2.mono HB1.out.size)).setCell (Nat.le_refl _) _).setCell (Nat.le_refl _) _
      refine ⟨_, by rw [← HZ.out]; rfl, hbf, ⟨_, _, _, _, _, _, rfl⟩, fun _ w9 hw9 => ?_⟩
      rw [Int.toNat_natCast]
      have hs1 : w.heap.size < w1.heap.size := by have := hx1.lt; rw [HX.out] at this; exact this
      refine hap w9 fun b' hlt' hc => (hw9 b' (by simpa using hlt') (.inr (by omega))).trans ?_
      rw [Below.heap_setCell _ _ _ b' (by show b' ≠ w.heap.size; omega), Below.heap_setCell _ _ _ b' (by show b' ≠ w.heap.size; omega)]
  · have e1 : ((z : Int) != 0) = true := by simpa using hz
    have e2 : ((z : Int) == 0) = false := by simpa using hz
    go_enter Tryz.func73, Tryz.ntmps73
    go_wp2_with ((try rw [← HW1.out]); go_at_call 54; refine HC.out.mono ?_; rintro e w1 ⟨rfl, hb1⟩; have HB1 := hid (HBW.out.trans (hb1.mono HBW.out.size)); have hx2 := HBX.out.below hb1; have hx0 := hx2.cell 0 _ rfl; have hx1' := hx2.cell 1 _ rfl; have hf0 := hx2.free 0; have hf1 := hx2.free 1; have hlX := hx2.lt; rw [HX.out] at hx0 hx1' hf0 hf1 hlX)
    refine bodyPost_ret (v := .tuple #[.agg #[.slice none 0 0, .slice none 0 0], .int .u8 z]) ?_ rfl ?_
    · simp [results, Tryz.results73, go_sem, hx0, hx1']
    · rw [HQ.out]
      have hbf : Below w.heap.size w ((w1.setCell ⟨w.heap.size, 0, none⟩ (.slice none 0 0)).setCell ⟨w.heap.size, 1, none⟩ (.slice none 0 0)) := (HB1.out.setCell (Nat.le_refl _) _).setCell (Nat.le_refl _) _
      exact ⟨_, by rw [← HZ.out], hbf, ⟨_, _, _, _, _, _, rfl⟩, fun h9 => absurd (HZ.out.trans h9) hz⟩
end Go.Proofs.YtpckoeicbjfnhaaGreatDoor
