/- darninglaw15.alive: true. No condition. darninglaw15.big of any list of meanings: true or false. Each meaning weighs at most 2^40. At most 2^40 in the list. slices.Grow of nil, slices.Concat of two lists of ways; mask.Union. At most 2^40 ways. mask.Meet. darningref13: less, Of, Under. At most 2^40 ways. -/
import Derived.Test.YtaefpjecalnbcaaGreatZ07
import Derived.Test.YtaefpjecalnbcaaGreatZ10
import Derived.Test.YtaefpjecalnbcaaGreatZ12
import Derived.Test.YtaefpjecalnbcaaGreatZ26
import Derived.Test.YtaefpjecalnbcaaGreatZ28
import Derived.Lib.AppendZerosOnto
namespace Go.Proofs.YtaefpjecalnbcaaGreat
open Go.RowKit
def s15 : List Mes := [⟨⟨#[109]⟩, [⟨⟨#[97]⟩, 1, 3, false, false, 0⟩]⟩]
def v15 : Val (M 0) := ⟨1, [5], [], []⟩
def x15 : M 1 := (⟨[v15], [[16, 1]]⟩ : Msgd (M 0))
def y15 : M 1 := (⟨[], [[16, 1]]⟩ : Msgd (M 0))
def z15 : M 1 := (⟨[v15], [[16, 1], [16, 1]]⟩ : Msgd (M 0))
theorem light15 : LightW [[1]] := ⟨by decide, by simp⟩
theorem mask15 : mOf [[1]] = [[1]] := by decide +kernel
theorem part15 : partM s15 false 1 0 [[1]] x15 = y15 := by kernel_rfl
theorem join15 : joinM s15 1 0 y15 x15 = z15 := by kernel_rfl
theorem may15 : mayAll s15 0 [rightB s15 1 0 x15] = 0 := by decide +kernel
theorem may15b : mayAll s15 0 [rightB s15 1 0 y15, rightB s15 1 0 x15] = 0 := by decide +kernel
set_option maxRecDepth 100000 in
set_option maxHeartbeats 8000000 in
theorem law15_alive (w : World) : Calls Tryz.prog 6 #[] w fun e w' => e = .returned (.bool true) ∧ Below w.heap.size w w' := by
  obtain ⟨X, HX⟩ : ∃ X, Hid (X = w.heap.size) := ⟨_, rfl⟩
  obtain ⟨W1, HW1⟩ : ∃ W, Hid (W = ((w.alloc (.cells #[.string ⟨#[97]⟩, .int .i64 1, .int .i64 3, .bool false, .bool false, .int .i64 0] 59)).alloc (.cells #[.string ⟨#[109]⟩, .slice (some ⟨X, 0, none⟩) 1 1] 62))) := ⟨_, rfl⟩
  have hz1 : W1.heap.size = X + 1 + 1 := by rw [HW1.out, HX.out]; simp
  have hS : SchemaAt W1 (.slice (some ⟨X + 1, 0, none⟩) 1 1) s15 := by
    rw [HW1.out, HX.out]
    refine schema_one (Blk.new' _ [.string ⟨#[109]⟩, .slice (some ⟨w.heap.size, 0, none⟩) 1 1] _ _ (by simp)) (by decide) ?_
    refine fields_blk (Blk.alloc (Blk.new w _ _) _) 1 rfl (by omega) ?_
    intro f hf
    simp at hf
    rcases hf with rfl
    exact ⟨by decide, by decide, by decide, by decide⟩
  have hB1 : Below w.heap.size w W1 := by rw [HW1.out]; (repeat (first | with_reducible exact Below.refl _ _ | with_reducible refine Below.setCell ?_ (by first | omega | (simp; omega) | (simp; done)) _ | with_reducible refine Below.alloc ?_ (by first | omega | (simp; omega) | (simp; done)) _ | with_reducible refine below_drewN ?_ _ | with_reducible refine Below.drew ?_))
  obtain ⟨W2, HW2⟩ : ∃ W, Hid (W = (((W1.alloc (.cells #[.int .u64 5] 63)).alloc (.cells #[.int .i64 1, .slice (some ⟨X + 1 + 1, 0, none⟩) 1 1, .slice none 0 0, .slice none 0 0] 67)).alloc (.cells #[.string ⟨#[16, 1]⟩] 9)).alloc (.cells #[.slice (some ⟨X + 1 + 1 + 1, 0, none⟩) 1 1, .slice (some ⟨X + 1 + 1 + 1 + 1, 0, none⟩) 1 1] 27)) := ⟨_, rfl⟩
  have hb12 : Below W1.heap.size W1 W2 := by rw [HW2.out]; (repeat (first | with_reducible exact Below.refl _ _ | with_reducible refine Below.setCell ?_ (by first | omega | (simp; omega) | (simp; done)) _ | with_reducible refine Below.alloc ?_ (by first | omega | (simp; omega) | (simp; done)) _ | with_reducible refine below_drewN ?_ _ | with_reducible refine Below.drew ?_))
  have hz2 : W2.heap.size = X + 1 + 1 + 1 + 1 + 1 + 1 := by rw [HW2.out]; simp [hz1]
  have hm2 : Blk W2 (X + 1 + 1 + 1 + 1 + 1) [.slice (some ⟨X + 1 + 1 + 1, 0, none⟩) 1 1, .slice (some ⟨X + 1 + 1 + 1 + 1, 0, none⟩) 1 1] 27 := by rw [HW2.out]; exact Blk.new' _ [.slice (some ⟨X + 1 + 1 + 1, 0, none⟩) 1 1, .slice (some ⟨X + 1 + 1 + 1 + 1, 0, none⟩) 1 1] _ _ (by simp [hz1])
  have b0 : Blk W2 (X + 1 + 1) [.int .u64 5] 63 := by rw [HW2.out]; exact (((Blk.new' _ [.int .u64 5] _ _ hz1.symm).alloc _).alloc _).alloc _
  have b1 : Blk W2 (X + 1 + 1 + 1) [.int .i64 1, .slice (some ⟨X + 1 + 1, 0, none⟩) 1 1, .slice none 0 0, .slice none 0 0] 67 := by rw [HW2.out]; exact ((Blk.new' _ [.int .i64 1, .slice (some ⟨X + 1 + 1, 0, none⟩) 1 1, .slice none 0 0, .slice none 0 0] _ _ (by simp [hz1])).alloc _).alloc _
  have b2 : Blk W2 (X + 1 + 1 + 1 + 1) [.string ⟨#[16, 1]⟩] 9 := by rw [HW2.out]; exact (Blk.new' _ [.string ⟨#[16, 1]⟩] _ _ (by simp [hz1])).alloc _
  have hM : MsgAt 1 W2 (.agg #[.slice (some ⟨X + 1 + 1 + 1, 0, none⟩) 1 1, .slice (some ⟨X + 1 + 1 + 1 + 1, 0, none⟩) 1 1]) x15 :=
    ⟨_, _, rfl, vals_one (d := 0) (x := v15) b1 ⟨_, _, _, rfl, by decide, words_blk (l := [5]) b0 1 rfl (by omega) (by simp), strs_nil _, rowsAt_nil _ _ _⟩, ⟨seg_blk (cs := [[16, 1]].map strV) b2 1 1 rfl (by omega), by decide⟩⟩
  have HS := hid (hS.below hb12)
  have HM := hid hM
  have HB2 := hid (hB1.trans (hb12.mono hB1.size))
  have HV0 : Hid (W2.cell? ⟨X + 1 + 1 + 1 + 1 + 1, 0, none⟩ = some (.slice (some ⟨X + 1 + 1 + 1, 0, none⟩) 1 1) ∧ W2.cell? ⟨X + 1 + 1 + 1 + 1 + 1, 1, none⟩ = some (.slice (some ⟨X + 1 + 1 + 1 + 1, 0, none⟩) 1 1)) := ⟨hm2.cell 0 _ rfl, hm2.cell 1 _ rfl⟩
  have HZ1 := hid hz1
  have HZ2 := hid hz2
  clear hz1 hS hB1 hb12 hz2 hm2 b0 b1 b2 hM
  go_enter Tryz.func6, Tryz.ntmps6
  go_upto_region 2 with fail
  rw [← HX.out, ← HW1.out]
  go_upto_region 3 with fail
  rw [HZ1.out, ← HW2.out]
  refine wp_region_float1 (fun w' => Below W2.heap.size W2 w' ∧ w'.cell? ⟨X + 1 + 1 + 1 + 1 + 1, 0, none⟩ = some (.slice (some ⟨X + 1 + 1 + 1, 0, none⟩) 1 1) ∧ w'.cell? ⟨X + 1 + 1 + 1 + 1 + 1, 1, none⟩ = some (.slice (some ⟨X + 1 + 1 + 1 + 1, 0, none⟩) 1 1)) 10 ⟨9, 3, [.slice none 0 0, .slice none 0 0], 27⟩ [(0, 0), (1, 0), (2, 1), (3, 1), (4, 1), (5, 1), (6, 0), (7, 0), (8, 0)] [(10, 2, 0), (11, 0, 0)] (by kernel_rfl) rfl rfl (by kernel_rfl) (by kernel_rfl) (fun _ _ dst _ _ h => by cases dst <;> exact h) ⟨_, rfl, rfl, rfl, fun a w => by kernel_rfl⟩ (fun w w' h hb => ⟨h.1.trans (hb.mono h.1.size), ⟨below_keeps hb _ _ h.2.1, below_keeps hb _ _ h.2.2⟩⟩) W2.heap.size (fun w h => h.1.size) ⟨(Below.refl _ _).drew, HV0.out⟩ (fun OPS _ => ?_)
  simp only [List.map_cons, List.map_nil, List.filterMap_cons, List.filterMap_nil, List.getElem?_cons_succ, List.getElem?_cons_zero]
  refine seqF1_q (v := ?v0) ?hy0 ?hr0
  case hy0 => (intro u w hw; unfold actF1; simp only [Act.put, List.setIfInBounds_toArray, List.set_cons_zero, List.set_cons_succ]; go_simp; all_goals rfl)
  simp only [Act.put, List.setIfInBounds_toArray, List.set_cons_zero, List.set_cons_succ]
  refine seqF1_q (v := ?v1) ?hy1 ?hr1
  case hy1 => (intro u w hw; unfold actF1; simp only [Act.put, List.setIfInBounds_toArray, List.set_cons_zero, List.set_cons_succ]; go_simp; all_goals rfl)
  simp only [Act.put, List.setIfInBounds_toArray, List.set_cons_zero, List.set_cons_succ]
  intro u w3 hV3 K HKK
  have HV3 := hid hV3
  have hKK := HKK.out
  clear hV3 HKK
  simp only [actF1, Act.put, List.setIfInBounds_toArray, List.set_cons_zero, List.set_cons_succ] at hKK ⊢
  have HKK := hid hKK
  clear hKK
  go_wp2_with fail
  obtain ⟨i1, HI1⟩ : ∃ n, Hid (n = w3.heap.size) := ⟨_, rfl⟩
  have hbA : Below w3.heap.size w3 (w3.alloc (.cells #[.int .i64 1] 3)) := (Below.refl _ _).alloc (Nat.le_refl _) _
  have hBk : Blk (w3.alloc (.cells #[.int .i64 1] 3)) i1 [.int .i64 1] 3 := by rw [HI1.out]; exact Blk.new w3 [.int .i64 1] _
  have HS0 : Hid (∀ W W' : World, (Below W2.heap.size W2 W ∧ W.cell? ⟨X + 1 + 1 + 1 + 1 + 1, 0, none⟩ = some (.slice (some ⟨X + 1 + 1 + 1, 0, none⟩) 1 1) ∧ W.cell? ⟨X + 1 + 1 + 1 + 1 + 1, 1, none⟩ = some (.slice (some ⟨X + 1 + 1 + 1 + 1, 0, none⟩) 1 1)) → Below W.heap.size W W' → (Below W2.heap.size W2 W' ∧ W'.cell? ⟨X + 1 + 1 + 1 + 1 + 1, 0, none⟩ = some (.slice (some ⟨X + 1 + 1 + 1, 0, none⟩) 1 1) ∧ W'.cell? ⟨X + 1 + 1 + 1 + 1 + 1, 1, none⟩ = some (.slice (some ⟨X + 1 + 1 + 1 + 1, 0, none⟩) 1 1))) := fun W W' h hb => ⟨h.1.trans (hb.mono h.1.size), ⟨below_keeps hb _ _ h.2.1, below_keeps hb _ _ h.2.2⟩⟩
  rw [← HI1.out]
  refine HKK.out _ _ (fun W => ((Below W2.heap.size W2 W ∧ W.cell? ⟨X + 1 + 1 + 1 + 1 + 1, 0, none⟩ = some (.slice (some ⟨X + 1 + 1 + 1, 0, none⟩) 1 1) ∧ W.cell? ⟨X + 1 + 1 + 1 + 1 + 1, 1, none⟩ = some (.slice (some ⟨X + 1 + 1 + 1 + 1, 0, none⟩) 1 1)) ∧ Blk W i1 [.int .i64 1] 3)) (fun W W' h hb => ⟨HS0.out W W' h.1 hb, h.2.below hb⟩) (fun W h => h.1) (fun W h => h.2.lt |> fun hl => by rw [World.size_alloc]; rw [← HI1.out]; exact hl) ⟨HS0.out _ _ HV3.out hbA, hBk⟩ hbA ?_
  clear HKK HV3 hbA hBk u
  intro u w4 hV4 K HKK
  have HV4 := hid hV4
  have hKK := HKK.out
  clear hV4 HKK
  simp only [actF1, Act.put, List.setIfInBounds_toArray, List.set_cons_zero, List.set_cons_succ] at hKK ⊢
  have HKK := hid hKK
  clear hKK
  go_wp2_with fail
  obtain ⟨i2, HI2⟩ : ∃ n, Hid (n = w4.heap.size) := ⟨_, rfl⟩
  have hbA : Below w4.heap.size w4 (w4.alloc (.cells #[.slice (some ⟨i1, 0, none⟩) 1 1] 68)) := (Below.refl _ _).alloc (Nat.le_refl _) _
  have hBk : Blk (w4.alloc (.cells #[.slice (some ⟨i1, 0, none⟩) 1 1] 68)) i2 [.slice (some ⟨i1, 0, none⟩) 1 1] 68 := by rw [HI2.out]; exact Blk.new w4 [.slice (some ⟨i1, 0, none⟩) 1 1] _
  have HS1 : Hid (∀ W W' : World, ((Below W2.heap.size W2 W ∧ W.cell? ⟨X + 1 + 1 + 1 + 1 + 1, 0, none⟩ = some (.slice (some ⟨X + 1 + 1 + 1, 0, none⟩) 1 1) ∧ W.cell? ⟨X + 1 + 1 + 1 + 1 + 1, 1, none⟩ = some (.slice (some ⟨X + 1 + 1 + 1 + 1, 0, none⟩) 1 1)) ∧ Blk W i1 [.int .i64 1] 3) → Below W.heap.size W W' → ((Below W2.heap.size W2 W' ∧ W'.cell? ⟨X + 1 + 1 + 1 + 1 + 1, 0, none⟩ = some (.slice (some ⟨X + 1 + 1 + 1, 0, none⟩) 1 1) ∧ W'.cell? ⟨X + 1 + 1 + 1 + 1 + 1, 1, none⟩ = some (.slice (some ⟨X + 1 + 1 + 1 + 1, 0, none⟩) 1 1)) ∧ Blk W' i1 [.int .i64 1] 3)) := fun W W' h hb => ⟨HS0.out W W' h.1 hb, h.2.below hb⟩
  rw [← HI2.out]
  refine HKK.out _ _ (fun W => (((Below W2.heap.size W2 W ∧ W.cell? ⟨X + 1 + 1 + 1 + 1 + 1, 0, none⟩ = some (.slice (some ⟨X + 1 + 1 + 1, 0, none⟩) 1 1) ∧ W.cell? ⟨X + 1 + 1 + 1 + 1 + 1, 1, none⟩ = some (.slice (some ⟨X + 1 + 1 + 1 + 1, 0, none⟩) 1 1)) ∧ Blk W i1 [.int .i64 1] 3) ∧ Blk W i2 [.slice (some ⟨i1, 0, none⟩) 1 1] 68)) (fun W W' h hb => ⟨HS1.out W W' h.1 hb, h.2.below hb⟩) (fun W h => h.1) (fun W h => h.2.lt |> fun hl => by rw [World.size_alloc]; rw [← HI2.out]; exact hl) ⟨HS1.out _ _ HV4.out hbA, hBk⟩ hbA ?_
  clear HKK HV4 hbA hBk u
  intro u w5 hV5 K HKK
  have HV5 := hid hV5
  have hKK := HKK.out
  clear hV5 HKK
  simp only [actF1, Act.put, List.setIfInBounds_toArray, List.set_cons_zero, List.set_cons_succ] at hKK ⊢
  have HKK := hid hKK
  clear hKK
  have hI : IntsAt w5 (.slice (some ⟨i1, 0, none⟩) 1 1) [1] := ⟨seg_blk (cs := [.int .i64 1]) HV5.out.1.2 1 1 rfl (by omega), by simp [i64ok]⟩
  have hWY : WaysAt w5 (.slice (some ⟨i2, 0, none⟩) 1 1) [[1]] := by
    refine ⟨[[.slice (some ⟨i1, 0, none⟩) 1 1]], rfl, by simp, by simpa using seg_blk (cs := [.slice (some ⟨i1, 0, none⟩) 1 1]) HV5.out.2 1 1 rfl (by omega), fun i r x hr hx => ?_⟩
    match i with
    | 0 =>
      simp at hr hx
      subst hr
      subst hx
      exact ⟨_, rfl, hI⟩
    | i + 1 => simp at hr
  have HMO := hid (mask_Of hWY light15)
  rw [mask15] at HMO
  clear hI hWY
  go_wp2_with fail
  refine HMO.out.mono ?_
  rintro e w6 hpost
  obtain ⟨ma, mc, rfl, -, hb6, hNW⟩ := hpost.open
  have hWa : Apart 0 w5.heap.size w6 fun W => WaysAt W (.slice ma [[1]].length mc) [[1]] := by
    obtain ⟨-, base, hbs, hro⟩ := hNW
    exact fun W hW => hro.at (by decide) fun b hb hc => hW b hb (hc.imp id fun h => Nat.le_trans hbs h)
  clear hNW
  replace hWa := kept2_of hWa
  obtain ⟨i5, HI5⟩ : ∃ n, Hid (n = w5.heap.size) := ⟨_, rfl⟩
  obtain ⟨i6, HI6⟩ : ∃ n, Hid (n = w6.heap.size) := ⟨_, rfl⟩
  rw [← HI5.out, ← HI6.out] at hWa
  have HS2 : Hid (∀ W W' : World, (((Below W2.heap.size W2 W ∧ W.cell? ⟨X + 1 + 1 + 1 + 1 + 1, 0, none⟩ = some (.slice (some ⟨X + 1 + 1 + 1, 0, none⟩) 1 1) ∧ W.cell? ⟨X + 1 + 1 + 1 + 1 + 1, 1, none⟩ = some (.slice (some ⟨X + 1 + 1 + 1 + 1, 0, none⟩) 1 1)) ∧ Blk W i1 [.int .i64 1] 3) ∧ Blk W i2 [.slice (some ⟨i1, 0, none⟩) 1 1] 68) → Below W.heap.size W W' → (((Below W2.heap.size W2 W' ∧ W'.cell? ⟨X + 1 + 1 + 1 + 1 + 1, 0, none⟩ = some (.slice (some ⟨X + 1 + 1 + 1, 0, none⟩) 1 1) ∧ W'.cell? ⟨X + 1 + 1 + 1 + 1 + 1, 1, none⟩ = some (.slice (some ⟨X + 1 + 1 + 1 + 1, 0, none⟩) 1 1)) ∧ Blk W' i1 [.int .i64 1] 3) ∧ Blk W' i2 [.slice (some ⟨i1, 0, none⟩) 1 1] 68)) := fun W W' h hb => ⟨HS1.out W W' h.1 hb, h.2.below hb⟩
  unfold maskV at *
  simp only [List.length_cons, List.length_nil, Nat.zero_add] at hWa ⊢
  go_wp2_with fail
  refine HKK.out _ _ (fun W => ((((Below W2.heap.size W2 W ∧ W.cell? ⟨X + 1 + 1 + 1 + 1 + 1, 0, none⟩ = some (.slice (some ⟨X + 1 + 1 + 1, 0, none⟩) 1 1) ∧ W.cell? ⟨X + 1 + 1 + 1 + 1 + 1, 1, none⟩ = some (.slice (some ⟨X + 1 + 1 + 1 + 1, 0, none⟩) 1 1)) ∧ Blk W i1 [.int .i64 1] 3) ∧ Blk W i2 [.slice (some ⟨i1, 0, none⟩) 1 1] 68) ∧ (i6 ≤ W.heap.size ∧ Kept2 0 i5 i6 W (fun W' => WaysAt W' (.slice ma 1 mc) [[1]])))) (fun W W' h hb => ⟨HS2.out W W' h.1 hb, Nat.le_trans h.2.1 hb.size, h.2.2.below (Nat.zero_le _) h.2.1 hb⟩) (fun W h => h.1) (fun W h => by rw [← HI6.out]; exact h.2.1) ⟨HS2.out _ _ HV5.out hb6, by rw [HI6.out]; exact Nat.le_refl _, hWa⟩ hb6 ?_
  clear HKK HV5 hb6 hpost hWa u HMO
  intro u w7 hV7 K HKK
  have HV7 := hid hV7
  have hKK := HKK.out
  clear hV7 HKK
  simp only [actF1, Act.put, List.setIfInBounds_toArray, List.set_cons_zero, List.set_cons_succ] at hKK ⊢
  have HKK := hid hKK
  clear hKK
  have HLV := hid (alg_Leave (HS.out.below HV7.out.1.1.1.1) 0 (HM.out.below HV7.out.1.1.1.1) HV7.out.2.2.here light15 (by decide +kernel))
  rw [may15, mask15] at HLV
  unfold maskV at HLV
  go_wp2_with fail
  refine HLV.out.mono ?_
  rintro e w8 ⟨hb8, -, hz8⟩
  obtain ⟨l1, l2, l3, r1, r2, r3, rfl, hap8⟩ := hz8 rfl
  have hap8' : Apart 0 w7.heap.size w8 fun W => MsgAt 1 W (.agg #[.slice l1 l2 l3, .slice r1 r2 r3]) y15 := by
    have h := part15
    change partM s15 false 1 (0 : Int).toNat [[1]] x15 = y15 at h
    rw [h] at hap8
    exact hap8
  have HS3 : Hid (∀ W W' : World, ((((Below W2.heap.size W2 W ∧ W.cell? ⟨X + 1 + 1 + 1 + 1 + 1, 0, none⟩ = some (.slice (some ⟨X + 1 + 1 + 1, 0, none⟩) 1 1) ∧ W.cell? ⟨X + 1 + 1 + 1 + 1 + 1, 1, none⟩ = some (.slice (some ⟨X + 1 + 1 + 1 + 1, 0, none⟩) 1 1)) ∧ Blk W i1 [.int .i64 1] 3) ∧ Blk W i2 [.slice (some ⟨i1, 0, none⟩) 1 1] 68) ∧ (i6 ≤ W.heap.size ∧ Kept2 0 i5 i6 W (fun W' => WaysAt W' (.slice ma 1 mc) [[1]]))) → Below W.heap.size W W' → ((((Below W2.heap.size W2 W' ∧ W'.cell? ⟨X + 1 + 1 + 1 + 1 + 1, 0, none⟩ = some (.slice (some ⟨X + 1 + 1 + 1, 0, none⟩) 1 1) ∧ W'.cell? ⟨X + 1 + 1 + 1 + 1 + 1, 1, none⟩ = some (.slice (some ⟨X + 1 + 1 + 1 + 1, 0, none⟩) 1 1)) ∧ Blk W' i1 [.int .i64 1] 3) ∧ Blk W' i2 [.slice (some ⟨i1, 0, none⟩) 1 1] 68) ∧ (i6 ≤ W'.heap.size ∧ Kept2 0 i5 i6 W' (fun W' => WaysAt W' (.slice ma 1 mc) [[1]])))) := fun W W' h hb => ⟨HS2.out W W' h.1 hb, Nat.le_trans h.2.1 hb.size, h.2.2.below (Nat.zero_le _) h.2.1 hb⟩
  obtain ⟨i3, HI3⟩ : ∃ n, Hid (n = w7.heap.size) := ⟨_, rfl⟩
  obtain ⟨i4, HI4⟩ : ∃ n, Hid (n = w8.heap.size) := ⟨_, rfl⟩
  have hkp := kept2_of hap8'
  rw [← HI3.out, ← HI4.out] at hkp
  go_wp2_with fail
  refine HKK.out _ _ (fun W => (((((Below W2.heap.size W2 W ∧ W.cell? ⟨X + 1 + 1 + 1 + 1 + 1, 0, none⟩ = some (.slice (some ⟨X + 1 + 1 + 1, 0, none⟩) 1 1) ∧ W.cell? ⟨X + 1 + 1 + 1 + 1 + 1, 1, none⟩ = some (.slice (some ⟨X + 1 + 1 + 1 + 1, 0, none⟩) 1 1)) ∧ Blk W i1 [.int .i64 1] 3) ∧ Blk W i2 [.slice (some ⟨i1, 0, none⟩) 1 1] 68) ∧ (i6 ≤ W.heap.size ∧ Kept2 0 i5 i6 W (fun W' => WaysAt W' (.slice ma 1 mc) [[1]]))) ∧ i4 ≤ W.heap.size ∧ Kept2 0 i3 i4 W (fun W' => MsgAt 1 W' (.agg #[.slice l1 l2 l3, .slice r1 r2 r3]) y15))) (fun W W' h hb => ⟨HS3.out W W' h.1 hb, Nat.le_trans h.2.1 hb.size, h.2.2.below (Nat.zero_le _) h.2.1 hb⟩) (fun W h => h.1) (fun W h => by rw [← HI4.out]; exact h.2.1) ⟨HS3.out _ _ HV7.out hb8, by rw [HI4.out]; exact Nat.le_refl _, hkp⟩ hb8 ?_
  clear HKK HV7 hb8 hz8 hap8 hap8' hkp HLV u
  refine seqF1_q (v := ?v20) ?hy20 ?hr20
  case hy20 => (intro u w hw; unfold actF1; simp only [Act.put, List.setIfInBounds_toArray, List.set_cons_zero, List.set_cons_succ]; go_simp; all_goals rfl)
  simp only [Act.put, List.setIfInBounds_toArray, List.set_cons_zero, List.set_cons_succ]
  refine seqF1_q (v := ?v21) ?hy21 ?hr21
  case hy21 => (intro u w hw; unfold actF1; simp only [Act.put, List.setIfInBounds_toArray, List.set_cons_zero, List.set_cons_succ]; go_simp; all_goals rfl)
  simp only [Act.put, List.setIfInBounds_toArray, List.set_cons_zero, List.set_cons_succ]
  refine seqF1_q (v := ?v22) ?hy22 ?hr22
  case hy22 => (intro u w hw; unfold actF1; simp only [Act.put, List.setIfInBounds_toArray, List.set_cons_zero, List.set_cons_succ]; go_simp; all_goals rfl)
  simp only [Act.put, List.setIfInBounds_toArray, List.set_cons_zero, List.set_cons_succ]
  intro p w11 hV11 hP hR hk
  unfold actF1 ptrF
  simp only [Act.put, List.setIfInBounds_toArray, List.set_cons_zero, List.set_cons_succ]
  have hr5 := hR (w5.heap.size, w6.heap.size) (by simp)
  have hr7 := hR (w7.heap.size, w8.heap.size) (by simp)
  rw [← HI5.out, ← HI6.out] at hr5
  rw [← HI3.out, ← HI4.out] at hr7
  obtain ⟨Y, HY⟩ : ∃ Y, Hid (Y = (w11.setCell ⟨p, 0, none⟩ (.slice l1 l2 l3)).setCell ⟨p, 1, none⟩ (.slice r1 r2 r3)) := ⟨_, rfl⟩
  have hk1 := hk.set 0 (.slice l1 l2 l3)
  have hk2 := hk1.set 1 (.slice r1 r2 r3)
  have hbut := (But.set hk 0 (.slice l1 l2 l3)).trans (But.set hk1 1 (.slice r1 r2 r3))
  rw [← HY.out] at hk2 hbut
  have hp1 : i1 ≠ p := by
    rintro rfl
    have h1 := hV11.1.1.1.2
    have h2 := h1.symm.trans hk
    simp at h2
  have hp2 : i2 ≠ p := by
    rintro rfl
    have h1 := hV11.1.1.2
    have h2 := h1.symm.trans hk
    simp at h2
  have hYB : Below W2.heap.size W2 Y := hV11.1.1.1.1.1.trans (hbut.to_below hP hV11.1.1.1.1.1.size)
  have hxp : X + 1 + 1 + 1 + 1 + 1 ≠ p := by have := HZ2.out; omega
  have hVY : ((((Below W2.heap.size W2 Y ∧ Y.cell? ⟨X + 1 + 1 + 1 + 1 + 1, 0, none⟩ = some (.slice (some ⟨X + 1 + 1 + 1, 0, none⟩) 1 1) ∧ Y.cell? ⟨X + 1 + 1 + 1 + 1 + 1, 1, none⟩ = some (.slice (some ⟨X + 1 + 1 + 1 + 1, 0, none⟩) 1 1)) ∧ Blk Y i1 [.int .i64 1] 3) ∧ Blk Y i2 [.slice (some ⟨i1, 0, none⟩) 1 1] 68) ∧ (i6 ≤ Y.heap.size ∧ Kept2 0 i5 i6 Y (fun W' => WaysAt W' (.slice ma 1 mc) [[1]]))) ∧ i4 ≤ Y.heap.size ∧ Kept2 0 i3 i4 Y (fun W' => MsgAt 1 W' (.agg #[.slice l1 l2 l3, .slice r1 r2 r3]) y15) :=
    ⟨⟨⟨⟨⟨hYB, (World.cell?_of_block (hbut.block _ (World.block_lt_of_cell? w11 _ hV11.1.1.1.1.2.1) hxp)).trans hV11.1.1.1.1.2.1, (World.cell?_of_block (hbut.block _ (World.block_lt_of_cell? w11 _ hV11.1.1.1.1.2.2) hxp)).trans hV11.1.1.1.1.2.2⟩, hbut.blk hV11.1.1.1.2 hp1⟩, hbut.blk hV11.1.1.2 hp2⟩, Nat.le_trans hV11.1.2.1 hbut.size, hV11.1.2.2.but hbut hV11.1.2.1 hr5⟩, Nat.le_trans hV11.2.1 hbut.size, hV11.2.2.but hbut hV11.2.1 hr7⟩
  have HVY := hid hVY
  have HK2 := hid hk2
  have HMY := hid hVY.2.2.here
  have HYB := hid hYB
  have p0 := hk.cell 0 _ rfl
  have p1 := hk.cell 1 _ rfl
  have f0 := hk.free 0
  have f1 := hk.free 1
  have pl := hk.lt
  clear hV11 hk hk1 hk2 hbut hP hR hr5 hr7 hYB hVY hp1 hp2 hxp
  refine seqH2 (fun K12 HK12 => ?_)
  go_wp2_with fail
  rw [← HY.out]
  refine HK12.out _ _ HVY.out ?_
  clear HK12 K12 p0 p1 f0 f1 pl
  intro _
  refine seqH0 (v := ?v30) ?hy30 ?hr30
  case hy30 => (intro w hw; go_simp; all_goals rfl)
  simp only [Act.put, List.setIfInBounds_toArray, List.set_cons_zero, List.set_cons_succ]
  refine seqH_end ?_
  have q0 := HK2.out.cell 0 _ rfl
  have q1 := HK2.out.cell 1 _ rfl
  have ql := HK2.out.lt
  have x0 := HVY.out.1.1.1.1.2.1
  have x1 := HVY.out.1.1.1.1.2.2
  have xl := World.block_lt_of_cell? Y _ x0
  have HJ := hid (alg_Join (HS.out.below HYB.out) 0 HMY.out (HM.out.below HYB.out) (by decide +kernel) (by decide +kernel))
  rw [may15b, join15] at HJ
  have HE := hid (HB2.out.trans (HYB.out.mono HB2.out.size))
  obtain ⟨hl2, hr2⟩ : l2 = 0 ∧ r2 = 1 := by
    obtain ⟨vv, uv, e, h1, h2⟩ := HMY.out
    cases e
    obtain ⟨-, _, _, e1, -⟩ := h1.open
    obtain ⟨-, _, _, e2, -⟩ := h2.open
    injection e1 with _ e1 _
    injection e2 with _ e2 _
    exact ⟨e1, e2⟩
  subst hl2 hr2
  clear HVY HMY HS0 HS1 HS2 HS3 HV0
  go_wp2_with fail
  refine HJ.out.mono ?_
  rintro e w12 ⟨hb12, -, hz12⟩
  obtain ⟨m1, m2, m3, o1, o2, o3, rfl, hap12⟩ := hz12 rfl
  have hM12 := hap12.here
  obtain ⟨hm2, ho2⟩ : m2 = 1 ∧ o2 = 2 := by
    obtain ⟨vv, uv, e, h1, h2⟩ := hM12
    cases e
    obtain ⟨-, _, _, e1, -⟩ := h1.open
    obtain ⟨-, _, _, e2, -⟩ := h2.open
    injection e1 with _ e1 _
    injection e2 with _ e2 _
    exact ⟨e1, e2⟩
  subst hm2 ho2
  obtain ⟨W13, HW13⟩ : ∃ W, Hid (W = w12.alloc (.cells #[.slice m1 1 m3, .slice o1 2 o3] 27)) := ⟨_, rfl⟩
  have hb13 : Below w12.heap.size w12 W13 := by rw [HW13.out]; exact (Below.refl _ _).alloc (Nat.le_refl _) _
  have hg13 : Blk W13 w12.heap.size [.slice m1 1 m3, .slice o1 2 o3] 27 := by rw [HW13.out]; exact Blk.new w12 [.slice m1 1 m3, .slice o1 2 o3] _
  have hk13 := HK2.out.below (hb12.trans (hb13.mono hb12.size))
  have HE13 := hid (HE.out.trans ((hb12.trans (hb13.mono hb12.size)).mono HE.out.size))
  clear q0 q1 ql x0 x1 xl
  have q0 := hk13.cell 0 _ rfl
  have q1 := hk13.cell 1 _ rfl
  have ql := hk13.lt
  have g0 := hg13.cell 0 _ rfl
  have g1 := hg13.cell 1 _ rfl
  have gl := hg13.lt
  obtain ⟨G, HG⟩ : ∃ G, Hid (G = w12.heap.size) := ⟨_, rfl⟩
  rw [← HG.out] at g0 g1 gl
  clear hb12 hz12 hap12 hM12 hb13 hg13 hk13
  go_upto_region 5 with fail
  rw [← HW13.out, ← HG.out]
  go_wp2_with fail
  go_ret
  exact ⟨by simp, HE13.out⟩
end Go.Proofs.YtaefpjecalnbcaaGreat
namespace Go.Proofs.YtaefpjecalnbcaaGreat
open Go.RowKit
/-- The messages of a variadic list: at each index two cells, a message's. -/
def MsgsAt (w : World) (g n : Nat) : Prop := ∀ i, i < n → ∃ v1 v2 d, ∃ x : M d, w.cell? ⟨g, i * 2, none⟩ = some v1 ∧ w.cell? ⟨g, i * 2 + 1, none⟩ = some v2 ∧ MsgAt d w (.agg #[v1, v2]) x ∧ mwt d x ≤ 1099511627776
set_option maxRecDepth 100000 in
set_option maxHeartbeats 4000000 in
theorem law15_big {w : World} {g n c : Nat} (h : MsgsAt w g n) (hnb : n ≤ 1099511627776) :
    Calls Tryz.prog 8 #[.slice (some ⟨g, 0, none⟩) n c] w fun e w' => (∃ b, e = .returned (.bool b)) ∧ Below w.heap.size w w' := by
  have HM := hid h
  clear h
  go_enter Tryz.func8, Tryz.ntmps8
  go_wp2_with fail
  go_loopw [3] (fun v3 wr => ∃ i : Nat, v3 = .int .i64 i ∧ i ≤ n ∧ Hid (Below w.heap.size w wr)) (fun v3 _ => n - (intOf v3).toNat)
  case atStart => exact ⟨0, rfl, by omega, Below.refl _ _⟩
  case round =>
    obtain ⟨i, rfl, hi, HB⟩ := hrel
    by_cases hlt : i < n
    · have hm := HM.out
      obtain ⟨v1, v2, d, x, g0, g1, hM, hw⟩ := hm i hlt
      clear hm
      obtain ⟨a1, n1, c1, a2, n2, c2, he⟩ := hM.form
      cases he
      replace g0 := below_keeps HB.out _ _ g0
      replace g1 := below_keeps HB.out _ _ g1
      have hbl : g < wr.heap.size := World.block_lt_of_cell? wr _ g0
      have hix := index_run Tryz.underlying65 size_msg (a := some ⟨g, 0, none⟩) rfl i hlt (cap := c)
      simp only [Nat.zero_add] at hix
      have HSZ := hid (law14_Size 71 d (by decide) wr _ x (hM.below HB.out) hw)
      obtain ⟨z, HZ⟩ : ∃ z, Hid (z = szM 71 d x) := ⟨_, rfl⟩
      rw [← HZ.out] at HSZ
      have hco : ((71 : Nat) : Int) - 1 = 70 := by decide
      rw [hco] at HSZ
      clear hM hw hco HZ
      by_cases hz : (2000 : Int) < z
      · go_wp2_with (go_at_call 25; refine HSZ.out.mono ?_; rintro e w1 ⟨rfl, hb1⟩)
        go_ret
        exact ⟨⟨_, rfl⟩, HB.out.trans (hb1.mono HB.out.size)⟩
      · go_wp2_with (go_at_call 25; refine HSZ.out.mono ?_; rintro e w1 ⟨rfl, hb1⟩)
        have HB1 := hid (HB.out.trans (hb1.mono HB.out.size))
        clear hb1
        go_roundw
        case rel => exact ⟨i + 1, by go_num, hlt, HB1.out⟩
        case measure => simp [intOf]; omega
    · obtain rfl : i = n := by omega
      go_wp2_with fail
      go_ret
      exact ⟨⟨_, rfl⟩, HB.out⟩
end Go.Proofs.YtaefpjecalnbcaaGreat
namespace Go.Proofs.YtaefpjecalnbcaaGreat
open Go.RowKit
theorem flatten_one {α : Type} (f : α → Value) : ∀ l : List α, (l.map fun p => [f p]).flatten = l.map f
  | [] => rfl
  | p :: l => by rw [List.map_cons, List.flatten_cons, flatten_one f l, List.map_cons]; rfl
/-- ways in a row, whose values were there before -/
theorem ways_of_row {w w0 : World} {v : Value} (ps : List (WV w0)) (h : Seg w v 1 ps.length (ps.map WV.val)) (hk : ∀ p u, w0.cell? p = some u → w.cell? p = some u) : WaysAt w v (ps.map WV.way) := by
  refine ⟨ps.map fun p => [p.val], by simp, by intro r hr; obtain ⟨p, -, rfl⟩ := List.mem_map.1 hr; rfl, ?_, ?_⟩
  · have e := flatten_one WV.val ps
    rw [e, List.length_map]; exact h
  · intro i r x hr hx
    rw [List.getElem?_map] at hr hx
    obtain ⟨p, hp, rfl⟩ := Option.map_eq_some_iff.1 hr
    rw [hp] at hx
    cases hx
    exact ⟨p.val, rfl, (p.2).keep hk⟩
end Go.Proofs.YtaefpjecalnbcaaGreat
namespace Go.Proofs.YtaefpjecalnbcaaGreat
open Go.RowKit
end Go.Proofs.YtaefpjecalnbcaaGreat
namespace Go.Proofs.YtaefpjecalnbcaaGreat
open Go.RowKit
theorem ltW_at {l m : List Int} {i : Nat} {x y : Int} (hx : l[i]? = some x) (hy : m[i]? = some y) : ltW (l.drop i) (m.drop i) = if x = y then ltW (l.drop (i + 1)) (m.drop (i + 1)) else decide (x < y) := by
  rw [drop_at hx, drop_at hy, ltW]
theorem ltW_end {l m : List Int} {i : Nat} (h : l.length ≤ i ∨ m.length ≤ i) (hi : i ≤ l.length) (hi2 : i ≤ m.length) : ltW (l.drop i) (m.drop i) = decide (l.length < m.length) := by
  by_cases h1 : l.length ≤ i
  · rw [List.drop_eq_nil_of_le h1]
    by_cases h2 : m.length ≤ i
    · rw [List.drop_eq_nil_of_le h2, ltW]; simp; omega
    · rw [List.drop_eq_getElem_cons (by omega), ltW]; simp; omega
  · rw [List.drop_eq_nil_of_le (by omega : m.length ≤ i), List.drop_eq_getElem_cons (by omega), ltW]; simp; omega
set_option maxRecDepth 100000 in
set_option maxHeartbeats 4000000 in
theorem ref13_less {w : World} {v u : Value} {l m : List Int} (h : IntsAt w v l) (hu : IntsAt w u m) :
    Calls Tryz.prog 32 #[v, u] w fun e w' => e = .returned (.bool (ltW l m)) ∧ Drew w w' := by
  obtain ⟨hl, a, c, rfl, -, hat⟩ := h.open
  obtain ⟨hm, a2, c2, rfl, -, hbt⟩ := hu.open
  obtain ⟨n, HN⟩ : ∃ n, Hid (n = l.length) := ⟨_, rfl⟩
  obtain ⟨n2, HN2⟩ : ∃ n, Hid (n = m.length) := ⟨_, rfl⟩
  rw [← HN.out] at hl ⊢
  rw [← HN2.out] at hm ⊢
  obtain ⟨z, HZ⟩ : ∃ z, Hid (z = ltW l m) := ⟨_, rfl⟩
  rw [← HZ.out]
  have HAT := hid hat
  have HBT := hid hbt
  clear hat hbt h hu
  go_enter Tryz.func32, Tryz.ntmps32
  go_wp2_with fail
  go_loopw [5] (fun v5 wr => ∃ i : Nat, v5 = .int .i64 i ∧ i ≤ n ∧ i ≤ n2 ∧ Hid (z = ltW (l.drop i) (m.drop i)) ∧ Hid (Drew w wr)) (fun v5 _ => n - (intOf v5).toNat)
  case atStart => exact ⟨0, rfl, by omega, by omega, by rw [Hid, HZ.out]; simp, Drew.refl _⟩
  case round =>
    obtain ⟨i, rfl, hi, hi2, HI, HB⟩ := hrel
    by_cases h12 : i < n ∧ i < n2
    · obtain ⟨h1, h2⟩ := h12
      obtain ⟨x, hxi⟩ := int_get HN.out h1
      obtain ⟨y, hyi⟩ := int_get HN2.out h2
      obtain ⟨hx64, b, o, ha, g0⟩ := HAT.out i x hxi
      obtain ⟨hy64, b2, o2, ha2, g2⟩ := HBT.out i y hyi
      have HC := hid (ltW_at hxi hyi)
      have hix := index_run1 Tryz.underlying68 size_int ha i h1 (cap := c)
      have hix2 := index_run1 Tryz.underlying68 size_int ha2 i h2 (cap := c2)
      replace g0 := HB.out.keeps _ _ g0
      replace g2 := HB.out.keeps _ _ g2
      clear hxi hyi ha ha2
      by_cases hxy : x = y
      · have HC1 : Hid (z = ltW (l.drop (i + 1)) (m.drop (i + 1))) := by rw [Hid, HI.out, HC.out, if_pos hxy]
        have hb1 : (x != y) = false := by simpa using hxy
        have hb2 : (x == y) = true := by simpa using hxy
        clear hxy
        go_wp2_with fail
        go_quiet (fail)
        go_wp2_with fail
        go_roundw
        case rel => exact ⟨i + 1, by go_num, h1, h2, HC1.out, HB.out.step _⟩
        case measure => simp [intOf]; omega
      · have HC1 : Hid (z = decide (x < y)) := by rw [Hid, HI.out, HC.out, if_neg hxy]
        have hb1 : (x != y) = true := by simpa using hxy
        have hb2 : (x == y) = false := by simpa using hxy
        clear hxy
        go_wp2_with fail
        go_quiet (fail)
        go_wp2_with fail
        go_quiet (fail)
        go_wp2_with fail
        go_ret
        exact ⟨by rw [HC1.out]; first | done | rfl, (HB.out.step _).step _⟩
    · have HC1 : Hid (z = decide (n < n2)) := by
        rw [Hid, HI.out, ltW_end (by rw [← HN.out, ← HN2.out]; omega) (by rw [← HN.out]; omega) (by rw [← HN2.out]; omega), ← HN.out, ← HN2.out]
      by_cases h1 : i < n
      · have h2 : n2 ≤ i := by omega
        have hn : ¬ n < n2 := by omega
        have HC2 : Hid (z = false) := by rw [Hid, HC1.out]; exact decide_eq_false hn
        clear h12
        go_wp2_with fail
        go_ret
        exact ⟨by rw [HC2.out]; first | done | rfl, HB.out⟩
      · by_cases hn : n < n2
        · have HC2 : Hid (z = true) := by rw [Hid, HC1.out]; exact decide_eq_true hn
          clear h12
          go_wp2_with fail
          go_ret
          exact ⟨by rw [HC2.out]; first | done | rfl, HB.out⟩
        · have HC2 : Hid (z = false) := by rw [Hid, HC1.out]; exact decide_eq_false hn
          clear h12
          go_wp2_with fail
          go_ret
          exact ⟨by rw [HC2.out]; first | done | rfl, HB.out⟩
theorem row_form {w : World} {base size n : Nat} {e : TypeId} {v : Value} {xs : List Value} (h : w.ownsRow base e size v n xs) : ∃ a c, v = .slice a n c := by
  rcases h.2 with ⟨h1, h2⟩ | ⟨g, cap, cur, hv, -⟩
  · exact ⟨none, 0, by rw [h1, h2]⟩
  · exact ⟨_, _, hv⟩
theorem row_mono {w : World} {base base' size n : Nat} {e : TypeId} {v : Value} {xs : List Value} (h : w.ownsRow base e size v n xs) (hb : base' ≤ base) : w.ownsRow base' e size v n xs := by
  refine ⟨h.1, ?_⟩
  rcases h.2 with h2 | ⟨g, cap, cur, hv, hg, h3⟩
  · exact .inl h2
  · exact .inr ⟨g, cap, cur, hv, by omega, h3⟩
/-- the first so many of a slice of one-cell elements -/
theorem Seg.h1 {P : Program} {t e : TypeId} (ht : P.underlying t = some (.slice e)) (hs : ∀ w : World, (sizeOf e).run P w = .ok 1 w) {w : World} {a : Option Addr} {n cap : Nat} {xs : List Value} (h : Seg w (.slice a n cap) 1 n xs) (j : Nat) (hj : j ≤ n) :
    ∃ a' cap', (∀ W, (Instr.slice t (.slice a n cap) none (some (.int .i64 (j : Int))) none).run P W = .ok (.slice a' j cap') W) ∧ Seg w (.slice a' j cap') 1 j (xs.take j) := by
  have hcap : n ≤ cap := by obtain ⟨_, _, a', cap', hv, h3, _⟩ := h; cases hv; exact h3
  have hr := fun W => slice_h_run ht hs a n cap j (by omega) W
  have hsb := Seg.sub h 0 j (by omega) hj
  unfold sliced at hr hsb
  refine ⟨_, _, hr, ?_⟩
  simpa using hsb
/-- what is behind the first so many -/
theorem Seg.l1 {P : Program} {t e : TypeId} (ht : P.underlying t = some (.slice e)) (hs : ∀ w : World, (sizeOf e).run P w = .ok 1 w) {w : World} {a : Option Addr} {n cap : Nat} {xs : List Value} (h : Seg w (.slice a n cap) 1 n xs) (i : Nat) (hi : i ≤ n) :
    ∃ a' cap', (∀ W, (Instr.slice t (.slice a n cap) (some (.int .i64 (i : Int))) none none).run P W = .ok (.slice a' (n - i) cap') W) ∧ Seg w (.slice a' (n - i) cap') 1 (n - i) (xs.drop i) := by
  have hr := fun W => slice_l_run ht hs a n cap i hi W
  have hsb := Seg.sub h i n hi (Nat.le_refl _)
  have hl := h.1
  unfold sliced at hr hsb
  refine ⟨_, _, hr, ?_⟩
  rw [List.take_of_length_le (by simp [hl])] at hsb
  simpa using hsb
def badW (l : List (List Int)) (i k : Nat) : Bool := decide (k ≠ i) && decide ((l.getD k []) ≠ []) && beginsW (l.getD i []) (l.getD k []) && (decide ((l.getD k []).length < (l.getD i []).length) || decide (k < i))
def keepTo (l : List (List Int)) (i k : Nat) : Bool := decide ((l.getD i []) ≠ []) && (List.range k).all fun k => !badW l i k
theorem keepTo_all (l : List (List Int)) (i : Nat) : keepTo l i l.length = keepW l i := rfl
theorem keepTo_succ (l : List (List Int)) (i k : Nat) : keepTo l i (k + 1) = (keepTo l i k && !badW l i k) := by
  unfold keepTo
  rw [List.range_succ, List.all_append, Bool.and_assoc]
  simp
def posW (w : List Int) (o : List (List Int)) : Nat := (o.takeWhile fun u => ltW u w).length
theorem insW_pos (w : List Int) : ∀ o, insW w o = o.take (posW w o) ++ w :: o.drop (posW w o)
  | [] => rfl
  | u :: r => by
    rw [insW, posW, List.takeWhile_cons]
    cases h : ltW u w with
    | true => simp only [if_true, List.length_cons, List.take_succ_cons, List.drop_succ_cons]; rw [insW_pos w r]; rfl
    | false => simp
theorem posW_le (w : List Int) (o : List (List Int)) : posW w o ≤ o.length := (List.takeWhile_prefix _).length_le
/-- the search for the place -/
theorem posW_from (w : List Int) (o : List (List Int)) (k : Nat) : (k < posW w o → ∃ u, o[k]? = some u ∧ ltW u w = true) ∧ (k = posW w o → ∀ u, o[k]? = some u → ltW u w = false) := by
  unfold posW
  induction o generalizing k with
  | nil => simp
  | cons u r ih =>
    rw [List.takeWhile_cons]
    cases h : ltW u w with
    | true =>
      simp only [if_true, List.length_cons]
      cases k with
      | zero => exact ⟨fun _ => ⟨u, rfl, h⟩, fun h => by omega⟩
      | succ k =>
        have := ih k
        exact ⟨fun hk => by simpa using this.1 (by omega), fun hk => by simpa using this.2 (by omega)⟩
    | false =>
      simp only [Bool.false_eq_true, if_false, List.length_nil]
      exact ⟨fun h => by omega, fun hk v hv => by subst hk; simp at hv; subst hv; exact h⟩
set_option maxRecDepth 100000 in
set_option maxHeartbeats 4000000 in
theorem ref13_Of {w : World} {v : Value} {ls : List (List Int)} (h : WaysAt w v ls) (hl : ls.length ≤ 1099511627776) :
    Calls Tryz.prog 15 #[v] w fun e w' => ∃ v', e = .returned v' ∧ WaysAt w' v' (mOf ls) ∧ Below w.heap.size w w' := by
  obtain ⟨-, a, c, rfl, -, hat⟩ := h.open
  obtain ⟨n, HN⟩ : ∃ n, Hid (n = ls.length) := ⟨_, rfl⟩
  rw [← HN.out] at hl ⊢
  have HAT := hid hat
  have HLS : Hid (∀ k x, ls[k]? = some x → ls.getD k [] = x) := fun k x hx => by rw [List.getD_eq_getElem?_getD, hx]; rfl
  clear hat h
  go_enter Tryz.func15, Tryz.ntmps15
  go_wp2_with fail
  go_loopw [3, 4] (fun v3 v4 wr => ∃ (i : Nat) (ps : List (WV w)), v4 = .int .i64 i ∧ i ≤ n ∧ Hid (ps.map WV.way = rOf ls i ∧ wr.ownsRow w.heap.size 68 1 v3 ps.length (ps.map WV.val) ∧ Below w.heap.size w wr)) (fun _ v4 _ => n - (intOf v4).toNat)
  case atStart => exact ⟨0, [], rfl, by omega, rfl, World.ownsRow_nil _ _ _ _, Below.refl _ _⟩
  case round =>
    obtain ⟨i, ps, rfl, hi, HI⟩ := hrel
    obtain ⟨m, HM⟩ : ∃ m, Hid (m = ps.length) := ⟨_, rfl⟩
    have hml : m ≤ i := by have h1 := rOf_len ls i; rw [← HI.out.1, List.length_map, ← HM.out] at h1; exact h1
    obtain ⟨oa, oc, hoe⟩ := row_form HI.out.2.1
    rw [← HM.out] at hoe
    subst hoe
    by_cases hlt : i < n
    · obtain ⟨x, hx⟩ := way_get HN.out hlt
      obtain ⟨b, q, xa, xc, ha, g0, hX⟩ := HAT.out i x hx
      have hix := index_run1 Tryz.underlying28 size_ints ha i hlt (cap := c)
      have HX := hid hX
      have HXD := hid (HLS.out i x hx)
      obtain ⟨xn, HXN⟩ : ∃ xn, Hid (xn = x.length) := ⟨_, rfl⟩
      rw [← HXN.out] at g0 HX
      replace g0 := below_keeps HI.out.2.2 _ _ g0
      obtain ⟨wo, rfl⟩ : ∃ wo : World, wo = wr := ⟨_, rfl⟩
      have G0 := hid g0
      clear hx ha hX
      go_wp2_with fail
      go_loopw [5, 6] (fun v5 v6 wr => ∃ (k : Nat) (zb : Bool), v6 = .int .i64 k ∧ v5 = .bool zb ∧ k ≤ n ∧ Hid (zb = keepTo ls i k) ∧ Hid (Drew wo wr)) (fun _ v6 _ => n - (intOf v6).toNat)
      case atStart =>
        refine ⟨0, decide (0 < xn), rfl, ?_, by omega, ?_, Drew.refl _⟩
        · first | rfl | (congr 1; simp) | (congr 1; rw [decide_eq_decide]; omega)
        · rw [Hid, keepTo, HXD.out, HXN.out]; simp [List.length_pos_iff]
      case round =>
        obtain ⟨k, zb, rfl, rfl, hk, HZB, HD⟩ := hrel
        by_cases hlk : k < n
        · obtain ⟨y, hy⟩ := way_get HN.out hlk
          obtain ⟨b2, q2, ya, yc, ha2, g2, hY⟩ := HAT.out k y hy
          have hix2 := index_run1 Tryz.underlying28 size_ints ha2 k hlk (cap := c)
          obtain ⟨yn, HYN⟩ : ∃ yn, Hid (yn = y.length) := ⟨_, rfl⟩
          rw [← HYN.out] at g2 hY
          have HYD := hid (HLS.out k y hy)
          obtain ⟨bz, HBZ⟩ : ∃ bz, Hid (bz = beginsW x y) := ⟨_, rfl⟩
          have hkeep : ∀ j, ∀ p u, w.cell? p = some u → (wr.drewN j).cell? p = some u := fun j p u hu => (HD.out.step j).keeps _ _ (below_keeps HI.out.2.2 _ _ hu)
          have HBEG := hid fun j => ref13_Begins (HX.out.keep (hkeep j)) (hY.keep (hkeep j))
          rw [← HBZ.out] at HBEG
          replace g2 := HD.out.keeps _ _ (below_keeps HI.out.2.2 _ _ g2)
          have g0 := HD.out.keeps _ _ G0.out
          have HBAD : Hid (badW ls i k = (decide (k ≠ i) && decide (0 < yn) && bz && (decide (yn < xn) || decide (k < i)))) := by
            rw [Hid, badW, HXD.out, HYD.out, HBZ.out, HXN.out, HYN.out]
            simp [List.length_pos_iff]
          clear hy ha2 hY hkeep
          by_cases hki : k = i
          · have HBAD2 : Hid (badW ls i k = false) := by rw [Hid, HBAD.out, hki]; simp
            have e1 : ((k : Int) != (i : Int)) = false := by simp; omega
            have e2 : ((k : Int) == (i : Int)) = true := by simp; omega
            have e3 : (k == i) = true := by simp; omega
            have e4 : (k != i) = false := by simp; omega
            have HE : Hid (keepTo ls i (k + 1) = zb) := by rw [Hid, keepTo_succ, HBAD2.out, ← HZB.out]; simp
            clear hki
            go_wp2_with fail
            go_quiet ((go_at_call 31; exact Drew.quiet (HBEG.out _)))
            go_wp2_with fail
            go_roundw
            case rel => exact ⟨k + 1, zb, by go_num, rfl, hlk, by rw [Hid, HE.out], HD.out.step _⟩
            case measure => simp [intOf]; omega
          · rw [decide_eq_true hki, Bool.true_and] at HBAD
            have e1 : ((k : Int) != (i : Int)) = true := by simp; omega
            have e2 : ((k : Int) == (i : Int)) = false := by simp; omega
            have e3 : (k == i) = false := by simp; omega
            have e4 : (k != i) = true := by simp; omega
            have HKI := hid hki
            clear hki
            by_cases hy0 : 0 < yn
            · rw [decide_eq_true hy0, Bool.true_and] at HBAD
              cases bz with
              | true =>
                rw [Bool.true_and] at HBAD
                by_cases hyx : yn < xn
                · have HE : Hid (keepTo ls i (k + 1) = false) := by rw [Hid, keepTo_succ, HBAD.out, decide_eq_true hyx]; simp
                  go_wp2_with fail
                  go_quiet ((go_at_call 31; exact Drew.quiet (HBEG.out _)))
                  go_wp2_with fail
                  go_roundw
                  case rel => exact ⟨k + 1, false, by go_num, rfl, hlk, by rw [Hid, HE.out], HD.out.step _⟩
                  case measure => simp [intOf]; omega
                · rw [decide_eq_false hyx, Bool.false_or] at HBAD
                  have f1 : decide ((yn : Int) < (xn : Int)) = false := decide_eq_false (by omega)
                  have f2 : decide (yn < xn) = false := decide_eq_false hyx
                  clear hyx
                  by_cases hki2 : k < i
                  · have HE : Hid (keepTo ls i (k + 1) = false) := by rw [Hid, keepTo_succ, HBAD.out, decide_eq_true hki2]; simp
                    go_wp2_with fail
                    go_quiet ((go_at_call 31; exact Drew.quiet (HBEG.out _)))
                    go_wp2_with fail
                    go_roundw
                    case rel => exact ⟨k + 1, false, by go_num, rfl, hlk, by rw [Hid, HE.out], HD.out.step _⟩
                    case measure => simp [intOf]; omega
                  · have HE : Hid (keepTo ls i (k + 1) = zb) := by rw [Hid, keepTo_succ, HBAD.out, decide_eq_false hki2, ← HZB.out]; simp
                    have f3 : decide ((k : Int) < (i : Int)) = false := decide_eq_false (by omega)
                    have f4 : decide (k < i) = false := decide_eq_false hki2
                    clear hki2
                    go_wp2_with fail
                    go_quiet ((go_at_call 31; exact Drew.quiet (HBEG.out _)))
                    go_wp2_with fail
                    go_roundw
                    case rel => exact ⟨k + 1, zb, by go_num, rfl, hlk, by rw [Hid, HE.out], HD.out.step _⟩
                    case measure => simp [intOf]; omega
              | false =>
                have HE : Hid (keepTo ls i (k + 1) = zb) := by rw [Hid, keepTo_succ, HBAD.out, ← HZB.out]; simp
                go_wp2_with fail
                go_quiet ((go_at_call 31; exact Drew.quiet (HBEG.out _)))
                go_wp2_with fail
                go_roundw
                case rel => exact ⟨k + 1, zb, by go_num, rfl, hlk, by rw [Hid, HE.out], HD.out.step _⟩
                case measure => simp [intOf]; omega
            · have HE : Hid (keepTo ls i (k + 1) = zb) := by rw [Hid, keepTo_succ, HBAD.out, decide_eq_false hy0, ← HZB.out]; simp
              obtain rfl : yn = 0 := by omega
              go_wp2_with fail
              go_quiet ((go_at_call 31; exact Drew.quiet (HBEG.out _)))
              go_wp2_with fail
              go_roundw
              case rel => exact ⟨k + 1, zb, by go_num, rfl, hlk, by rw [Hid, HE.out], HD.out.step _⟩
              case measure => simp [intOf]; omega
        · obtain rfl : k = n := by omega
          have HKW : Hid (zb = keepW ls i) := by rw [Hid, HZB.out, HN.out, keepTo_all]
          cases zb with
          | false =>
            have HRO : Hid (rOf ls (i + 1) = rOf ls i) := by rw [Hid, rOf, ← HKW.out]; rfl
            go_wp2_with fail
            go_roundw
            case rel => exact ⟨i + 1, ps, by go_num, hlt, by rw [HRO.out]; exact HI.out.1, row_keep HI.out.2.1 (fun b cur _ he => HD.out.below.block b (Array.getElem?_eq_some_iff.1 he).1), below_step HI.out.2.2 HD.out.below HI.out.2.2.size⟩
            case measure => simp [intOf]; omega
          | true =>
            obtain ⟨o, HO⟩ : ∃ o, Hid (o = rOf ls i) := ⟨_, rfl⟩
            have HPO : Hid (ps.map WV.way = o) := by rw [Hid, HO.out]; exact HI.out.1
            have HMO : Hid (m = o.length) := by rw [Hid, HM.out, ← HPO.out, List.length_map]
            have HRO : Hid (rOf ls (i + 1) = insW x o) := by rw [Hid, rOf, ← HKW.out, HXD.out, HO.out]; rfl
            obtain ⟨pw, HPW⟩ : ∃ pw, Hid (pw = posW x o) := ⟨_, rfl⟩
            have hpm : pw ≤ m := by rw [HPW.out, HMO.out]; exact posW_le _ _
            have HSEG : Hid (Seg wo (.slice oa m oc) 1 m (ps.map WV.val)) := by
              have h1 := row_seg HI.out.2.1 (by rw [← HM.out]; omega)
              rw [← HM.out] at h1
              exact h1
            have HOUT : Hid (∀ k p, ps[k]? = some p → ∃ b o a2 c2, oa = some ⟨b, o, none⟩ ∧ wo.cell? ⟨b, o + k, none⟩ = some (.slice a2 p.way.length c2) ∧ IntsAt w (.slice a2 p.way.length c2) p.way) := by
              have h1 := HSEG.out
              rw [HM.out] at h1
              obtain ⟨a3, c3, e3, h3⟩ := seg_wv h1
              cases e3
              exact h3
            have HDW := hid HD.out
            obtain ⟨w2, rfl⟩ : ∃ w2 : World, w2 = wr := ⟨_, rfl⟩
            go_wp2_with fail
            go_loopw [7] (fun v7 wr => ∃ k : Nat, v7 = .int .i64 k ∧ k ≤ pw ∧ Hid (Drew wo wr)) (fun v7 _ => pw - (intOf v7).toNat)
            case atStart => exact ⟨0, rfl, by omega, HDW.out⟩
            case round =>
              obtain ⟨k, rfl, hk, HD2⟩ := hrel
              by_cases hkm : k < m
              · obtain ⟨p, hp⟩ : ∃ p, ps[k]? = some p := ⟨_, List.getElem?_eq_getElem (by rw [← HM.out]; exact hkm)⟩
                obtain ⟨b2, q2, ya, yc, ha2, g2, hY⟩ := HOUT.out k p hp
                have hix2 := index_run1 Tryz.underlying28 size_ints ha2 k hkm (cap := oc)
                have hok : o[k]? = some p.way := by rw [← HPO.out, List.getElem?_map, hp]; rfl
                have hpos := posW_from x o k
                rw [← HPW.out] at hpos
                obtain ⟨yn, HYN⟩ : ∃ yn, Hid (yn = p.way.length) := ⟨_, rfl⟩
                rw [← HYN.out] at g2 hY
                have hkeep : ∀ j, ∀ p u, w.cell? p = some u → (wr.drewN j).cell? p = some u := fun j p u hu => (HD2.out.step j).keeps _ _ (below_keeps HI.out.2.2 _ _ hu)
                have HLESS := hid fun j => ref13_less (hY.keep (hkeep j)) (HX.out.keep (hkeep j))
                replace g2 := HD2.out.keeps _ _ g2
                have g0 := HD2.out.keeps _ _ G0.out
                by_cases hkp : k < pw
                · have hl1 : ltW p.way x = true := by
                    obtain ⟨u, hu, h1⟩ := hpos.1 hkp
                    rw [hok] at hu; cases hu; exact h1
                  rw [hl1] at HLESS
                  clear hp ha2 hY hok hpos hkeep hl1
                  go_wp2_with fail
                  go_quiet ((go_at_call 32; exact Drew.quiet (HLESS.out _)))
                  go_wp2_with fail
                  go_roundw
                  case rel => exact ⟨k + 1, by go_num, hkp, HD2.out.step _⟩
                  case measure => simp [intOf]; omega
                · obtain rfl : k = pw := by omega
                  have hl1 : ltW p.way x = false := hpos.2 rfl _ hok
                  rw [hl1] at HLESS
                  clear hp ha2 hY hok hpos hkeep hl1 hkp
                  go_wp2_with fail
                  go_quiet ((go_at_call 32; exact Drew.quiet (HLESS.out _)))
                  obtain ⟨w3, HW3⟩ : ∃ w3, Hid (w3 = wr.drewN nq) := ⟨_, rfl⟩
                  have HD3 : Hid (Drew wo w3) := by rw [HW3.out]; exact HD2.out.step _
                  rw [← HW3.out]
                  have hbo : Below wo.heap.size wo w3 := HD3.out.below
                  have own0 : World.ownsRow (w3.alloc (.cells #[] 68)) w3.heap.size 68 1 (.slice (some ⟨w3.heap.size, 0, none⟩) 0 0) 0 [] := World.ownsRow_made (base := w3.heap.size) (e := 68) (size := 1) w3 #[] 0 (Nat.le_refl _) (by unfold maxLen; omega) rfl
                  have hvl : (ps.map WV.val).length = m := by rw [List.length_map, HM.out]
                  have hone : ∀ u ∈ ps.map WV.val, u.oneCell' = true := wv_vals_one ps
                  obtain ⟨a5, c5, hs5, S5⟩ := Seg.h1 (P := Tryz.prog) under_ways size_ints (HSEG.out.below hbo) k (by omega)
                  obtain ⟨v6, w6, hr6, own6, hg6, -⟩ := seg_append (P := Tryz.prog) _ w3.heap.size 28 28 68 (.slice none 0 0) 1 24 under_ways info_ints rfl (by decide) _ _ 0 k _ _ own0 (S5.below ((Below.refl _ _).alloc (Nat.le_refl _) _)) (fun u hu => hone u (List.mem_of_mem_take hu)) (by omega) (by omega) (by simp)
                  have hB6 : Below w3.heap.size w3 w6 := ((Below.refl w3.heap.size w3).alloc (Nat.le_refl _) (.cells #[] 68)).grown hg6 (by simp) (by intro q e; simp [Value.ownBlock] at e; omega)
                  rw [Nat.zero_add, List.nil_append] at own6
                  obtain ⟨a6, c6, e6⟩ := row_form own6
                  subst e6
                  have S7 : Seg (w6.alloc (.cells #[.slice xa xn xc] 68)) (.slice (some ⟨w6.heap.size, 0, none⟩) 1 1) 1 1 [.slice xa xn xc] := seg_blk (Blk.new w6 [.slice xa xn xc] _) 1 1 rfl (by omega)
                  obtain ⟨v8, w8, hr8, own8, hg8, -⟩ := seg_append (P := Tryz.prog) _ w3.heap.size 28 28 68 (.slice none 0 0) 1 24 under_ways info_ints rfl (by decide) _ _ _ 1 _ _ (World.ownsRow.alloc own6 _) S7 (by intro u hu; simp at hu; subst hu; rfl) (by omega) (by omega) (by have := hB6.size; simp; omega)
                  have hB8 : Below w3.heap.size w3 w8 := (hB6.alloc hB6.size _).grown hg8 (by have := hB6.size; simp; omega) (fun q e => (World.ownsRow.lt own6 q e).1)
                  obtain ⟨a8, c8, e8⟩ := row_form own8
                  subst e8
                  obtain ⟨a9, c9, hs9, S9⟩ := Seg.l1 (P := Tryz.prog) under_ways size_ints ((HSEG.out.below hbo).below hB8) k (by omega)
                  obtain ⟨v10, w10, hr10, own10, hg10, -⟩ := seg_append (P := Tryz.prog) w8 w3.heap.size 28 28 68 (.slice none 0 0) 1 24 under_ways info_ints rfl (by decide) _ _ _ (m - k) _ _ own8 S9 (fun u hu => hone u (List.mem_of_mem_drop hu)) (by omega) (by omega) hB8.size
                  have hB10 : Below w3.heap.size w3 w10 := hB8.grown hg10 hB8.size (fun q e => (World.ownsRow.lt own8 q e).1)
                  obtain ⟨a10, c10, e10⟩ := row_form own10
                  subst e10
                  have HREL : Hid (∃ ps' : List (WV w), ps'.map WV.way = rOf ls (i + 1) ∧ w10.ownsRow w.heap.size 68 1 (.slice a10 (k + 1 + (m - k)) c10) ps'.length (ps'.map WV.val) ∧ Below w.heap.size w w10) := by
                    refine ⟨ps.take k ++ WV.mk (.slice xa xn xc) x HX.out :: ps.drop k, ?_, ?_, ?_⟩
                    · rw [HRO.out, insW_pos, ← HPW.out, ← HPO.out, List.map_append, List.map_cons, WV.way_mk, List.map_take, List.map_drop]
                    · have hlen : (ps.take k ++ WV.mk (.slice xa xn xc) x HX.out :: ps.drop k).length = k + 1 + (m - k) := by
                        rw [List.length_append, List.length_cons, List.length_take, List.length_drop, ← HM.out]; omega
                      rw [hlen, List.map_append, List.map_cons, WV.val_mk, List.map_take, List.map_drop]
                      have h1 : w.heap.size ≤ w3.heap.size := Nat.le_trans HI.out.2.2.size hbo.size
                      have h2 := row_mono own10 h1
                      simpa using h2
                    · exact below_step (below_step HI.out.2.2 hbo HI.out.2.2.size) hB10 (Nat.le_trans HI.out.2.2.size hbo.size)
                  have g6 := below_keeps (below_step hbo hB6 hbo.size) _ _ G0.out
                  clear hbo own0 hvl hone S5 own6 hg6 hB6 S7 own8 hg8 hB8 S9 own10 hg10 hB10
                  go_wp2_with (at_builtin; first | refine wpList_append_eq (o := ⟨some 90, _, _, _, _, _⟩) rfl _ _ _ rfl _ _ rfl rfl hr6 ?_ | refine wpList_append_eq (o := ⟨some 97, _, _, _, _, _⟩) rfl _ _ _ rfl _ _ rfl rfl hr8 ?_ | refine wpList_append_eq (o := ⟨some 102, _, _, _, _, _⟩) rfl _ _ _ rfl _ _ rfl rfl hr10 ?_)
                  go_roundw
                  case rel =>
                    obtain ⟨ps', h1, h2, h3⟩ := HREL.out
                    exact ⟨i + 1, ps', by go_num, hlt, h1, h2, h3⟩
                  case measure => simp [intOf]; omega
              · have hd1 : decide ((k : Int) < (m : Int)) = false := decide_eq_false (by omega)
                have hd2 : decide (k < m) = false := decide_eq_false hkm
                obtain rfl : k = pw := by omega
                have HKM := hid hkm
                clear hkm
                go_wp2_with fail
                go_quiet (fail)
                obtain ⟨w3, HW3⟩ : ∃ w3, Hid (w3 = wr.drewN nq) := ⟨_, rfl⟩
                have HD3 : Hid (Drew wo w3) := by rw [HW3.out]; exact HD2.out.step _
                rw [← HW3.out]
                have hbo : Below wo.heap.size wo w3 := HD3.out.below
                have own0 : World.ownsRow (w3.alloc (.cells #[] 68)) w3.heap.size 68 1 (.slice (some ⟨w3.heap.size, 0, none⟩) 0 0) 0 [] := World.ownsRow_made (base := w3.heap.size) (e := 68) (size := 1) w3 #[] 0 (Nat.le_refl _) (by unfold maxLen; omega) rfl
                have hvl : (ps.map WV.val).length = m := by rw [List.length_map, HM.out]
                have hone : ∀ u ∈ ps.map WV.val, u.oneCell' = true := wv_vals_one ps
                obtain ⟨a5, c5, hs5, S5⟩ := Seg.h1 (P := Tryz.prog) under_ways size_ints (HSEG.out.below hbo) k (by omega)
                obtain ⟨v6, w6, hr6, own6, hg6, -⟩ := seg_append (P := Tryz.prog) _ w3.heap.size 28 28 68 (.slice none 0 0) 1 24 under_ways info_ints rfl (by decide) _ _ 0 k _ _ own0 (S5.below ((Below.refl _ _).alloc (Nat.le_refl _) _)) (fun u hu => hone u (List.mem_of_mem_take hu)) (by omega) (by omega) (by simp)
                have hB6 : Below w3.heap.size w3 w6 := ((Below.refl w3.heap.size w3).alloc (Nat.le_refl _) (.cells #[] 68)).grown hg6 (by simp) (by intro q e; simp [Value.ownBlock] at e; omega)
                rw [Nat.zero_add, List.nil_append] at own6
                obtain ⟨a6, c6, e6⟩ := row_form own6
                subst e6
                have S7 : Seg (w6.alloc (.cells #[.slice xa xn xc] 68)) (.slice (some ⟨w6.heap.size, 0, none⟩) 1 1) 1 1 [.slice xa xn xc] := seg_blk (Blk.new w6 [.slice xa xn xc] _) 1 1 rfl (by omega)
                obtain ⟨v8, w8, hr8, own8, hg8, -⟩ := seg_append (P := Tryz.prog) _ w3.heap.size 28 28 68 (.slice none 0 0) 1 24 under_ways info_ints rfl (by decide) _ _ _ 1 _ _ (World.ownsRow.alloc own6 _) S7 (by intro u hu; simp at hu; subst hu; rfl) (by omega) (by omega) (by have := hB6.size; simp; omega)
                have hB8 : Below w3.heap.size w3 w8 := (hB6.alloc hB6.size _).grown hg8 (by have := hB6.size; simp; omega) (fun q e => (World.ownsRow.lt own6 q e).1)
                obtain ⟨a8, c8, e8⟩ := row_form own8
                subst e8
                obtain ⟨a9, c9, hs9, S9⟩ := Seg.l1 (P := Tryz.prog) under_ways size_ints ((HSEG.out.below hbo).below hB8) k (by omega)
                obtain ⟨v10, w10, hr10, own10, hg10, -⟩ := seg_append (P := Tryz.prog) w8 w3.heap.size 28 28 68 (.slice none 0 0) 1 24 under_ways info_ints rfl (by decide) _ _ _ (m - k) _ _ own8 S9 (fun u hu => hone u (List.mem_of_mem_drop hu)) (by omega) (by omega) hB8.size
                have hB10 : Below w3.heap.size w3 w10 := hB8.grown hg10 hB8.size (fun q e => (World.ownsRow.lt own8 q e).1)
                obtain ⟨a10, c10, e10⟩ := row_form own10
                subst e10
                have HREL : Hid (∃ ps' : List (WV w), ps'.map WV.way = rOf ls (i + 1) ∧ w10.ownsRow w.heap.size 68 1 (.slice a10 (k + 1 + (m - k)) c10) ps'.length (ps'.map WV.val) ∧ Below w.heap.size w w10) := by
                  refine ⟨ps.take k ++ WV.mk (.slice xa xn xc) x HX.out :: ps.drop k, ?_, ?_, ?_⟩
                  · rw [HRO.out, insW_pos, ← HPW.out, ← HPO.out, List.map_append, List.map_cons, WV.way_mk, List.map_take, List.map_drop]
                  · have hlen : (ps.take k ++ WV.mk (.slice xa xn xc) x HX.out :: ps.drop k).length = k + 1 + (m - k) := by
                      rw [List.length_append, List.length_cons, List.length_take, List.length_drop, ← HM.out]; omega
                    rw [hlen, List.map_append, List.map_cons, WV.val_mk, List.map_take, List.map_drop]
                    have h1 : w.heap.size ≤ w3.heap.size := Nat.le_trans HI.out.2.2.size hbo.size
                    have h2 := row_mono own10 h1
                    simpa using h2
                  · exact below_step (below_step HI.out.2.2 hbo HI.out.2.2.size) hB10 (Nat.le_trans HI.out.2.2.size hbo.size)
                have g6 := below_keeps (below_step hbo hB6 hbo.size) _ _ G0.out
                clear hbo own0 hvl hone S5 own6 hg6 hB6 S7 own8 hg8 hB8 S9 own10 hg10 hB10
                go_wp2_with (at_builtin; first | refine wpList_append_eq (o := ⟨some 90, _, _, _, _, _⟩) rfl _ _ _ rfl _ _ rfl rfl hr6 ?_ | refine wpList_append_eq (o := ⟨some 97, _, _, _, _, _⟩) rfl _ _ _ rfl _ _ rfl rfl hr8 ?_ | refine wpList_append_eq (o := ⟨some 102, _, _, _, _, _⟩) rfl _ _ _ rfl _ _ rfl rfl hr10 ?_)
                go_roundw
                case rel =>
                  obtain ⟨ps', h1, h2, h3⟩ := HREL.out
                  exact ⟨i + 1, ps', by go_num, hlt, h1, h2, h3⟩
                case measure => simp [intOf]; omega
    · obtain rfl : i = n := by omega
      have HFIN : Hid (WaysAt wr (.slice oa m oc) (mOf ls)) := by
        have hs := row_seg HI.out.2.1 (by rw [← HM.out]; omega)
        have h1 := ways_of_row ps hs (below_keeps HI.out.2.2)
        rw [HI.out.1, HN.out] at h1
        exact h1
      go_wp2_with fail
      go_ret
      exact ⟨_, rfl, HFIN.out, HI.out.2.2⟩
end Go.Proofs.YtaefpjecalnbcaaGreat
