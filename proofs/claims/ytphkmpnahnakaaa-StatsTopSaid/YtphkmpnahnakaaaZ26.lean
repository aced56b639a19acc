/- Rows of ints that are sorted in place: the row's block, exchanges, slices.insertionSortCmpFunc. At most 2^40 ints. slices.swapRangeCmpFunc, rotateCmpFunc of ints: two runs change places. At most 2^40 ints. -/
import Derived.Test.YtphkmpnahnakaaaZ07
import Derived.Test.YtphkmpnahnakaaaZ19
import Derived.Test.YtphkmpnahnakaaaZ25
import Derived.StillTailTactics
import Derived.BigRegion
namespace Go.Proofs.Ytphkmpnahnakaaa
open Go.RowKit
/-- what cmp is asked: of elements of a row it tells cf, and leaves what is there -/
def CmpIR (F : Nat) (cap : Array Value) (cf : TR → TR → Int) (w0 : World) (g : Nat) (X : List TR) : Prop :=
  ∀ (x y : TR) (wr : World), x ∈ X → y ∈ X → w0.grownBy wr (some g) → Calls Try.prog F (#[.agg #[.string x.path, .int .i64 (x.recs : Int), .int .i64 (x.bytes : Int), .int .i64 (x.vals : Int)], .agg #[.string y.path, .int .i64 (y.recs : Int), .int .i64 (y.bytes : Int), .int .i64 (y.vals : Int)]] ++ cap) wr fun e w' => e = .returned (.int .i64 (cf x y)) ∧ Below wr.heap.size wr w'
theorem CmpIR.sub {F : Nat} {cap : Array Value} {cf : TR → TR → Int} {w0 : World} {g : Nat} {X Y : List TR} (h : CmpIR F cap cf w0 g X) (hs : ∀ x ∈ Y, x ∈ X) : CmpIR F cap cf w0 g Y :=
  fun x y wr hx hy hw => h x y wr (hs x hx) (hs y hy) hw
/-- x comes ahead of y: what cmp tells of y and x is which of them is first -/
def AgreeR (cf : TR → TR → Int) (R : TR → TR → Prop) (x y : TR) : Prop := (cf y x < 0 ↔ R y x) ∧ (R x y ∨ R y x)
def SortPostR (w0 : World) (g : Nat) (R : TR → TR → Prop) (P X S : List TR) (e : Ending) (w' : World) : Prop :=
  e = .returned (.tuple #[]) ∧ ∃ Z : List TR, Z.Perm X ∧ Z.Pairwise R ∧ RRow w' g (P ++ Z ++ S) ∧ w0.grownBy w' (some g)
theorem agree_atR {cf : TR → TR → Int} {R : TR → TR → Prop} {X : List TR} (h : X.Pairwise (AgreeR cf R)) {k : Nat} {x z : TR} (hx : X[k]? = some x) (hz : z ∈ X.take k) : AgreeR cf R z x := by
  have h' := h
  rw [← List.take_append_drop k X, drop_at hx] at h'
  exact (List.pairwise_append.1 h').2.2 z hz x (by simp)
set_option maxRecDepth 100000 in
set_option maxHeartbeats 8000000 in
theorem insSort_row {w0 w : World} {g c N : Nat} {P X S : List TR} (hN : N = (P ++ X ++ S).length) (hN40 : N ≤ 1099511627776) (F : Nat) (cap : Array Value) (cf : TR → TR → Int) (hcf : ∀ (args : Array Value) (w : World), (callFunc F args).run Try.prog w = .ok (.enter F args) w)
    (hcmp : CmpIR F cap cf w0 g X) {R : TR → TR → Prop} (ht : ∀ x y z, R x y → R y z → R x z) (hA : X.Pairwise (AgreeR cf R)) (hI : RRow w g (P ++ X ++ S)) (hG : w0.grownBy w (some g)) (a b : Nat) (ha : a = P.length) (hb : b = P.length + X.length) :
    Calls Try.prog 37 #[.slice (some ⟨g, 0, none⟩) N c, .int .i64 (a : Int), .int .i64 (b : Int), .func (.func F) #[] cap] w (SortPostR w0 g R P X S) := by
  have HCM := hid hcmp
  have HT := hid ht
  have HA := hid hA
  have HI := hid (And.intro hI hG)
  have HAB := hid (And.intro ha hb)
  have HN := hid hN
  have hbN : b ≤ N := by rw [hb, hN]; simp only [List.length_append]; omega
  have haN : a ≤ b := by rw [ha, hb]; omega
  obtain ⟨Q, HQ⟩ : ∃ Q : Ending → World → Prop, Hid (Q = SortPostR w0 g R P X S) := ⟨_, rfl⟩
  rw [← HQ.out]
  have HIX : Hid (∀ k : Nat, k < N → ∀ W, (Instr.indexAt 27 (.slice (some ⟨g, 0, none⟩) N c) (.int .i64 (k : Int))).run Try.prog W = .ok (.pointer (some ⟨g, k * 4, none⟩)) W) := by
    intro k hk W
    have := index_run Try.underlying27 size_rowS (a := some ⟨g, 0, none⟩) rfl k hk W (cap := c)
    rwa [Nat.zero_add] at this
  clear hcmp ht hA hI hG ha hb hN
  go_enter Try.func37, Try.ntmps37
  go_wp2_with fail
  go_loopw [8] (fun v8 wr => ∃ (i k : Nat) (Z : List TR), v8 = .int .i64 (i : Int) ∧ a + 1 ≤ i ∧ i ≤ b + 1 ∧ Hid (i = a + k ∧ k ≤ max 1 X.length ∧ Z.Perm (X.take k) ∧ Z.Pairwise R ∧ RRow wr g (P ++ Z ++ (X.drop k ++ S)) ∧ w0.grownBy wr (some g))) (fun v8 _ => b + 1 - (intOf v8).toNat)
  case atStart =>
    refine ⟨a + 1, 1, X.take 1, by go_num, by omega, by omega, rfl, by omega, List.Perm.refl _, ?_, ?_, HI.out.2⟩
    · rcases X with _ | ⟨x, r⟩ <;> simp
    · have := HI.out.1
      rw [← List.append_assoc, List.append_assoc P, List.take_append_drop]; exact this
  case round =>
    obtain ⟨i, k, Z, rfl, hk1, hkb, HZ'⟩ := hrel
    have HIK : Hid (i = a + k) := HZ'.out.1
    have HZ := hid HZ'.out.2
    clear HZ'
    by_cases hlt : i < b
    · have hkX : k < X.length := by have := HAB.out; have := HIK.out; omega
      obtain ⟨x, hx⟩ : ∃ x, X[k]? = some x := ⟨_, List.getElem?_eq_getElem hkX⟩
      have hZl : Z.length = k := by rw [HZ.out.2.1.length_eq, List.length_take]; omega
      obtain ⟨SS, HSS⟩ : ∃ SS, Hid (SS = X.drop (k + 1) ++ S) := ⟨_, rfl⟩
      have HX := hid hx
      have HZL := hid hZl
      have HKX := hid hkX
      clear hx hZl hkX
      obtain ⟨wo, rfl⟩ : ∃ wo : World, wo = wr := ⟨_, rfl⟩
      go_wp2_with fail
      go_loopw [9] (fun v9 wr2 => ∃ j t : Nat, v9 = .int .i64 (j : Int) ∧ a ≤ j ∧ j ≤ i ∧ Hid (j = a + t ∧ (Z.length ≤ t ∨ ∃ y, Z[t]? = some y ∧ R x y) ∧ RRow wr2 g (putAt P Z t x SS) ∧ w0.grownBy wr2 (some g))) (fun v9 _ => (intOf v9).toNat)
      case atStart =>
        refine ⟨i, k, rfl, by omega, Nat.le_refl _, HIK.out, .inl (by rw [HZL.out]; exact Nat.le_refl _), ?_, HZ.out.2.2.2.2⟩
        have h1 := HZ.out.2.2.2.1
        rw [drop_at HX.out, List.cons_append, ← HSS.out] at h1
        have h2 : putAt P Z k x SS = P ++ Z ++ x :: SS := by
          unfold putAt
          rw [List.take_of_length_le (by rw [HZL.out]; omega), List.drop_eq_nil_of_le (by rw [HZL.out]; omega)]
          simp
        rw [h2]; exact h1
      case round =>
        obtain ⟨j, t, rfl, hja, hji, HT2'⟩ := hrel
        have HJ : Hid (j = a + t) := HT2'.out.1
        have HT2 := hid HT2'.out.2
        have ht : t ≤ k := by have := HIK.out; have := HJ.out; omega
        clear HT2'
        have HL : Hid (N = (putAt P Z t x SS).length) := by
          rw [Hid, putAt_len, HN.out, HSS.out, HZL.out]
          simp only [List.length_append, List.length_drop]
          have := HKX.out
          omega
        have HGX : Hid ((putAt P Z t x SS).getD j zTR = x) := putAt_get zTR P Z t x SS (by rw [HZL.out]; exact ht) _ (by rw [HJ.out, HAB.out.1])
        have HOUT : Hid (t = 0 ∨ (∃ y, Z[t - 1]? = some y ∧ R y x) → (Z.take t ++ x :: Z.drop t).Perm (X.take (k + 1)) ∧ (Z.take t ++ x :: Z.drop t).Pairwise R) := by
          intro h
          refine ⟨(perm_insert x t).trans ?_, srt_insert HT.out HZ.out.2.2.1 t h HT2.out.1⟩
          rw [List.take_add_one, HX.out]
          exact (List.Perm.cons x HZ.out.2.1).trans (List.perm_append_singleton x _).symm
        have hjN : j < N := by omega
        have hix := HIX.out j hjN
        have g0 := HT2.out.2.1.cell j (by rw [← HL.out]; exact hjN)
        rw [HGX.out] at g0
        unfold Cells4 at g0
        by_cases ht0 : t = 0
        · have hjl : decide ((j : Int) > (a : Int)) = false := decide_eq_false (by rw [HJ.out]; omega)
          have hjl2 : decide ((a : Int) < (j : Int)) = false := decide_eq_false (by rw [HJ.out]; omega)
          have hjl3 : decide (a < j) = false := decide_eq_false (by rw [HJ.out]; omega)
          have HO := hid (HOUT.out (.inl ht0))
          clear ht0
          go_wp2_with fail
          go_quiet (fail)
          go_wp2_with fail
          go_roundw
          case rel => exact ⟨i + 1, k + 1, _, by go_num, by omega, by omega, by have := HIK.out; omega, by have := HKX.out; omega, HO.out.1, HO.out.2, by have h := HT2.out.2.1; unfold putAt at h; rw [HSS.out] at h; refine RRow.of_block (w := wr) ?_ rfl; simpa using h, grown_drewN HT2.out.2.2 _⟩
          case measure => simp [intOf]; omega
        · obtain ⟨tp, rfl⟩ : ∃ tp, t = tp + 1 := ⟨t - 1, by omega⟩
          obtain ⟨y, hy⟩ : ∃ y, Z[tp]? = some y := ⟨_, List.getElem?_eq_getElem (by rw [HZL.out]; omega)⟩
          have HY := hid hy
          obtain ⟨jp, HJP⟩ : ∃ jp, Hid (jp = a + tp) := ⟨_, rfl⟩
          have hj1 : a + 1 ≤ j := by rw [HJ.out]; omega
          have hjp : (jp : Int) = (j : Int) - 1 := by have := HJP.out; have := HJ.out; omega
          have hjpN : jp < N := by omega
          have HUP := hid (putAt_up zTR P Z tp x y SS hy jp j (by rw [HJP.out, HAB.out.1]) (by omega))
          have hix2 := HIX.out jp hjpN
          rw [hjp] at hix2
          have g1 := HT2.out.2.1.cell jp (by rw [← HL.out]; exact hjpN)
          rw [HUP.out.2.2.2] at g1
          unfold Cells4 at g1
          have HAG : Hid (AgreeR cf R y x) := agree_atR HA.out HX.out (HZ.out.2.1.mem_iff.1 (List.mem_of_getElem? hy))
          have HC1 := hid (HCM.out x y wr.drew (List.mem_of_getElem? HX.out) (List.mem_of_mem_take (HZ.out.2.1.mem_iff.1 (List.mem_of_getElem? hy))) (grown_drew HT2.out.2.2))
          have hw1 : IntKind.i64.wrap ((j : Int) - 1) = (j : Int) - 1 := by rw [IntKind.wrap_i64]; omega
          have hjl : decide ((j : Int) > (a : Int)) = true := decide_eq_true (by rw [HJ.out]; omega)
          have hjl2 : decide ((a : Int) < (j : Int)) = true := decide_eq_true (by rw [HJ.out]; omega)
          have hjl3 : decide (a < j) = true := decide_eq_true (by rw [HJ.out]; omega)
          clear hy ht0 hjp hj1
          go_wp2_with fail
          go_still_tail 14, (by kernel_rfl)
          change wpList _ _ _ _ _ wr.drew
          go_wp2_with fail
          refine HC1.out.mono ?_
          rintro e w3 ⟨rfl, hb3⟩
          have HT3 : Hid (RRow w3 g (putAt P Z (tp + 1) x SS) ∧ w0.grownBy w3 (some g)) := ⟨(HT2.out.2.1.of_block (w' := wr.drew) rfl).below hb3, grown_belowS (grown_drew HT2.out.2.2) hb3⟩
          by_cases hc : cf x y < 0
          · have hc1 : decide (cf x y < 0) = true := decide_eq_true hc
            have HRY : Hid (R x y) := HAG.out.1.1 hc
            have g0 := HT3.out.1.cell j (by rw [← HL.out]; exact hjN)
            rw [HGX.out] at g0
            unfold Cells4 at g0
            have g1 := HT3.out.1.cell jp (by rw [← HL.out]; exact hjpN)
            rw [HUP.out.2.2.2] at g1
            unfold Cells4 at g1
            obtain ⟨WS1, WS2, hW1, hW2, hq1, hf1, ⟨zz, hq2⟩, hf2, hrow, hgr⟩ := HT3.out.1.exch (HT3.out.2) j jp (by rw [← HL.out]; exact hjN) (by rw [← HL.out]; exact hjpN) x y HGX.out HUP.out.2.2.2
            rw [HUP.out.2.2.1] at hrow
            unfold set4 at hW1 hW2
            unfold Cells4 at hq1 hq2
            have HSW := hid hrow
            have HGS := hid hgr
            have HW1 := hid hW1
            have HW2 := hid hW2
            have HQ2 := hid (And.intro hq2 hf2)
            clear hrow hgr hW1 hW2 hq2 hf2 g0 g1
            clear hb3 hc
            go_wp2_with fail
            refine wp_region_seq (fun _ => True) (fun w' => (w'.cell? ⟨g, j * 4, none⟩ = some (.string x.path) ∧ w'.cell? ⟨g, j * 4 + 1, none⟩ = some (.int .i64 (x.recs : Int)) ∧ w'.cell? ⟨g, j * 4 + 2, none⟩ = some (.int .i64 (x.bytes : Int)) ∧ w'.cell? ⟨g, j * 4 + 3, none⟩ = some (.int .i64 (x.vals : Int))) ∧ (w'.cell? ⟨g, jp * 4, none⟩ = some (.string y.path) ∧ w'.cell? ⟨g, jp * 4 + 1, none⟩ = some (.int .i64 (y.recs : Int)) ∧ w'.cell? ⟨g, jp * 4 + 2, none⟩ = some (.int .i64 (y.bytes : Int)) ∧ w'.cell? ⟨g, jp * 4 + 3, none⟩ = some (.int .i64 (y.vals : Int)))) 15 [0, 0, 0, 0, 0, 0, 0, 0, 0, 1, 0, 0, 0, 1, 0, 2, 0, 2] (by kernel_rfl) rfl (by kernel_rfl) (fun _ _ dst _ _ h => by cases dst <;> exact h) trivial hq1 (fun OPS _ => ?_)
            refine seqG0 (v := ?v0) ?hy0 ?hr0
            case hy0 => (intro w hw; go_simp; all_goals rfl)
            simp only [Act.put, List.setIfInBounds_toArray, List.set_cons_zero, List.set_cons_succ]
            refine seqG0 (v := ?v1) ?hy1 ?hr1
            case hy1 => (intro w hw; go_simp; all_goals rfl)
            simp only [Act.put, List.setIfInBounds_toArray, List.set_cons_zero, List.set_cons_succ]
            refine seqG0 (v := ?v2) ?hy2 ?hr2
            case hy2 => (intro w hw; go_simp; all_goals rfl)
            simp only [Act.put, List.setIfInBounds_toArray, List.set_cons_zero, List.set_cons_succ]
            refine seqG0 (v := ?v3) ?hy3 ?hr3
            case hy3 => (intro w hw; go_simp; all_goals rfl)
            simp only [Act.put, List.setIfInBounds_toArray, List.set_cons_zero, List.set_cons_succ]
            refine seqG0 (v := ?v4) ?hy4 ?hr4
            case hy4 => (intro w hw; go_simp; all_goals rfl)
            simp only [Act.put, List.setIfInBounds_toArray, List.set_cons_zero, List.set_cons_succ]
            refine seqG0 (v := ?v5) ?hy5 ?hr5
            case hy5 => (intro w hw; go_simp; all_goals rfl)
            simp only [Act.put, List.setIfInBounds_toArray, List.set_cons_zero, List.set_cons_succ]
            refine seqG0 (v := ?v6) ?hy6 ?hr6
            case hy6 => (intro w hw; go_simp; all_goals rfl)
            simp only [Act.put, List.setIfInBounds_toArray, List.set_cons_zero, List.set_cons_succ]
            refine seqG0 (v := ?v7) ?hy7 ?hr7
            case hy7 => (intro w hw; go_simp; all_goals rfl)
            simp only [Act.put, List.setIfInBounds_toArray, List.set_cons_zero, List.set_cons_succ]
            refine seqG0 (v := ?v8) ?hy8 ?hr8
            case hy8 => (intro w hw; go_simp; all_goals rfl)
            simp only [Act.put, List.setIfInBounds_toArray, List.set_cons_zero, List.set_cons_succ]
            refine seqG1 (v := ?v9) ?hy9 ?hr9
            case hy9 => (intro w hw; go_simp; all_goals rfl)
            simp only [Act.put, List.setIfInBounds_toArray, List.set_cons_zero, List.set_cons_succ]
            refine seqG0 (v := ?v10) ?hy10 ?hr10
            case hy10 => (intro w hw; go_simp; all_goals rfl)
            simp only [Act.put, List.setIfInBounds_toArray, List.set_cons_zero, List.set_cons_succ]
            refine seqG0 (v := ?v11) ?hy11 ?hr11
            case hy11 => (intro w hw; go_simp; all_goals rfl)
            simp only [Act.put, List.setIfInBounds_toArray, List.set_cons_zero, List.set_cons_succ]
            refine seqG0 (v := ?v12) ?hy12 ?hr12
            case hy12 => (intro w hw; go_simp; all_goals rfl)
            simp only [Act.put, List.setIfInBounds_toArray, List.set_cons_zero, List.set_cons_succ]
            refine seqG1 (v := ?v13) ?hy13 ?hr13
            case hy13 => (intro w hw; go_simp; all_goals rfl)
            simp only [Act.put, List.setIfInBounds_toArray, List.set_cons_zero, List.set_cons_succ]
            refine seqG0 (v := ?v14) ?hy14 ?hr14
            case hy14 => (intro w hw; go_simp; all_goals rfl)
            simp only [Act.put, List.setIfInBounds_toArray, List.set_cons_zero, List.set_cons_succ]
            obtain ⟨⟨j0, j1, j2, j3⟩, f0, f1, f2, f3, fl⟩ := hf1
            refine seqG2 (fun K12 HK12 => ?_)
            go_wp2_with fail
            refine HK12.out _ _ trivial ?_
            clear HK12 K12
            intro _
            rw [← HW1.out]
            clear hq1 j0 j1 j2 j3 f0 f1 f2 f3 fl
            obtain ⟨⟨j0, j1, j2, j3⟩, f0, f1, f2, f3⟩ := HQ2.out
            refine seqG0 (v := ?v16) ?hy16 ?hr16
            case hy16 => (intro w hw; go_simp; all_goals rfl)
            simp only [Act.put, List.setIfInBounds_toArray, List.set_cons_zero, List.set_cons_succ]
            refine seqG2 (fun K12 HK12 => ?_)
            go_wp2_with fail
            refine HK12.out _ _ trivial ?_
            clear HK12 K12
            intro _
            rw [← HW2.out]
            clear j0 j1 j2 j3 f0 f1 f2 f3
            refine seqG_end ?_
            go_wp2_with fail
            go_roundw
            case rel => exact ⟨jp, tp, by have := HJP.out; have := HJ.out; go_num, by have := HJP.out; omega, by have := HJP.out; have := HJ.out; omega, HJP.out, .inr ⟨y, HY.out, HRY.out⟩, HSW.out, HGS.out⟩
            case measure => simp [intOf]; have := HJP.out; have := HJ.out; omega
          · have hc1 : decide (cf x y < 0) = false := decide_eq_false hc
            have HRY : Hid (R y x) := HAG.out.2.resolve_right fun h => hc (HAG.out.1.2 h)
            have HO := hid (HOUT.out (.inr ⟨y, by simpa using HY.out, HRY.out⟩))
            clear hb3 hc
            go_wp2_with fail
            go_roundw
            case rel => exact ⟨i + 1, k + 1, _, by go_num, by omega, by omega, by have := HIK.out; omega, by have := HKX.out; omega, HO.out.1, HO.out.2, by have h := HT3.out.1; unfold putAt at h; rw [HSS.out] at h; simpa using h, HT3.out.2⟩
            case measure => simp [intOf]; omega
    · go_wp2_with fail
      go_end0
      have hkX : X.length ≤ k := by have := HAB.out; have := HIK.out; omega
      rw [HQ.out]
      refine ⟨rfl, Z, ?_, HZ.out.2.2.1, ?_, HZ.out.2.2.2.2⟩
      · have := HZ.out.2.1
        rwa [List.take_of_length_le hkX] at this
      · have := HZ.out.2.2.2.1
        rwa [List.drop_eq_nil_of_le hkX, List.nil_append] at this
end Go.Proofs.Ytphkmpnahnakaaa
namespace Go.Proofs.Ytphkmpnahnakaaa
open Go.RowKit
/-- what a call leaves: nothing, and the row as told -/
def RowPostR (w0 : World) (g : Nat) (l : List TR) (e : Ending) (w' : World) : Prop := e = .returned (.tuple #[]) ∧ RRow w' g l ∧ w0.grownBy w' (some g)
set_option maxRecDepth 100000 in
set_option maxHeartbeats 8000000 in
theorem swapRange_row {w0 w : World} {g c N : Nat} {U X V Y W : List TR} (hN : N = (U ++ X ++ V ++ Y ++ W).length) (hN40 : N ≤ 1099511627776) (fv : Value)
    (hI : RRow w g (U ++ X ++ V ++ Y ++ W)) (hG : w0.grownBy w (some g)) (a b n : Nat) (ha : a = U.length) (hx : X.length = n) (hy : Y.length = n) (hb : b = U.length + n + V.length) :
    Calls Try.prog 72 #[.slice (some ⟨g, 0, none⟩) N c, .int .i64 (a : Int), .int .i64 (b : Int), .int .i64 (n : Int), fv] w (RowPostR w0 g (U ++ Y ++ V ++ X ++ W)) := by
  have HI := hid (And.intro hI hG)
  have HXY := hid (And.intro hx hy)
  have HLN : Hid (∀ k, (swpRun U X V Y W k).length = N) := by
    intro k
    rw [swpRun_len _ _ _ _ _ _ (by rw [hx, hy]), hN]
    simp only [List.length_append]
  have hbN : b + n ≤ N := by rw [hb, hN]; simp only [List.length_append]; omega
  have hab : a + n ≤ b := by rw [ha, hb]; omega
  have HAB := hid (And.intro ha hb)
  obtain ⟨Q, HQ⟩ : ∃ Q : Ending → World → Prop, Hid (Q = RowPostR w0 g (U ++ Y ++ V ++ X ++ W)) := ⟨_, rfl⟩
  rw [← HQ.out]
  have HIX : Hid (∀ k : Nat, k < N → ∀ W, (Instr.indexAt 27 (.slice (some ⟨g, 0, none⟩) N c) (.int .i64 (k : Int))).run Try.prog W = .ok (.pointer (some ⟨g, k * 4, none⟩)) W) := by
    intro k hk W
    have := index_run Try.underlying27 size_rowS (a := some ⟨g, 0, none⟩) rfl k hk W (cap := c)
    rwa [Nat.zero_add] at this
  clear hI hG hx hy ha hb hN
  go_enter Try.func72, Try.ntmps72
  go_wp2_with fail
  go_loopw [10] (fun v10 wr => ∃ i : Nat, v10 = .int .i64 (i : Int) ∧ i ≤ n ∧ Hid (RRow wr g (swpRun U X V Y W i) ∧ w0.grownBy wr (some g))) (fun v10 _ => n - (intOf v10).toNat)
  case atStart => exact ⟨0, rfl, by omega, by rw [swpRun_zero]; exact HI.out.1, HI.out.2⟩
  case round =>
    obtain ⟨i, rfl, hi, HZ⟩ := hrel
    by_cases hlt : i < n
    · obtain ⟨p, HP⟩ : ∃ p, Hid (p = a + i) := ⟨_, rfl⟩
      obtain ⟨q, HP2⟩ : ∃ q, Hid (q = b + i) := ⟨_, rfl⟩
      have hpN : p < N := by have := HP.out; omega
      have hqN : q < N := by have := HP2.out; omega
      obtain ⟨x, y, gx, gy, hsw⟩ := swpRun_step zTR U X V Y W i n HXY.out.1 HXY.out.2 hlt p q (by rw [HP.out, HAB.out.1]) (by rw [HP2.out, HAB.out.2])
      have hix := HIX.out p hpN
      have hix2 := HIX.out q hqN
      rw [HP.out, Int.natCast_add, ← HP.out] at hix
      rw [HP2.out, Int.natCast_add, ← HP2.out] at hix2
      have g0 := HZ.out.1.cell p (by rw [HLN.out]; exact hpN)
      have g1 := HZ.out.1.cell q (by rw [HLN.out]; exact hqN)
      rw [gx] at g0
      unfold Cells4 at g0
      rw [gy] at g1
      unfold Cells4 at g1
      obtain ⟨WS1, WS2, hW1, hW2, hq1, hf1, ⟨zz, hq2⟩, hf2, hrow, hgr⟩ := HZ.out.1.exch (HZ.out.2) p q (by rw [HLN.out]; exact hpN) (by rw [HLN.out]; exact hqN) x y gx gy
      rw [hsw] at hrow
      unfold set4 at hW1 hW2
      unfold Cells4 at hq1 hq2
      have HSW := hid hrow
      have HGS := hid hgr
      have HW1 := hid hW1
      have HW2 := hid hW2
      have HQ2 := hid (And.intro hq2 hf2)
      clear hrow hgr hW1 hW2 hq2 hf2 g0 g1
      have hw1 : IntKind.i64.wrap ((a : Int) + (i : Int)) = (a : Int) + (i : Int) := by rw [IntKind.wrap_i64]; omega
      have hw2 : IntKind.i64.wrap ((b : Int) + (i : Int)) = (b : Int) + (i : Int) := by rw [IntKind.wrap_i64]; omega
      clear gx gy hsw
      go_wp2_with fail
      refine wp_region_seq (fun _ => True) (fun w' => (w'.cell? ⟨g, p * 4, none⟩ = some (.string x.path) ∧ w'.cell? ⟨g, p * 4 + 1, none⟩ = some (.int .i64 (x.recs : Int)) ∧ w'.cell? ⟨g, p * 4 + 2, none⟩ = some (.int .i64 (x.bytes : Int)) ∧ w'.cell? ⟨g, p * 4 + 3, none⟩ = some (.int .i64 (x.vals : Int))) ∧ (w'.cell? ⟨g, q * 4, none⟩ = some (.string y.path) ∧ w'.cell? ⟨g, q * 4 + 1, none⟩ = some (.int .i64 (y.recs : Int)) ∧ w'.cell? ⟨g, q * 4 + 2, none⟩ = some (.int .i64 (y.bytes : Int)) ∧ w'.cell? ⟨g, q * 4 + 3, none⟩ = some (.int .i64 (y.vals : Int)))) 21 [0, 0, 0, 0, 0, 0, 0, 0, 0, 0, 0, 0, 0, 1, 0, 0, 0, 0, 0, 1, 0, 2, 0, 2] (by kernel_rfl) rfl (by kernel_rfl) (fun _ _ dst _ _ h => by cases dst <;> exact h) trivial hq1 (fun OPS _ => ?_)
      refine seqG0 (v := ?v0) ?hy0 ?hr0
      case hy0 => (intro w hw; go_simp; all_goals rfl)
      simp only [Act.put, List.setIfInBounds_toArray, List.set_cons_zero, List.set_cons_succ]
      refine seqG0 (v := ?v1) ?hy1 ?hr1
      case hy1 => (intro w hw; go_simp; all_goals rfl)
      simp only [Act.put, List.setIfInBounds_toArray, List.set_cons_zero, List.set_cons_succ]
      refine seqG0 (v := ?v2) ?hy2 ?hr2
      case hy2 => (intro w hw; go_simp; all_goals rfl)
      simp only [Act.put, List.setIfInBounds_toArray, List.set_cons_zero, List.set_cons_succ]
      refine seqG0 (v := ?v3) ?hy3 ?hr3
      case hy3 => (intro w hw; go_simp; all_goals rfl)
      simp only [Act.put, List.setIfInBounds_toArray, List.set_cons_zero, List.set_cons_succ]
      refine seqG0 (v := ?v4) ?hy4 ?hr4
      case hy4 => (intro w hw; go_simp; all_goals rfl)
      simp only [Act.put, List.setIfInBounds_toArray, List.set_cons_zero, List.set_cons_succ]
      refine seqG0 (v := ?v5) ?hy5 ?hr5
      case hy5 => (intro w hw; go_simp; all_goals rfl)
      simp only [Act.put, List.setIfInBounds_toArray, List.set_cons_zero, List.set_cons_succ]
      refine seqG0 (v := ?v6) ?hy6 ?hr6
      case hy6 => (intro w hw; go_simp; all_goals rfl)
      simp only [Act.put, List.setIfInBounds_toArray, List.set_cons_zero, List.set_cons_succ]
      refine seqG0 (v := ?v7) ?hy7 ?hr7
      case hy7 => (intro w hw; go_simp; all_goals rfl)
      simp only [Act.put, List.setIfInBounds_toArray, List.set_cons_zero, List.set_cons_succ]
      refine seqG0 (v := ?v8) ?hy8 ?hr8
      case hy8 => (intro w hw; go_simp; all_goals rfl)
      simp only [Act.put, List.setIfInBounds_toArray, List.set_cons_zero, List.set_cons_succ]
      refine seqG0 (v := ?v9) ?hy9 ?hr9
      case hy9 => (intro w hw; go_simp; all_goals rfl)
      simp only [Act.put, List.setIfInBounds_toArray, List.set_cons_zero, List.set_cons_succ]
      refine seqG0 (v := ?v10) ?hy10 ?hr10
      case hy10 => (intro w hw; go_simp; all_goals rfl)
      simp only [Act.put, List.setIfInBounds_toArray, List.set_cons_zero, List.set_cons_succ]
      refine seqG0 (v := ?v11) ?hy11 ?hr11
      case hy11 => (intro w hw; go_simp; all_goals rfl)
      simp only [Act.put, List.setIfInBounds_toArray, List.set_cons_zero, List.set_cons_succ]
      refine seqG0 (v := ?v12) ?hy12 ?hr12
      case hy12 => (intro w hw; go_simp; all_goals rfl)
      simp only [Act.put, List.setIfInBounds_toArray, List.set_cons_zero, List.set_cons_succ]
      refine seqG1 (v := ?v13) ?hy13 ?hr13
      case hy13 => (intro w hw; go_simp; all_goals rfl)
      simp only [Act.put, List.setIfInBounds_toArray, List.set_cons_zero, List.set_cons_succ]
      refine seqG0 (v := ?v14) ?hy14 ?hr14
      case hy14 => (intro w hw; go_simp; all_goals rfl)
      simp only [Act.put, List.setIfInBounds_toArray, List.set_cons_zero, List.set_cons_succ]
      refine seqG0 (v := ?v15) ?hy15 ?hr15
      case hy15 => (intro w hw; go_simp; all_goals rfl)
      simp only [Act.put, List.setIfInBounds_toArray, List.set_cons_zero, List.set_cons_succ]
      refine seqG0 (v := ?v16) ?hy16 ?hr16
      case hy16 => (intro w hw; go_simp; all_goals rfl)
      simp only [Act.put, List.setIfInBounds_toArray, List.set_cons_zero, List.set_cons_succ]
      refine seqG0 (v := ?v17) ?hy17 ?hr17
      case hy17 => (intro w hw; go_simp; all_goals rfl)
      simp only [Act.put, List.setIfInBounds_toArray, List.set_cons_zero, List.set_cons_succ]
      refine seqG0 (v := ?v18) ?hy18 ?hr18
      case hy18 => (intro w hw; go_simp; all_goals rfl)
      simp only [Act.put, List.setIfInBounds_toArray, List.set_cons_zero, List.set_cons_succ]
      refine seqG1 (v := ?v19) ?hy19 ?hr19
      case hy19 => (intro w hw; go_simp; all_goals rfl)
      simp only [Act.put, List.setIfInBounds_toArray, List.set_cons_zero, List.set_cons_succ]
      refine seqG0 (v := ?v20) ?hy20 ?hr20
      case hy20 => (intro w hw; go_simp; all_goals rfl)
      simp only [Act.put, List.setIfInBounds_toArray, List.set_cons_zero, List.set_cons_succ]
      obtain ⟨⟨j0, j1, j2, j3⟩, f0, f1, f2, f3, fl⟩ := hf1
      refine seqG2 (fun K12 HK12 => ?_)
      go_wp2_with fail
      refine HK12.out _ _ trivial ?_
      clear HK12 K12
      intro _
      rw [← HW1.out]
      clear hq1 j0 j1 j2 j3 f0 f1 f2 f3 fl
      obtain ⟨⟨j0, j1, j2, j3⟩, f0, f1, f2, f3⟩ := HQ2.out
      refine seqG0 (v := ?v22) ?hy22 ?hr22
      case hy22 => (intro w hw; go_simp; all_goals rfl)
      simp only [Act.put, List.setIfInBounds_toArray, List.set_cons_zero, List.set_cons_succ]
      refine seqG2 (fun K12 HK12 => ?_)
      go_wp2_with fail
      refine HK12.out _ _ trivial ?_
      clear HK12 K12
      intro _
      rw [← HW2.out]
      clear j0 j1 j2 j3 f0 f1 f2 f3
      refine seqG_end ?_
      go_wp2_with fail
      go_roundw
      case rel => exact ⟨i + 1, by go_num, hlt, HSW.out, HGS.out⟩
      case measure => simp [intOf]; omega
    · obtain rfl : i = n := by omega
      have HE := hid HZ.out.1
      rw [swpRun_end _ _ _ _ _ _ HXY.out.1 HXY.out.2] at HE
      go_wp2_with fail
      go_end0
      rw [HQ.out]
      exact ⟨rfl, HE.out, HZ.out.2⟩
/-- the runs' lengths, as they are exchanged -/
theorem rot_cutR {l : List TR} (n : Nat) (h : n ≤ l.length) : ∃ l1 l2 : List TR, l = l1 ++ l2 ∧ l1.length = n ∧ l2.length = l.length - n :=
  ⟨l.take n, l.drop n, (List.take_append_drop n l).symm, by rw [List.length_take]; omega, by rw [List.length_drop]⟩
set_option maxRecDepth 100000 in
set_option maxHeartbeats 8000000 in
theorem rotate_row {w0 w : World} {g c N : Nat} {U X Y W : List TR} (hN : N = (U ++ X ++ Y ++ W).length) (hN40 : N ≤ 1099511627776) (fv : Value)
    (hI : RRow w g (U ++ X ++ Y ++ W)) (hG : w0.grownBy w (some g)) (a m b : Nat) (ha : a = U.length) (hm : m = U.length + X.length) (hb : b = U.length + X.length + Y.length) (hX : 0 < X.length) (hY : 0 < Y.length) :
    Calls Try.prog 57 #[.slice (some ⟨g, 0, none⟩) N c, .int .i64 (a : Int), .int .i64 (m : Int), .int .i64 (b : Int), fv] w (RowPostR w0 g (U ++ Y ++ X ++ W)) := by
  have HI := hid (And.intro hI hG)
  have HN := hid hN
  have HM := hid hm
  have HXY := hid (And.intro hX hY)
  obtain ⟨i0, HI0⟩ : ∃ i0, Hid (i0 = X.length) := ⟨_, rfl⟩
  obtain ⟨j0, HJ0⟩ : ∃ j0, Hid (j0 = Y.length) := ⟨_, rfl⟩
  have hma : m = a + i0 := by rw [hm, ha, HI0.out]
  have hbm : b = m + j0 := by rw [hb, hm, HJ0.out]
  have hbN : b ≤ N := by rw [hb, hN]; simp only [List.length_append]; omega
  have HMA := hid hma
  have HBM := hid hbm
  have ham : a ≤ m := by omega
  have hmb : m ≤ b := by omega
  have HA := hid ha
  obtain ⟨Q, HQ⟩ : ∃ Q : Ending → World → Prop, Hid (Q = RowPostR w0 g (U ++ Y ++ X ++ W)) := ⟨_, rfl⟩
  rw [← HQ.out]
  have HS0 : Hid ((m : Int) - (a : Int) = (i0 : Int) ∧ (b : Int) - (m : Int) = (j0 : Int)) := by constructor <;> omega
  clear hI hG hX hY ha hm hb hN hma hbm
  go_enter Try.func57, Try.ntmps57
  go_wp2_with fail
  simp only [HS0.out.1, HS0.out.2]
  go_loopw [10, 11] (fun v10 v11 wr => ∃ i j : Nat, v10 = .int .i64 (i : Int) ∧ v11 = .int .i64 (j : Int) ∧ 0 < i ∧ 0 < j ∧ i ≤ m ∧ m + j ≤ N ∧ Hid (w0.grownBy wr (some g) ∧ ∃ U' X' Y' W' : List TR, RRow wr g (U' ++ X' ++ Y' ++ W') ∧ N = (U' ++ X' ++ Y' ++ W').length ∧ X'.length = i ∧ Y'.length = j ∧ m = U'.length + i ∧ U' ++ Y' ++ X' ++ W' = U ++ Y ++ X ++ W)) (fun v10 v11 _ => (intOf v10).toNat + (intOf v11).toNat)
  case atStart =>
    have h1 := HI0.out
    have h2 := HJ0.out
    have h3 := HM.out
    have h4 := HN.out
    simp only [List.length_append] at h4
    exact ⟨i0, j0, rfl, rfl, by rw [h1]; exact HXY.out.1, by rw [h2]; exact HXY.out.2, by omega, by omega, HI.out.2, U, X, Y, W, HI.out.1, HN.out, h1.symm, h2.symm, by omega, rfl⟩
  case round =>
    obtain ⟨i, j, rfl, rfl, hi, hj, him, hjN, HZ⟩ := hrel
    obtain ⟨U', X', Y', W', hrow, hlen, hx, hy, hmm, heq⟩ := HZ.out.2
    obtain ⟨s, HS⟩ : ∃ s, Hid (s = m - i) := ⟨_, rfl⟩
    have hs : (m : Int) - (i : Int) = (s : Int) := by have := HS.out; omega
    have HSS := hid hs
    by_cases hij : i = j
    · subst hij
      have hc := swapRange_row (c := c) (V := []) (by simpa using hlen) hN40 fv (by simpa using hrow) HZ.out.1 s m i (by have := HS.out; omega) hx hy (by simp; omega)
      have HC := hid hc
      have HE := hid heq
      have HGO := hid HZ.out.1
      clear hrow hlen hx hy hmm heq hc HZ
      have b1 : ((i : Int) != (i : Int)) = false := by simp
      go_wp2_with fail
      refine HC.out.mono ?_
      rintro e w3 ⟨rfl, h1, h2⟩
      go_wp2_with fail
      go_end0
      rw [HQ.out]
      exact ⟨rfl, by rw [← HE.out]; simpa using h1, h2⟩
    · have b1 : ((i : Int) != (j : Int)) = true := by simp; omega
      have b2 : (i != j) = true := by simp; omega
      by_cases hgt : j < i
      · obtain ⟨X1, X2, hX12, hl1, hl2⟩ := rot_cutR j (l := X') (by omega)
        subst hX12
        have hc := swapRange_row (c := c) (U := U') (X := X1) (V := X2) (Y := Y') (W := W') (by rw [hlen]; simp only [List.append_assoc]) hN40 fv (by simpa only [List.append_assoc] using hrow) HZ.out.1 s m j (by have := HS.out; omega) hl1 hy (by omega)
        have HC := hid hc
        have HE := hid heq
        have HLE := hid hlen
        have HLL := hid (And.intro hl1 (And.intro hl2 (And.intro hy (And.intro hx hmm))))
        have hg1 : (j : Int) < (i : Int) := by omega
        clear hrow hlen hx hy hmm heq hc HZ hl1 hl2
        go_wp2_with fail
        refine HC.out.mono ?_
        rintro e w3 ⟨rfl, h1, h2⟩
        have H12 := hid (And.intro h1 h2)
        clear h1 h2
        go_wp2_with fail
        go_roundw
        case rel =>
          obtain ⟨l1, l2, l3, l4, l5⟩ := HLL.out
          simp only [List.length_append] at l4
          refine ⟨i - j, j, by congr 1; omega, rfl, by omega, hj, by omega, hjN, H12.out.2, U' ++ Y', X2, X1, W', H12.out.1, ?_, by rw [l2]; simp only [List.length_append]; omega, l1, by simp only [List.length_append]; omega, ?_⟩
          · rw [HLE.out]; simp only [List.length_append]; omega
          · rw [← HE.out]; simp only [List.append_assoc]
        case measure => simp [intOf]; omega
      · have hgt' : i < j := by omega
        obtain ⟨Y1, Y2, hY12, hl1, hl2⟩ := rot_cutR (j - i) (l := Y') (by omega)
        subst hY12
        have hl2' : Y2.length = i := by omega
        obtain ⟨q, HQ2⟩ : ∃ q, Hid (q = m + j - i) := ⟨_, rfl⟩
        have hq : (m : Int) + (j : Int) - (i : Int) = (q : Int) := by have := HQ2.out; omega
        have hc := swapRange_row (c := c) (U := U') (X := X') (V := Y1) (Y := Y2) (W := W') (by rw [hlen]; simp only [List.append_assoc]) hN40 fv (by simpa only [List.append_assoc] using hrow) HZ.out.1 s q i (by have := HS.out; omega) hx hl2' (by have := HQ2.out; omega)
        have HC := hid hc
        have HE := hid heq
        have HLE := hid hlen
        have HLL := hid (And.intro hl1 (And.intro hl2' (And.intro hx hmm)))
        have hg1 : ¬ (j : Int) < (i : Int) := by omega
        clear hrow hlen hx hy hmm heq hc HZ hl1 hl2 hl2'
        go_wp2_with fail
        refine HC.out.mono ?_
        rintro e w3 ⟨rfl, h1, h2⟩
        have H12 := hid (And.intro h1 h2)
        clear h1 h2
        go_wp2_with fail
        go_roundw
        case rel =>
          obtain ⟨l1, l2, l4, l5⟩ := HLL.out
          refine ⟨i, j - i, rfl, by congr 1; omega, hi, by omega, him, by omega, H12.out.2, U', Y2, Y1, X' ++ W', by simpa only [List.append_assoc] using H12.out.1, ?_, l2, l1, l5, ?_⟩
          · rw [HLE.out]; simp only [List.length_append]; omega
          · rw [← HE.out]; simp only [List.append_assoc]
        case measure => simp [intOf]; omega
end Go.Proofs.Ytphkmpnahnakaaa
