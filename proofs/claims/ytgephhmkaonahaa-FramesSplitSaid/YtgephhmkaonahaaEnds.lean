/- What darningref09.Ends returns as its code: runCount's. Bytes of at most 2 to the 40 (the slice of the ends must fit). -/
import Derived.Test.YtgephhmkaonahaaSpecRun
import Derived.Laws.AppendOwn
import Derived.OwnWalk
import Derived.Maps.AppendAt
namespace Go.Proofs.Ytgephhmkaonahaa
open Go.RowKit

theorem kwire_num (k : Int) (h : knumber k = true) : kwire k = if k < 9 then 0 else if k < 12 then 5 else 1 := by
  have h' : 1 ≤ k ∧ k ≤ 14 := of_decide_eq_true h
  unfold kwire
  rw [if_neg (by omega), if_neg (by omega)]
  by_cases h1 : k < 9
  · rw [if_neg (by omega), if_neg (by omega), if_pos h1]
  · rw [if_neg h1]
    by_cases h2 : k < 12
    · rw [if_neg (by omega), if_pos (by omega), if_pos h2]
    · rw [if_pos (by omega), if_neg h2]

set_option maxRecDepth 100000 in
set_option maxHeartbeats 4000000 in
theorem ref09_Ends {w : World} {v : Value} {l : List UInt8} (h : Bytes w v l) (hsm : l.length ≤ 1099511627776) (k : Int) (hk : knumber k = true) :
    Calls Try.prog 110 #[.int .i64 k, v] w fun e w' => (∃ o, e = .returned (.tuple #[o, .int .i64 (runCount (kwire k) l).2])) ∧ Below w.heap.size w w' := by
  obtain ⟨hlen, a, cap, rfl, -, -, -, hcell⟩ := h.open
  obtain ⟨n, HN⟩ : ∃ n, Hid (n = l.length) := ⟨_, rfl⟩
  obtain ⟨x, HX⟩ : ∃ x, Hid (x = (runCount (kwire k) l).2) := ⟨_, rfl⟩
  rw [← HX.out]
  have H := hid h
  rw [← HN.out] at hlen hcell hsm ⊢
  clear hcell
  have HK := hid hk
  clear hk h
  go_enter Try.func110, Try.ntmps110
  go_wp2_with (go_at_call 56; refine (ref06_Number k _).mono ?_; rintro e w' ⟨rfl, rfl⟩; rw [HK.out])
  obtain ⟨i0, hinf, hz0, hz1, hz2⟩ := info_parts (show (Try.prog.info? 3).map (fun i => (i.zero, i.size, i.bytes)) = some (some (.int .i64 0), 1, 8) by kernel_rfl)
  have HZ := hid (And.intro hinf (And.intro hz0 (And.intro hz1 hz2)))
  clear hinf hz0 hz1 hz2
  go_loopw [6, 7] (fun v6 v7 wr => ∃ i : Nat, i ≤ n ∧ v7 = .int .i64 i ∧ Hid ((runCount (kwire k) (l.drop i)).2 = x) ∧ (∃ cnt row, Hid (wr.ownsRow w.heap.size 3 1 v6 cnt row) ∧ Hid (cnt ≤ i)) ∧ Hid (Below w.heap.size w wr)) (fun _ v7 _ => n - (intOf v7).toNat)
  case atStart => exact ⟨0, by omega, rfl, HX.out.symm, ⟨0, [], World.ownsRow_nil _ _ _ _, Nat.le_refl _⟩, Below.refl _ _⟩
  case round =>
    obtain ⟨i, hi, rfl, HR, ⟨cnt, row, HOWN, HCN⟩, HBEL⟩ := hrel
    by_cases hlt : i < n
    · have hwr : Bytes wr (.slice a n cap) l := by
        have := H.out.keep (below_keeps HBEL.out)
        rw [HN.out]; exact this
      have hne : l.drop i ≠ [] := by
        intro e
        have := congrArg List.length e
        simp at this
        have := HN.out
        omega
      have HNE := hid hne
      clear hne
      rcases runSize_cases (kwire k) (l.drop i) with ⟨m, e, h1, h2, h3⟩ | ⟨c, e, hc⟩
      · have HE := hid e
        have HST := hid (runCount_step (kwire k) (l.drop i) HNE.out m e)
        have hin : i + m ≤ n := by rw [List.length_drop] at h3; have := HN.out; omega
        clear e h3
        have HWR := hid hwr
        clear hwr
        by_cases hk9 : k < 9
        · have hv : ∃ wv, Hid (vread (l.drop i) = (wv, m, 0)) := by
            have := HE.out
            unfold runSize at this
            rw [if_pos (by have := HK.out; unfold kwire; simp [knumber] at this; (repeat (first | rw [if_neg (by omega)] | rw [if_pos (by omega)])))] at this
            injection this with e1 e2
            exact ⟨(vread (l.drop i)).1, by rw [Hid, ← e1, ← e2]⟩
          obtain ⟨wv, HVR⟩ := hv
          go_wp2_with (first | (go_at_call 38; refine (ref02_Read_at HWR.out _ i rfl (by rw [← HN.out]; omega)).mono ?_; rintro e w' ⟨rfl, rfl⟩; rw [HVR.out]) | (at_builtin; (refine wpList_append_own _ rfl _ _ 131 rfl w.heap.size 3 i0 (.int .i64 0) 1 8 Try.underlying131 HZ.out.1 HZ.out.2.1 HZ.out.2.2.1 HZ.out.2.2.2 rfl (by decide) _ _ _ rfl (HOWN.out.alloc _) ⟨wr.heap.size, 0, none⟩ 1 1 [.int .i64 ((i : Int) + (m : Int))] rfl rfl (cell_one_new _ _ _) (by simp [Value.oneCell']) (by have := HCN.out; simp only [maxLen]; omega) (by have := HCN.out; omega) (by have := HBEL.out.size; simp; omega) ?_); intro v' w1 hown' hgrow _))
          go_roundw
          case rel =>
            refine ⟨i + m, hin, by go_num, ?_, ⟨cnt + 1, _, hown', by have := HCN.out; show cnt + 1 ≤ i + m; omega⟩, ?_⟩
            · have h5 := HST.out
              rw [List.drop_drop] at h5
              rw [Hid, ← HR.out, h5]
              by_cases h6 : (runCount (kwire k) (l.drop (i + m))).2 = 0 <;> simp [h6]
            · exact (HBEL.out.alloc HBEL.out.size _).grown hgrow (by simp; have := HBEL.out.size; omega) (fun q e => (HOWN.out.lt q e).1)
          case measure => simp [intOf]; omega
        · have hmm : m = if kwire k = 1 then 8 else 4 := by
            have h7 := HE.out
            unfold runSize at h7
            rw [if_neg (by rw [kwire_num k HK.out, if_neg hk9]; split <;> decide)] at h7
            by_cases h8 : (l.drop i).length < (if kwire k = 1 then 8 else 4)
            · rw [if_pos h8] at h7; cases h7
            · rw [if_neg h8] at h7; exact (congrArg Prod.fst h7).symm
          by_cases hk12 : k < 12
          · obtain rfl : m = 4 := by
              rw [hmm, kwire_num k HK.out, if_neg hk9, if_pos hk12]; rfl
            clear hmm
            go_wp2_with (at_builtin; (refine wpList_append_own _ rfl _ _ 131 rfl w.heap.size 3 i0 (.int .i64 0) 1 8 Try.underlying131 HZ.out.1 HZ.out.2.1 HZ.out.2.2.1 HZ.out.2.2.2 rfl (by decide) _ _ _ rfl (HOWN.out.alloc _) ⟨wr.heap.size, 0, none⟩ 1 1 [.int .i64 ((i : Int) + 4)] rfl rfl (cell_one_new _ _ _) (by simp [Value.oneCell']) (by have := HCN.out; simp only [maxLen]; omega) (by have := HCN.out; omega) (by have := HBEL.out.size; simp; omega) ?_); intro v' w1 hown' hgrow _)
            go_roundw
            case rel =>
              refine ⟨i + 4, hin, by go_num, ?_, ⟨cnt + 1, _, hown', by have := HCN.out; show cnt + 1 ≤ i + 4; omega⟩, ?_⟩
              · have h5 := HST.out
                rw [List.drop_drop] at h5
                rw [Hid, ← HR.out, h5]
                by_cases h6 : (runCount (kwire k) (l.drop (i + 4))).2 = 0 <;> simp [h6]
              · exact (HBEL.out.alloc HBEL.out.size _).grown hgrow (by simp; have := HBEL.out.size; omega) (fun q e => (HOWN.out.lt q e).1)
            case measure => simp [intOf]; omega
          · obtain rfl : m = 8 := by
              rw [hmm, kwire_num k HK.out, if_neg hk9, if_neg hk12]; rfl
            clear hmm
            go_wp2_with (at_builtin; (refine wpList_append_own _ rfl _ _ 131 rfl w.heap.size 3 i0 (.int .i64 0) 1 8 Try.underlying131 HZ.out.1 HZ.out.2.1 HZ.out.2.2.1 HZ.out.2.2.2 rfl (by decide) _ _ _ rfl (HOWN.out.alloc _) ⟨wr.heap.size, 0, none⟩ 1 1 [.int .i64 ((i : Int) + 8)] rfl rfl (cell_one_new _ _ _) (by simp [Value.oneCell']) (by have := HCN.out; simp only [maxLen]; omega) (by have := HCN.out; omega) (by have := HBEL.out.size; simp; omega) ?_); intro v' w1 hown' hgrow _)
            go_roundw
            case rel =>
              refine ⟨i + 8, hin, by go_num, ?_, ⟨cnt + 1, _, hown', by have := HCN.out; show cnt + 1 ≤ i + 8; omega⟩, ?_⟩
              · have h5 := HST.out
                rw [List.drop_drop] at h5
                rw [Hid, ← HR.out, h5]
                by_cases h6 : (runCount (kwire k) (l.drop (i + 8))).2 = 0 <;> simp [h6]
              · exact (HBEL.out.alloc HBEL.out.size _).grown hgrow (by simp; have := HBEL.out.size; omega) (fun q e => (HOWN.out.lt q e).1)
            case measure => simp [intOf]; omega
      · have HE := hid e
        have HBD := hid (runCount_bad (kwire k) (l.drop i) HNE.out c (by omega) (by rw [e]))
        obtain rfl : x = c := by rw [← HR.out, HBD.out]
        have HWR := hid hwr
        clear hwr e
        by_cases hk9 : k < 9
        · obtain ⟨wv, HVR⟩ : ∃ wv, Hid (vread (l.drop i) = (wv, 0, x)) := by
            have := HE.out
            unfold runSize at this
            rw [if_pos (by rw [kwire_num k HK.out, if_pos hk9])] at this
            injection this with e1 e2
            exact ⟨(vread (l.drop i)).1, by rw [Hid, ← e1, ← e2]⟩
          have e1 : ((x : Int) == 0) = false := by simp; omega
          have e2 : ((x : Int) != 0) = true := by simp; omega
          have HCC := hid hc
          clear hc
          go_wp2_with (go_at_call 38; refine (ref02_Read_at HWR.out _ i rfl (by rw [← HN.out]; omega)).mono ?_; rintro e w' ⟨rfl, rfl⟩; rw [HVR.out])
          go_ret2
          exact ⟨⟨_, rfl⟩, HBEL.out⟩
        · by_cases hk12 : k < 12
          · obtain ⟨rfl, hs⟩ : x = 3 ∧ n < i + 4 := by
              have h7 := HE.out
              unfold runSize at h7
              rw [if_neg (by rw [kwire_num k HK.out, if_neg hk9]; split <;> decide)] at h7
              by_cases h8 : (l.drop i).length < (if kwire k = 1 then 8 else 4)
              · rw [if_pos h8] at h7
                rw [kwire_num k HK.out, if_neg hk9, if_pos hk12, List.length_drop] at h8
                have := HN.out
                exact ⟨(congrArg Prod.snd h7).symm, by simp at h8; omega⟩
              · rw [if_neg h8] at h7; have := congrArg Prod.snd h7; simp at this; omega
            go_wp2
            go_ret2
            exact ⟨⟨_, rfl⟩, HBEL.out⟩
          · obtain ⟨rfl, hs⟩ : x = 3 ∧ n < i + 8 := by
              have h7 := HE.out
              unfold runSize at h7
              rw [if_neg (by rw [kwire_num k HK.out, if_neg hk9]; split <;> decide)] at h7
              by_cases h8 : (l.drop i).length < (if kwire k = 1 then 8 else 4)
              · rw [if_pos h8] at h7
                rw [kwire_num k HK.out, if_neg hk9, if_neg hk12, List.length_drop] at h8
                have := HN.out
                exact ⟨(congrArg Prod.snd h7).symm, by simp at h8; omega⟩
              · rw [if_neg h8] at h7; have := congrArg Prod.snd h7; simp at this; omega
            go_wp2
            go_ret2
            exact ⟨⟨_, rfl⟩, HBEL.out⟩
    · obtain rfl : i = n := by omega
      obtain rfl : x = 0 := by
        rw [← HR.out, List.drop_eq_nil_of_le (by rw [HN.out]; exact Nat.le_refl _), runCount_nil]
      go_wp2
      go_ret2
      exact ⟨⟨_, rfl⟩, HBEL.out⟩

end Go.Proofs.Ytgephhmkaonahaa
