/- darningref10.All: all views of bytes (vall). At most 2^40 bytes. darningref09.Ends: where a run's values end (endsF), or its code. Bytes of at most 2 to the 40. darningref09.Words: the words of a run, the code (runWords). Bytes of at most 2 to the 40. -/
import Derived.Test.YtbcpeckmnmhfhaaGreatZ18
import Derived.Test.YtbcpeckmnmhfhaaGreatZ23
import Derived.Test.YtbcpeckmnmhfhaaGreatZ28
import Derived.Test.YtbcpeckmnmhfhaaGreatZ32
import Derived.Deep.DeepCutAuto
import Derived.Laws.AppendOwn
import Derived.OwnWalk
import Derived.Maps.AppendAt
namespace Go.Proofs.YtbcpeckmnmhfhaaGreat
open Go.RowKit
theorem info_rview : (Tryz.prog.info? 83).map (fun i => (i.zero, i.size, i.bytes)) = some (some (.agg #[.int .i64 0, .int .i64 0, .int .i64 0, .int .i64 0, .int .i64 0, .int .i64 0, .bool false]), 7, 56) := by kernel_rfl
set_option maxRecDepth 100000 in
set_option maxHeartbeats 8000000 in
theorem ref10_All {w : World} {v vf : Value} {l : List UInt8} {fs : List Fld} (h : Bytes w v l) (hl : l.length ≤ 1099511627776) (hf : FieldsAt w vf fs) (nm : ByteArray) :
    Calls Tryz.prog 24 #[.agg #[.string nm, vf], v] w (AllPost w 83 (fun c => .int .i64 (c : Int)) (vall fs l)) := by
  have HLL := hid hl
  obtain ⟨hlen, a, cap, rfl, -, -, -, -⟩ := h.open
  obtain ⟨-, fa, fc, rfl, -⟩ := hf.open
  obtain ⟨n, HN⟩ : ∃ n, Hid (n = l.length) := ⟨_, rfl⟩
  obtain ⟨fn, HFN⟩ : ∃ n, Hid (n = fs.length) := ⟨_, rfl⟩
  rw [← HN.out] at hlen HLL hl h ⊢
  rw [← HFN.out] at hf ⊢
  obtain ⟨w1, HW1⟩ : ∃ w1, Hid (w1 = w.alloc (.cells #[.string nm, .slice fa fn fc] 55)) := ⟨_, rfl⟩
  have hb1 : Below w.heap.size w w1 := by rw [HW1.out]; (repeat (first | with_reducible exact Below.refl _ _ | with_reducible refine Below.setCell ?_ (by first | omega | (simp; omega) | (simp; done)) _ | with_reducible refine Below.alloc ?_ (by first | omega | (simp; omega) | (simp; done)) _ | with_reducible refine below_drewN ?_ _ | with_reducible refine Below.drew ?_))
  have hbx : Blk w1 w.heap.size [.string nm, .slice fa fn fc] 55 := by rw [HW1.out]; exact Blk.new w [.string nm, .slice fa fn fc] _
  have HB1 := hid hb1
  have HBX := hid hbx
  have HV := hid (h.below hb1)
  have HF := hid (hf.below hb1)
  obtain ⟨Q, HQ⟩ : ∃ Q : Ending → World → Prop, Hid (Q = AllPost w 83 (fun c => .int .i64 (c : Int)) (vall fs l)) := ⟨_, rfl⟩
  rw [← HQ.out]
  clear h hf hb1 hbx
  go_enter Tryz.func24, Tryz.ntmps24
  go_wp2_with fail
  rw [← HW1.out]
  go_loopw [7, 8, 9, 10] (fun v7 v8 _ _ wr => ∃ (pre : List VW) (oa : Option Addr) (m oc at' : Nat), v7 = .slice oa m oc ∧ v8 = .int .i64 at' ∧ at' ≤ n ∧ m ≤ at' ∧ Hid (m = pre.length ∧ (∃ fuel, n - at' ≤ fuel ∧ vall fs l = glueV pre (vallGo fs l fuel at')) ∧ Below w1.heap.size w1 wr ∧ RowsOwn viewP 83 7 0 w1.heap.size wr (.slice oa m oc) pre)) (fun _ v8 _ _ _ => n - (intOf v8).toNat)
  case atStart => exact ⟨[], none, 0, 0, 0, rfl, rfl, by omega, by omega, rfl, ⟨l.length, by have := HN.out; omega, by rw [glueV_nil]; rfl⟩, Below.refl _ _, RowsOwn.nil _ _ _ _ _ _⟩
  case round =>
    obtain ⟨pre, oa, m, oc, at', rfl, rfl, hat, hmat, HI⟩ := hrel
    have hbx := HBX.out.below HI.out.2.2.1
    have c0 := hbx.cell 0 _ rfl
    have c1 := hbx.cell 1 _ rfl
    have hsz := hbx.lt
    have HBW : Hid (Below w.heap.size w wr) := HB1.out.trans (HI.out.2.2.1.mono HB1.out.size)
    clear hbx
    by_cases hlt : at' < n
    · obtain ⟨r, k, run, c, HR⟩ : ∃ r k run c, Hid (vlook fs l at' = (r, k, run, c)) := ⟨_, _, _, _, rfl⟩
      have hlk := ref10_Look (HV.out.below HI.out.2.2.1) (HF.out.below HI.out.2.2.1) nm at'
      rw [HR.out] at hlk
      have HLK := hid hlk
      obtain ⟨rn, rw', rs, ra, rt⟩ := r
      simp only [viewV] at HLK
      clear hlk
      by_cases hc : c = 0
      · subst hc
        have hok : at' < rt ∧ rt ≤ n := by
          have := vlook_ok (fs := fs) (l := l) (i := at') (by rw [HR.out])
          rw [HR.out, ← HN.out] at this
          exact ⟨this.2.1, this.2.2.1⟩
        have HST : Hid (∃ fuel, n - rt ≤ fuel ∧ vall fs l = glueV (pre ++ [⟨⟨rn, rw', rs, ra, rt⟩, k, run⟩]) (vallGo fs l fuel rt)) := by
          obtain ⟨fuel, h1, h2⟩ := HI.out.2.1
          obtain ⟨f', rfl⟩ : ∃ f', fuel = f' + 1 := ⟨fuel - 1, by omega⟩
          exact ⟨f', by omega, by rw [h2, glueV_step (by rw [← HN.out]; exact hlt) HR.out]⟩
        go_wp2_with fail
        refine HLK.out.mono ?_
        rintro e w2 ⟨rfl, hb1⟩
        have hb2 := hb1.alloc hb1.size (.cells #[.int .i64 rn, .int .i64 rw', .int .i64 rs, .int .i64 ra, .int .i64 rt, .int .i64 k, .bool run] 83)
        have hk2 := Blk.new w2 [.int .i64 rn, .int .i64 rw', .int .i64 rs, .int .i64 ra, .int .i64 rt, .int .i64 k, .bool run] 83
        have hX : wr.heap.size ≤ w2.heap.size := hb1.size
        generalize hW2 : w2.alloc (.cells #[.int .i64 rn, .int .i64 rw', .int .i64 rs, .int .i64 ra, .int .i64 rt, .int .i64 k, .bool run] 83) = W2 at *
        obtain ⟨X, HX⟩ : ∃ X, Hid (X = w2.heap.size) := ⟨_, rfl⟩
        rw [← HX.out] at hk2 hX
        obtain ⟨a5, c5, w5, hr5, hO5, hB4, hB5, hk5⟩ := RowsOwn.step2 HI.out.2.2.2 hb2 (by decide) (by omega) HI.out.2.2.1.size HI.out.1.symm 73 _ 56 Tryz.underlying73 info_rview rfl #[.int .i64 rn, .int .i64 rw', .int .i64 rs, .int .i64 ra, .int .i64 rt, .int .i64 k, .bool run] rfl (by intro u hu; simp at hu; rcases hu with rfl | rfl | rfl | rfl | rfl | rfl | rfl <;> rfl) ⟨⟨rn, rw', rs, ra, rt⟩, k, run⟩ (fun _ _ => rfl) (by have := HLL.out; omega) (by decide)
        have hkf : Blk w5 X [.int .i64 rn, .int .i64 rw', .int .i64 rs, .int .i64 ra, .int .i64 rt, .int .i64 k, .bool run] 83 := (hk5 X hX hk2.lt).trans hk2
        have HK := hid (And.intro hk2 hkf)
        have HR5 := hid hr5
        have HO5 := hid hO5
        have HB5 : Hid (Below w1.heap.size wr w5) := hB5
        have HWW := hid hW2
        clear hkf hr5 hO5 hB4 hB5 hk5 hb2 hk2 hb1 c0 c1 hsz hW2
        go_upto_region 7 with fail
        rw [HWW.out, ← HX.out]
        have h0 := HK.out.1.cell 0 _ rfl
        have h1 := HK.out.1.cell 1 _ rfl
        have h2 := HK.out.1.cell 2 _ rfl
        have h3 := HK.out.1.cell 3 _ rfl
        have h4 := HK.out.1.cell 4 _ rfl
        have h5 := HK.out.1.cell 5 _ rfl
        have h6 := HK.out.1.cell 6 _ rfl
        have g4 := HK.out.2.cell 4 _ rfl
        go_wp2_with (at_builtin; refine wpList_append_eq rfl _ _ _ rfl _ _ rfl rfl HR5.out ?_)
        go_roundw
        case rel => exact ⟨pre ++ [⟨⟨rn, rw', rs, ra, rt⟩, k, run⟩], _, _, _, rt, rfl, rfl, hok.2, by have := hok.1; omega, by rw [List.length_append, ← HI.out.1]; rfl, HST.out, HI.out.2.2.1.trans HB5.out, HO5.out⟩
        case measure => simp [intOf]; have := hok.1; omega
      · have HE : Hid (vall fs l = ([], at', c)) := by
          obtain ⟨fuel, h1, h2⟩ := HI.out.2.1
          obtain ⟨f', rfl⟩ : ∃ f', fuel = f' + 1 := ⟨fuel - 1, by omega⟩
          rw [Hid, h2, glueV_bad (by rw [← HN.out]; exact hlt) (by rw [HR.out]) hc]
        have hc1 : ((c : Int) != 0) = true := by simp; exact hc
        have hc2 : ((c : Int) == 0) = false := by simp; exact hc
        clear hc
        go_wp2_with fail
        refine HLK.out.mono ?_
        rintro e w2 ⟨rfl, hb1⟩
        have HB2 : Hid (Below w.heap.size w w2) := below_step HBW.out hb1 HBW.out.size
        clear hb1
        go_wp2_with fail
        rw [HQ.out, HE.out]
        go_ret3
        exact ⟨_, w.heap.size, rfl, Nat.le_refl _, RowsOwn.nil _ _ _ _ _ _, HB2.out.alloc HB2.out.size _⟩
    · obtain rfl : at' = n := by omega
      have HE : Hid (vall fs l = (pre, 0, 0)) := by
        obtain ⟨fuel, h1, h2⟩ := HI.out.2.1
        rw [Hid, h2, glueV_end (by rw [← HN.out]; omega)]
      go_wp2_with fail
      rw [HQ.out, HE.out]
      go_ret3
      exact ⟨_, w1.heap.size, rfl, HB1.out.size, HI.out.2.2.2, HBW.out⟩
end Go.Proofs.YtbcpeckmnmhfhaaGreat
namespace Go.Proofs.YtbcpeckmnmhfhaaGreat
open Go.RowKit
/-- where values end, the first beginning at i -/
def endsF : Nat → List (List UInt8) → List Int
  | _, [] => []
  | i, x :: r => ((i + x.length : Nat) : Int) :: endsF (i + x.length) r
theorem endsF_step {wire : Nat} {l : List UInt8} {i m : Nat} (hne : l.drop i ≠ []) (he : runSize wire (l.drop i) = (m, 0)) (hm : i + m ≤ l.length) :
    endsF i (rpieces wire (l.drop i)) = ((i : Int) + (m : Int)) :: endsF (i + m) (rpieces wire (l.drop (i + m))) := by
  rw [rpieces_step wire (l.drop i) hne m he, endsF, List.drop_drop]
  have h1 : ((l.drop i).take m).length = m := by rw [List.length_take, List.length_drop]; omega
  rw [h1, Int.natCast_add]
set_option maxRecDepth 100000 in
set_option maxHeartbeats 4000000 in
theorem ref09_Ends2 {w : World} {v : Value} {l : List UInt8} (h : Bytes w v l) (hsm : l.length ≤ 1099511627776) (k : Int) (hk : knumber k = true) :
    Calls Tryz.prog 44 #[.int .i64 k, v] w fun e w' => (∃ o, e = .returned (.tuple #[o, .int .i64 (runCount (kwire k) l).2]) ∧ IntsOwn w' w.heap.size o (if (runCount (kwire k) l).2 = 0 then endsF 0 (rpieces (kwire k) l) else [])) ∧ Below w.heap.size w w' := by
  obtain ⟨hlen, a, cap, rfl, -, -, -, hcell⟩ := h.open
  obtain ⟨n, HN⟩ : ∃ n, Hid (n = l.length) := ⟨_, rfl⟩
  obtain ⟨x, HX⟩ : ∃ x, Hid (x = (runCount (kwire k) l).2) := ⟨_, rfl⟩
  rw [← HX.out]
  obtain ⟨L, HL⟩ : ∃ L, Hid (L = if x = 0 then endsF 0 (rpieces (kwire k) l) else []) := ⟨_, rfl⟩
  rw [← HL.out]
  have H := hid h
  rw [← HN.out] at hlen hcell hsm ⊢
  clear hcell
  have HK := hid hk
  clear hk h
  go_enter Tryz.func44, Tryz.ntmps44
  go_wp2_with (go_at_call 27; refine (ref06_Number k _).mono ?_; rintro e w' ⟨rfl, rfl⟩; rw [HK.out])
  obtain ⟨i0, hinf, hz0, hz1, hz2⟩ := info_parts (show (Tryz.prog.info? 3).map (fun i => (i.zero, i.size, i.bytes)) = some (some (.int .i64 0), 1, 8) by kernel_rfl)
  have HZ := hid (And.intro hinf (And.intro hz0 (And.intro hz1 hz2)))
  clear hinf hz0 hz1 hz2
  go_loopw [6, 7] (fun v6 v7 wr => ∃ i : Nat, i ≤ n ∧ v7 = .int .i64 i ∧ Hid ((runCount (kwire k) (l.drop i)).2 = x) ∧ (∃ cnt row es, Hid (wr.ownsRow w.heap.size 3 1 v6 cnt row) ∧ Hid (cnt ≤ i) ∧ Hid (row = es.map intV ∧ cnt = es.length ∧ endsF 0 (rpieces (kwire k) l) = es ++ endsF i (rpieces (kwire k) (l.drop i)))) ∧ Hid (Below w.heap.size w wr)) (fun _ v7 _ => n - (intOf v7).toNat)
  case atStart => exact ⟨0, by omega, rfl, HX.out.symm, ⟨0, [], [], World.ownsRow_nil _ _ _ _, Nat.le_refl _, rfl, rfl, by simp⟩, Below.refl _ _⟩
  case round =>
    obtain ⟨i, hi, rfl, HR, ⟨cnt, row, es, HOWN, HCN, HES⟩, HBEL⟩ := hrel
    by_cases hlt : i < n
    · have hwr : Bytes wr (.slice a n cap) l := by
        have := H.out.keep (below_keeps HBEL.out)
        rw [HN.out]; exact this
      have hne : l.drop i ≠ [] := by
        intro e
        have := congrArg List.length e
        simp at this
        have := HN.out
        omega
      have HNE := hid hne
      clear hne
      rcases runSize_cases (kwire k) (l.drop i) with ⟨m, e, h1, h2, h3⟩ | ⟨c, e, hc⟩
      · have HE := hid e
        have HST := hid (runCount_step (kwire k) (l.drop i) HNE.out m e)
        have hin : i + m ≤ n := by rw [List.length_drop] at h3; have := HN.out; omega
        have HEF := hid (endsF_step HNE.out e (by rw [← HN.out]; exact hin))
        clear e h3
        have HWR := hid hwr
        clear hwr
        by_cases hk9 : k < 9
        · have hv : ∃ wv, Hid (vread (l.drop i) = (wv, m, 0)) := by
            have := HE.out
            unfold runSize at this
            rw [if_pos (by have := HK.out; unfold kwire; simp [knumber] at this; (repeat (first | rw [if_neg (by omega)] | rw [if_pos (by omega)])))] at this
            injection this with e1 e2
            exact ⟨(vread (l.drop i)).1, by rw [Hid, ← e1, ← e2]⟩
          obtain ⟨wv, HVR⟩ := hv
          go_wp2_with (first | (go_at_call 51; refine (ref02_Read_at HWR.out _ i rfl (by rw [← HN.out]; omega)).mono ?_; rintro e w' ⟨rfl, rfl⟩; rw [HVR.out]) | (at_builtin; (refine wpList_append_own _ rfl _ _ 45 rfl w.heap.size 3 i0 (.int .i64 0) 1 8 Tryz.underlying45 HZ.out.1 HZ.out.2.1 HZ.out.2.2.1 HZ.out.2.2.2 rfl (by decide) _ _ _ rfl (HOWN.out.alloc _) ⟨wr.heap.size, 0, none⟩ 1 1 [.int .i64 ((i : Int) + (m : Int))] rfl rfl (cell_one_new _ _ _) (by simp [Value.oneCell']) (by have := HCN.out; simp only [maxLen]; omega) (by have := HCN.out; omega) (by have := HBEL.out.size; simp; omega) ?_); intro v' w1 hown' hgrow _))
          go_roundw
          case rel =>
            refine ⟨i + m, hin, by go_num, ?_, ⟨cnt + 1, _, es ++ [(i : Int) + (m : Int)], hown', by have := HCN.out; show cnt + 1 ≤ i + m; omega, by rw [HES.out.1]; simp [intV], by rw [HES.out.2.1]; simp, by rw [HES.out.2.2, HEF.out]; simp⟩, ?_⟩
            · have h5 := HST.out
              rw [List.drop_drop] at h5
              rw [Hid, ← HR.out, h5]
              by_cases h6 : (runCount (kwire k) (l.drop (i + m))).2 = 0 <;> simp [h6]
            · exact (HBEL.out.alloc HBEL.out.size _).grown hgrow (by simp; have := HBEL.out.size; omega) (fun q e => (HOWN.out.lt q e).1)
          case measure => simp [intOf]; omega
        · have hmm : m = if kwire k = 1 then 8 else 4 := by
            have h7 := HE.out
            unfold runSize at h7
            rw [if_neg (by rw [kwire_num k HK.out, if_neg hk9]; split <;> decide)] at h7
            by_cases h8 : (l.drop i).length < (if kwire k = 1 then 8 else 4)
            · rw [if_pos h8] at h7; cases h7
            · rw [if_neg h8] at h7; exact (congrArg Prod.fst h7).symm
          by_cases hk12 : k < 12
          · obtain rfl : m = 4 := by
              rw [hmm, kwire_num k HK.out, if_neg hk9, if_pos hk12]; rfl
            clear hmm
            go_wp2_with (at_builtin; (refine wpList_append_own _ rfl _ _ 45 rfl w.heap.size 3 i0 (.int .i64 0) 1 8 Tryz.underlying45 HZ.out.1 HZ.out.2.1 HZ.out.2.2.1 HZ.out.2.2.2 rfl (by decide) _ _ _ rfl (HOWN.out.alloc _) ⟨wr.heap.size, 0, none⟩ 1 1 [.int .i64 ((i : Int) + 4)] rfl rfl (cell_one_new _ _ _) (by simp [Value.oneCell']) (by have := HCN.out; simp only [maxLen]; omega) (by have := HCN.out; omega) (by have := HBEL.out.size; simp; omega) ?_); intro v' w1 hown' hgrow _)
            go_roundw
            case rel =>
              refine ⟨i + 4, hin, by go_num, ?_, ⟨cnt + 1, _, es ++ [(i : Int) + 4], hown', by have := HCN.out; show cnt + 1 ≤ i + 4; omega, by rw [HES.out.1]; simp [intV], by rw [HES.out.2.1]; simp, by rw [HES.out.2.2, HEF.out]; simp⟩, ?_⟩
              · have h5 := HST.out
                rw [List.drop_drop] at h5
                rw [Hid, ← HR.out, h5]
                by_cases h6 : (runCount (kwire k) (l.drop (i + 4))).2 = 0 <;> simp [h6]
              · exact (HBEL.out.alloc HBEL.out.size _).grown hgrow (by simp; have := HBEL.out.size; omega) (fun q e => (HOWN.out.lt q e).1)
            case measure => simp [intOf]; omega
          · obtain rfl : m = 8 := by
              rw [hmm, kwire_num k HK.out, if_neg hk9, if_neg hk12]; rfl
            clear hmm
            go_wp2_with (at_builtin; (refine wpList_append_own _ rfl _ _ 45 rfl w.heap.size 3 i0 (.int .i64 0) 1 8 Tryz.underlying45 HZ.out.1 HZ.out.2.1 HZ.out.2.2.1 HZ.out.2.2.2 rfl (by decide) _ _ _ rfl (HOWN.out.alloc _) ⟨wr.heap.size, 0, none⟩ 1 1 [.int .i64 ((i : Int) + 8)] rfl rfl (cell_one_new _ _ _) (by simp [Value.oneCell']) (by have := HCN.out; simp only [maxLen]; omega) (by have := HCN.out; omega) (by have := HBEL.out.size; simp; omega) ?_); intro v' w1 hown' hgrow _)
            go_roundw
            case rel =>
              refine ⟨i + 8, hin, by go_num, ?_, ⟨cnt + 1, _, es ++ [(i : Int) + 8], hown', by have := HCN.out; show cnt + 1 ≤ i + 8; omega, by rw [HES.out.1]; simp [intV], by rw [HES.out.2.1]; simp, by rw [HES.out.2.2, HEF.out]; simp⟩, ?_⟩
              · have h5 := HST.out
                rw [List.drop_drop] at h5
                rw [Hid, ← HR.out, h5]
                by_cases h6 : (runCount (kwire k) (l.drop (i + 8))).2 = 0 <;> simp [h6]
              · exact (HBEL.out.alloc HBEL.out.size _).grown hgrow (by simp; have := HBEL.out.size; omega) (fun q e => (HOWN.out.lt q e).1)
            case measure => simp [intOf]; omega
      · have HE := hid e
        have HBD := hid (runCount_bad (kwire k) (l.drop i) HNE.out c (by omega) (by rw [e]))
        obtain rfl : x = c := by rw [← HR.out, HBD.out]
        have HWR := hid hwr
        clear hwr e
        by_cases hk9 : k < 9
        · obtain ⟨wv, HVR⟩ : ∃ wv, Hid (vread (l.drop i) = (wv, 0, x)) := by
            have := HE.out
            unfold runSize at this
            rw [if_pos (by rw [kwire_num k HK.out, if_pos hk9])] at this
            injection this with e1 e2
            exact ⟨(vread (l.drop i)).1, by rw [Hid, ← e1, ← e2]⟩
          have e1 : ((x : Int) == 0) = false := by simp; omega
          have e2 : ((x : Int) != 0) = true := by simp; omega
          have HCC := hid hc
          clear hc
          go_wp2_with (go_at_call 51; refine (ref02_Read_at HWR.out _ i rfl (by rw [← HN.out]; omega)).mono ?_; rintro e w' ⟨rfl, rfl⟩; rw [HVR.out])
          go_ret2
          exact ⟨⟨_, rfl, by rw [HL.out, if_neg (by have := HCC.out; omega)]; exact World.ownsRow_nil _ _ _ _⟩, HBEL.out⟩
        · by_cases hk12 : k < 12
          · obtain ⟨rfl, hs⟩ : x = 3 ∧ n < i + 4 := by
              have h7 := HE.out
              unfold runSize at h7
              rw [if_neg (by rw [kwire_num k HK.out, if_neg hk9]; split <;> decide)] at h7
              by_cases h8 : (l.drop i).length < (if kwire k = 1 then 8 else 4)
              · rw [if_pos h8] at h7
                rw [kwire_num k HK.out, if_neg hk9, if_pos hk12, List.length_drop] at h8
                have := HN.out
                exact ⟨(congrArg Prod.snd h7).symm, by simp at h8; omega⟩
              · rw [if_neg h8] at h7; have := congrArg Prod.snd h7; simp at this; omega
            go_wp2
            go_ret2
            exact ⟨⟨_, rfl, by rw [HL.out, if_neg (by decide)]; exact World.ownsRow_nil _ _ _ _⟩, HBEL.out⟩
          · obtain ⟨rfl, hs⟩ : x = 3 ∧ n < i + 8 := by
              have h7 := HE.out
              unfold runSize at h7
              rw [if_neg (by rw [kwire_num k HK.out, if_neg hk9]; split <;> decide)] at h7
              by_cases h8 : (l.drop i).length < (if kwire k = 1 then 8 else 4)
              · rw [if_pos h8] at h7
                rw [kwire_num k HK.out, if_neg hk9, if_neg hk12, List.length_drop] at h8
                have := HN.out
                exact ⟨(congrArg Prod.snd h7).symm, by simp at h8; omega⟩
              · rw [if_neg h8] at h7; have := congrArg Prod.snd h7; simp at this; omega
            go_wp2
            go_ret2
            exact ⟨⟨_, rfl, by rw [HL.out, if_neg (by decide)]; exact World.ownsRow_nil _ _ _ _⟩, HBEL.out⟩
    · obtain rfl : i = n := by omega
      obtain rfl : x = 0 := by
        rw [← HR.out, List.drop_eq_nil_of_le (by rw [HN.out]; exact Nat.le_refl _), runCount_nil]
      have HFIN : Hid (IntsOwn wr w.heap.size u6 (endsF 0 (rpieces (kwire k) l))) := by
        have h1 := HES.out.2.2
        rw [List.drop_eq_nil_of_le (by rw [HN.out]; exact Nat.le_refl _), rpieces_nil, endsF, List.append_nil] at h1
        have h2 := HOWN.out
        rw [HES.out.1, HES.out.2.1] at h2
        rw [h1]; exact h2
      go_wp2
      go_ret2
      exact ⟨⟨_, rfl, by rw [HL.out, if_pos trivial]; exact HFIN.out⟩, HBEL.out⟩
end Go.Proofs.YtbcpeckmnmhfhaaGreat
namespace Go.Proofs.YtbcpeckmnmhfhaaGreat
open Go.RowKit
theorem rpieces_flat (wire : Nat) : ∀ (m : Nat) (l : List UInt8), l.length ≤ m → (runCount wire l).2 = 0 → (rpieces wire l).flatten = l
  | 0, l, h, _ => by
    obtain rfl : l = [] := List.length_eq_zero_iff.1 (by omega)
    rfl
  | m + 1, l, h, hc => by
    by_cases hl : l = []
    · subst hl; rfl
    · rcases runSize_cases wire l with ⟨n, e, h1, h2, h3⟩ | ⟨c, e, hc'⟩
      · rw [rpieces_step wire l hl n e, List.flatten_cons]
        rw [runCount_step wire l hl n e] at hc
        have h0 : (runCount wire (l.drop n)).2 = 0 := by
          by_cases h6 : (runCount wire (l.drop n)).2 = 0
          · exact h6
          · simp [h6] at hc
        rw [rpieces_flat wire m (l.drop n) (by rw [List.length_drop]; omega) h0, List.take_append_drop]
      · rw [runCount_bad wire l hl c (by omega) (by rw [e])] at hc
        simp at hc; omega
theorem endsF_get : ∀ (ps : List (List UInt8)) (i j : Nat), j < ps.length → (endsF i ps)[j]? = some ((i + (ps.take (j + 1)).flatten.length : Nat) : Int)
  | [], _, j, h => by simp at h
  | x :: r, i, 0, _ => by simp [endsF]
  | x :: r, i, j + 1, h => by
    have h2 := endsF_get r (i + x.length) j (by simpa using h)
    simp only [endsF, List.getElem?_cons_succ]
    rw [h2, List.take_succ_cons, List.flatten_cons, List.length_append, Nat.add_assoc]
theorem endsF_len : ∀ (ps : List (List UInt8)) (i : Nat), (endsF i ps).length = ps.length
  | [], _ => rfl
  | x :: r, i => by simp [endsF, endsF_len r]
theorem part_piece {ps : List (List UInt8)} {j : Nat} {x : List UInt8} (h : ps[j]? = some x) :
    (ps.take (j + 1)).flatten.length = (ps.take j).flatten.length + x.length ∧ (ps.take (j + 1)).flatten.length ≤ ps.flatten.length ∧ part ps.flatten (ps.take j).flatten.length (ps.take (j + 1)).flatten.length = x := by
  have hj := (List.getElem?_eq_some_iff.1 h).1
  have h1 : ps.take (j + 1) = ps.take j ++ [x] := by rw [List.take_add_one, h]; rfl
  have h2 : (ps.take (j + 1)).flatten.length = (ps.take j).flatten.length + x.length := by rw [h1]; simp
  have h3 : ps.flatten = (ps.take j).flatten ++ (x ++ (ps.drop (j + 1)).flatten) := by
    conv => lhs; rw [← List.take_append_drop j ps]
    rw [List.flatten_append, List.drop_eq_getElem_cons hj, List.flatten_cons]
    rw [(List.getElem?_eq_some_iff.1 h).2]
  refine ⟨h2, ?_, ?_⟩
  · rw [h2, h3]; simp
  · unfold part
    rw [h2, h3, List.drop_left, Nat.add_sub_cancel_left, List.take_left]
set_option maxRecDepth 100000 in
set_option maxHeartbeats 4000000 in
theorem ref09_Words {w : World} {v : Value} {l : List UInt8} (h : Bytes w v l) (hsm : l.length ≤ 1099511627776) (k : Int) (hk : knumber k = true) :
    Calls Tryz.prog 26 #[.int .i64 k, v] w (fun e w' => ∃ v', e = .returned (.tuple #[v', .int .i64 ((runWords k l).2 : Nat)]) ∧ WordsOwn w' w.heap.size v' (runWords k l).1 ∧ Below w.heap.size w w') := by
  have HE := hid (ref09_Ends2 h hsm k hk)
  obtain ⟨hlen, a, cap, rfl, -⟩ := h.open
  obtain ⟨x, HX⟩ : ∃ x, Hid (x = (runCount (kwire k) l).2) := ⟨_, rfl⟩
  obtain ⟨ps, HPS⟩ : ∃ ps, Hid (ps = if x = 0 then rpieces (kwire k) l else []) := ⟨_, rfl⟩
  have hFL : ps.flatten = l ∨ ps = [] := by
    rw [HPS.out]
    split
    · exact .inl (rpieces_flat _ _ _ (Nat.le_refl _) (by rw [← HX.out]; assumption))
    · exact .inr rfl
  have hps : ps.length ≤ l.length := by
    rw [HPS.out]
    split
    · exact rpieces_len _ _ _ (Nat.le_refl _)
    · simp
  obtain ⟨r1, HR1⟩ : ∃ r, Hid (r = runWords k l) := ⟨_, rfl⟩
  have hr1 : r1 = (ps.map (fun x => (kread k x).1), x) := by
    rw [HR1.out, HPS.out]
    unfold runWords kwords
    rw [← HX.out]
    by_cases h0 : x = 0
    · rw [if_pos h0, if_pos h0, h0]
    · rw [if_neg h0, if_neg h0]; rfl
  rw [← HR1.out, hr1]
  clear HR1 hr1
  have hE : (if x = 0 then endsF 0 (rpieces (kwire k) l) else []) = endsF 0 ps := by
    rw [HPS.out]; split <;> rfl
  rw [← HX.out, hE] at HE
  clear hE
  obtain ⟨n, HN⟩ : ∃ n, Hid (n = l.length) := ⟨_, rfl⟩
  have H := hid h
  have HK := hid hk
  have HFL := hid hFL
  obtain ⟨m, HM⟩ : ∃ m, Hid (m = ps.length) := ⟨_, rfl⟩
  rw [← HN.out] at hlen hsm H HE hps ⊢
  rw [← HM.out] at hps
  clear hk h hFL
  obtain ⟨Q, HQ⟩ : ∃ Q : Ending → World → Prop, Hid (Q = fun e w' => ∃ v', e = .returned (.tuple #[v', .int .i64 (x : Nat)]) ∧ WordsOwn w' w.heap.size v' (ps.map (fun x => (kread k x).1)) ∧ Below w.heap.size w w') := ⟨_, rfl⟩
  rw [← HQ.out]
  go_enter Tryz.func26, Tryz.ntmps26
  go_wp2_with (go_at_call 44; refine HE.out.mono ?_; rintro e w1 ⟨⟨o, rfl, hown⟩, hb1⟩)
  obtain ⟨oa, oc, ho⟩ := hown.form
  rw [endsF_len, ← HM.out] at ho
  subst ho
  have hEn : ∀ j x, ps[j]? = some x → ∃ b o, oa = some ⟨b, o, none⟩ ∧ w1.cell? ⟨b, o + j, none⟩ = some (.int .i64 ((ps.take (j + 1)).flatten.length : Nat)) := by
    intro j y hj
    have hj' := (List.getElem?_eq_some_iff.1 hj).1
    have hI : IntsAt w1 (.slice oa m oc) (endsF 0 ps) := hown.ints (by rw [endsF_len, ← HM.out]; omega) (by
      intro z hz
      obtain ⟨i, hi, rfl⟩ := List.getElem_of_mem hz
      have hi2 := hi
      rw [endsF_len] at hi2
      have e := endsF_get ps 0 i hi2
      rw [List.getElem?_eq_getElem hi] at e
      injection e with e
      have hle := (part_piece (List.getElem?_eq_getElem hi2)).2.1
      rcases HFL.out with hf | hf
      · rw [hf, ← HN.out] at hle
        rw [e]; constructor <;> omega
      · rw [hf] at hi2; simp at hi2)
    obtain ⟨-, a', cap', he, -, hat⟩ := hI.open
    cases he
    obtain ⟨-, b, o, ha, hc⟩ := hat j _ (endsF_get ps 0 j hj')
    exact ⟨b, o, ha, by rw [hc, Nat.zero_add]⟩
  have HEN := hid hEn
  have HB1 := hid hb1
  clear hEn hown hb1
  go_loopw [8, 9] (fun v8 v9 wr => ∃ i : Nat, v9 = .int .i64 (i : Int) ∧ i ≤ m ∧ Hid (WordsOwn wr w1.heap.size v8 ((ps.take i).map (fun x => (kread k x).1)) ∧ Below w1.heap.size w1 wr)) (fun _ v9 _ => m - (intOf v9).toNat)
  case atStart => exact ⟨0, rfl, by omega, World.ownsRow_nil _ _ _ _, Below.refl _ _⟩
  case round =>
    obtain ⟨i, rfl, hi, HI⟩ := hrel
    obtain ⟨va, vc, hvf⟩ := HI.out.1.form
    have hlen8 : ((ps.take i).map (fun x => (kread k x).1)).length = i := by rw [List.length_map, List.length_take, ← HM.out]; omega
    rw [hlen8] at hvf
    subst hvf
    have HBW : Hid (Below w.heap.size w wr) := HB1.out.trans (HI.out.2.mono HB1.out.size)
    by_cases hlt : i < m
    · obtain ⟨y, hy⟩ : ∃ y, ps[i]? = some y := ⟨_, List.getElem?_eq_getElem (by rw [← HM.out]; omega)⟩
      have hfl : ps.flatten = l := by
        rcases HFL.out with hf | hf
        · exact hf
        · rw [hf] at hy; simp at hy
      obtain ⟨hp1, hp2, hp3⟩ := part_piece hy
      rw [hfl, ← HN.out] at hp2
      rw [hfl] at hp3
      obtain ⟨b, o, ha, c1⟩ := HEN.out i y hy
      have g1 := below_keeps HI.out.2 _ _ c1
      have hix := index_run1 Tryz.underlying45 size_int ha i hlt (cap := oc)
      obtain ⟨fr, HFR⟩ : ∃ fr, Hid (fr = (ps.take i).flatten.length) := ⟨_, rfl⟩
      obtain ⟨en, HEE⟩ : ∃ en, Hid (en = (ps.take (i + 1)).flatten.length) := ⟨_, rfl⟩
      rw [← HFR.out, ← HEE.out] at hp1 hp3
      rw [← HEE.out] at hp2 g1
      have hV : Bytes wr (.slice a n cap) l := H.out.keep (below_keeps HBW.out)
      have hcap : n ≤ cap := by obtain ⟨_, _, a', c', e', h3, _⟩ := hV; cases e'; exact h3
      have hsl := slice_lh_run under_bytes size_u8 a n cap fr en (by omega) (by omega)
      have hxb := hV.sub HN.out fr en (by omega) hp2
      rw [hp3] at hxb
      have HXB := hid hxb
      obtain ⟨zw, HZW⟩ : ∃ zw, Hid (zw = kread k y) := ⟨_, rfl⟩
      obtain ⟨z1, z2⟩ := zw
      obtain ⟨v2, W2, hr2, hO2, hg2⟩ := HI.out.1.one z1 (by rw [hlen8]; omega) HI.out.2.size
      have HR2 := hid hr2
      have HO2 := hid hO2
      have HG2 := hid hg2
      have HY := hid hy
      obtain ⟨sv, HSV⟩ : ∃ sv, Hid (sliced a fr en cap 1 = sv) := ⟨_, rfl⟩
      rw [HSV.out] at hsl HXB
      have hfin : Hid (WordsOwn W2 w1.heap.size v2 ((ps.take (i + 1)).map (fun x => (kread k x).1)) ∧ Below w1.heap.size w1 W2) := by
        refine ⟨?_, ?_⟩
        · rw [List.take_add_one, HY.out, List.map_append]
          have := HO2.out
          have hz : (kread k y).1 = z1 := by rw [← HZW.out]
          simpa [hz] using this
        · exact HI.out.2.grown HG2.out HI.out.2.size (fun q e => by
            rcases World.ownsRow.lt HI.out.1 q e with ⟨h5, h6⟩
            exact h5)
      clear c1 ha hp1 hp3 hV hxb hr2 hO2 hg2 hy hfl
      by_cases hi0 : i = 0
      · have hfr : fr = 0 := by rw [HFR.out, hi0]; rfl
        subst hfr
        simp only [Int.natCast_zero] at hsl
        have hng : ¬ ((i : Int) > 0) := by omega
        clear hi0
        go_wp2_with (first | (go_at_call 28; refine (ref08_Read HK.out HXB.out).mono ?_; rintro e w' ⟨rfl, rfl⟩; rw [← HZW.out]) | (at_builtin; refine wpList_append_eq rfl _ _ _ rfl _ _ rfl rfl HR2.out ?_))
        go_roundw
        case rel => exact ⟨i + 1, by go_num, hlt, hfin⟩
        case measure => simp [intOf]; omega
      · obtain ⟨j, HJ⟩ : ∃ j, Hid (i = j + 1) := ⟨i - 1, by rw [Hid]; omega⟩
        obtain ⟨x', hx'⟩ : ∃ y, ps[j]? = some y := ⟨_, List.getElem?_eq_getElem (by have := HJ.out; rw [← HM.out]; omega)⟩
        obtain ⟨b', o', ha', c1'⟩ := HEN.out j x' hx'
        rw [← HJ.out, ← HFR.out] at c1'
        have g2 := below_keeps HI.out.2 _ _ c1'
        have hix2 := index_run1 Tryz.underlying45 size_int ha' j (show j < m by have := HJ.out; omega) (cap := oc)
        have hij : (i : Int) - 1 = j := by have := HJ.out; omega
        have hgt : ((i : Int) > 0) := by omega
        have hji : j < i := by have := HJ.out; omega
        clear hi0 ha' c1' hx'
        go_wp2_with (first | (go_at_call 28; refine (ref08_Read HK.out HXB.out).mono ?_; rintro e w' ⟨rfl, rfl⟩; rw [← HZW.out]) | (at_builtin; refine wpList_append_eq rfl _ _ _ rfl _ _ rfl rfl HR2.out ?_))
        go_roundw
        case rel => exact ⟨i + 1, by go_num, hlt, hfin⟩
        case measure => simp [intOf]; omega
    · obtain rfl : i = m := by omega
      have hfin : Hid (WordsOwn wr w.heap.size (.slice va i vc) (ps.map (fun x => (kread k x).1)) ∧ Below w.heap.size w wr) := by
        have h1 := HI.out.1
        rw [List.take_of_length_le (by rw [← HM.out]; exact Nat.le_refl _)] at h1
        exact ⟨h1.mono HB1.out.size, HBW.out⟩
      go_wp2_with fail
      rw [HQ.out]
      exact ⟨_, rfl, hfin.out⟩
end Go.Proofs.YtbcpeckmnmhfhaaGreat
