/- darninglaw28.StatsWhole returns true. No condition. -/
import Derived.Test.YtphkmpnahnakaaaZ14
import Derived.Test.YtphkmpnahnakaaaZ25
import Derived.Test.YtphkmpnahnakaaaZ28
import Derived.BigQuiet
import Derived.Sort.Walk0
namespace Go.Proofs.Ytphkmpnahnakaaa
open Go.RowKit Go.Shelf Go.Sort
theorem mem_getElem_succ {α : Type} {l : List α} {R : α → α → Prop} (h : l.Pairwise R) : ∀ {i : Nat} {a b : α}, l[i]? = some a → l[i + 1]? = some b → R a b := by
  induction h with
  | nil => intro i a b h; simp at h
  | cons hx _ ih =>
    intro i a b ha hb
    cases i with
    | zero =>
      simp at ha hb
      subst ha
      exact hx _ (List.mem_of_getElem? hb)
    | succ i => exact ih (by simpa using ha) (by simpa using hb)
theorem keys_rise {ss : List (List UInt8)} (hd : ((ss.mergeSort fun x y : List UInt8 => decide (x ≤ y)).map mkB).Nodup) :
    ((ss.mergeSort fun x y : List UInt8 => decide (x ≤ y)).map mkB).Pairwise fun a b => Op.bytesLess a.toList b.toList = true := by
  have h1 : (ss.mergeSort fun x y : List UInt8 => decide (x ≤ y)).Pairwise fun x y => decide (x ≤ y) = true :=
    List.pairwise_mergeSort (fun a b c h1 h2 => by simp only [decide_eq_true_eq] at *; exact List.le_trans h1 h2) (fun a b => by simp only [Bool.or_eq_true, decide_eq_true_eq]; exact List.le_total a b) ss
  rw [List.pairwise_map]
  have hd' : (ss.mergeSort fun x y : List UInt8 => decide (x ≤ y)).Pairwise fun x y => mkB x ≠ mkB y := List.pairwise_map.1 hd
  refine (h1.and hd').imp fun {a b} h => ?_
  obtain ⟨h2, h3⟩ := h
  have h2 : a ≤ b := of_decide_eq_true h2
  have e1 : ∀ x : List UInt8, (mkB x).toList = x := fun x => by rw [ByteArray.toList_eq]; rfl
  rw [e1, e1, bytesLess_eq]
  refine decide_eq_true ?_
  by_cases hlt : a < b
  · exact hlt
  · have h4 : b ≤ a := List.not_lt.1 hlt
    exact absurd (congrArg mkB (List.le_antisymm h2 h4)) h3
theorem empty_less {p : ByteArray} (h : 1 ≤ p.size) : Op.bytesLess emptyS.toList p.toList = true := by
  rw [bytesLess_eq, ByteArray.toList_eq, ByteArray.toList_eq]
  refine decide_eq_true ?_
  have : p.data.toList ≠ [] := fun e => by
    have : p.data.toList.length = p.size := by rw [Array.length_toList]; rfl
    rw [e] at this
    simp at this
    omega
  match hp : p.data.toList, this with
  | x :: xs, _ => exact List.nil_lt_cons x xs
/-- what is known of the rows -/
theorem rows_facts {s : List Mes} (hs : sright s = true) {d q : Nat} {l : List UInt8} (hm : q < s.length) (hv : (vmsg s d q l).2 = 0) {ss : List (List UInt8)}
    (hk : KeysOf (evsub s (d + 1) (q : Int) l emptyS) ((ss.mergeSort fun x y : List UInt8 => decide (x ≤ y)).map mkB)) {L : List SR} (hL : L = rowsS (evsub s (d + 1) (q : Int) l emptyS) ((ss.mergeSort fun x y : List UInt8 => decide (x ≤ y)).map mkB) l.length) :
    (∀ i x y, L[i]? = some x → L[i + 1]? = some y → Op.bytesLess x.path.toList y.path.toList = true ∧ y.vals ≤ y.bytes ∧ 1 ≤ y.recs) ∧ (totR L).bytes = l.length ∧ (totR L).recs ≤ (evsub s (d + 1) (q : Int) l emptyS).length ∧ (totR L).vals ≤ l.length ∧ ((L.drop 1).map SR.recs).sum = (evsub s (d + 1) (q : Int) l emptyS).length := by
  have hpath := evsub_path hs d q l emptyS hm hv
  have hrise := keys_rise hk.nd
  have hvals := evsub_vals s (d + 1) (q : Int) l emptyS
  have htot := total_bytes hs hm hv hk
  obtain ⟨T, hT⟩ : ∃ T, T = evsub s (d + 1) (q : Int) l emptyS := ⟨_, rfl⟩
  obtain ⟨K, hK⟩ : ∃ K, K = (ss.mergeSort fun x y : List UInt8 => decide (x ≤ y)).map mkB := ⟨_, rfl⟩
  rw [← hT] at hpath hvals htot hk hL ⊢
  rw [← hK] at hrise htot hk hL
  subst hL
  have hkp : ∀ p ∈ K, 1 ≤ p.size := fun p hp => by
    obtain ⟨e, he, h2⟩ := (hk.mem p).1 hp
    rw [← h2]; exact hpath e he
  have hfil : (rowsS T K l.length).filter topR = (K.filter fun p => !dotB p).map (rowS T) := by
    unfold rowsS
    rw [List.filter_cons_of_neg (by unfold topR; simp), List.filter_map]
    congr 1
    refine List.filter_congr fun p hp => ?_
    have hne : p ≠ emptyS := fun e => by have := hkp p hp; rw [e] at this; exact absurd this (by decide)
    show (decide (p ≠ emptyS) && !dotB p) = !dotB p
    rw [decide_eq_true hne, Bool.true_and]
  refine ⟨fun i x y hx hy => ?_, ?_, ?_, ?_, ?_⟩
  · unfold rowsS at hx hy
    rw [List.getElem?_cons_succ, List.getElem?_map] at hy
    cases hky : K[i]? with
    | none => rw [hky] at hy; cases hy
    | some p =>
      rw [hky] at hy
      cases hy
      have hpm := List.mem_of_getElem? hky
      refine ⟨?_, val_le hvals p, cnt_pos hk hpm⟩
      cases i with
      | zero =>
        simp at hx
        subst hx
        exact empty_less (hkp p hpm)
      | succ i =>
        rw [List.getElem?_cons_succ, List.getElem?_map] at hx
        cases hkx : K[i]? with
        | none => rw [hkx] at hx; cases hx
        | some p' =>
          rw [hkx] at hx
          cases hx
          exact mem_getElem_succ hrise hkx hky
  · show (((rowsS T K l.length).filter topR).map SR.bytes).sum = _
    rw [hfil, List.map_map]
    exact htot
  · show (((rowsS T K l.length).filter topR).map SR.recs).sum ≤ _
    rw [hfil, List.map_map]
    have h1 := cnt_all hk
    rw [← h1]
    show ((K.filter fun p => !dotB p).map (cntE T)).sum ≤ (K.map (cntE T)).sum
    generalize K = K'
    induction K' with
    | nil => exact Nat.le_refl _
    | cons a r ih =>
      rw [List.map_cons, List.sum_cons]
      by_cases ha : (!dotB a) = true
      · rw [List.filter_cons_of_pos (p := fun p => !dotB p) ha, List.map_cons, List.sum_cons]; omega
      · rw [List.filter_cons_of_neg (p := fun p => !dotB p) ha]; omega
  · show (((rowsS T K l.length).filter topR).map SR.vals).sum ≤ _
    rw [hfil, List.map_map]
    rw [← htot]
    show ((K.filter fun p => !dotB p).map (valE T)).sum ≤ ((K.filter fun p => !dotB p).map (bytE T)).sum
    generalize (K.filter fun p => !dotB p) = K'
    induction K' with
    | nil => exact Nat.le_refl _
    | cons a r ih =>
      have := val_le hvals a
      rw [List.map_cons, List.map_cons, List.sum_cons, List.sum_cons]
      omega
  · unfold rowsS
    rw [List.drop_one, List.tail_cons, List.map_map]
    exact cnt_all hk
set_option maxRecDepth 100000 in
set_option maxHeartbeats 16000000 in
theorem law28_StatsWhole {w : World} {vs bv : Value} {s : List Mes} {y : List UInt8} (hS : SchemaAt w vs s) (hb : Bytes w bv y) (root d : Int) :
    Calls Try.prog 4 #[vs, .int .i64 root, bv, .int .i64 d] w fun e w' => e = .returned (.bool true) ∧ Below w.heap.size w w' := by
  have HS := hid hS
  have HB := hid hb
  obtain ⟨-, sa, sc, rfl, -⟩ := hS.open
  obtain ⟨hyl, a2, c2, rfl, -⟩ := hb.open
  obtain ⟨sn, HSN⟩ : ∃ n, Hid (n = s.length) := ⟨_, rfl⟩
  obtain ⟨ny, HNY⟩ : ∃ n, Hid (n = y.length) := ⟨_, rfl⟩
  rw [← HSN.out] at HS ⊢
  rw [← HNY.out] at HB hyl ⊢
  obtain ⟨R, HR⟩ : ∃ R : Ending → World → Prop, Hid (R = fun e w' => e = .returned (.bool true) ∧ Below w.heap.size w w') := ⟨_, rfl⟩
  rw [← HR.out]
  have HTRUE : Hid (∀ w', Below w.heap.size w w' → R (.returned (.bool true)) w') := fun w' hb => by rw [HR.out]; exact ⟨rfl, hb⟩
  obtain ⟨z, HZ⟩ : ∃ z, Hid (z = (vcheck s root y d).2) := ⟨_, rfl⟩
  clear hS hb HR
  go_enter Try.func4, Try.ntmps4
  go_wp2_with fail
  refine (law28_alive _).mono ?_
  rintro e w1 ⟨rfl, hb1⟩
  have HB1 := hid hb1
  clear hb1
  go_wp2_with fail
  refine (law07_Few (HS.out.keep (below_keeps HB1.out))).mono ?_
  rintro e w2 ⟨⟨fw, rfl⟩, hb2⟩
  have HB2 := hid (HB1.out.trans (hb2.mono HB1.out.size))
  clear hb2
  cases fw with
  | false =>
    go_wp2_with fail
    exact HTRUE.out _ HB2.out
  | true =>
    by_cases hlong : (1000 : Int) < ny
    · go_wp2_with fail
      exact HTRUE.out _ HB2.out
    · have hlen : y.length ≤ 1000 := by have := HNY.out; omega
      have HLEN := hid hlen
      have HO1 := hid (stats_Of (HS.out.below HB2.out) (HB.out.below HB2.out) (by omega) root d)
      unfold OfPost at HO1
      rw [← HZ.out] at HO1
      have HZB : Hid (z < 256) := by rw [Hid, HZ.out]; exact vcheck_code s root y d
      clear hlen
      go_wp2_with fail
      refine HO1.out.mono ?_
      rintro e w3 ⟨hb3, h30, h31⟩
      have HB3 := hid (HB2.out.trans (hb3.mono HB2.out.size))
      have hzb := HZB.out
      by_cases hz : z = 0
      · subst hz
        obtain ⟨v1, ss, base1, rfl, hK, -, hR1⟩ := h31 rfl
        obtain ⟨g1, ⟨g2, g3⟩, ⟨g4, g5⟩, g6⟩ := vcheck_ok HZ.out.symm
        obtain ⟨q, rfl⟩ : ∃ q : Nat, root = q := ⟨root.toNat, by omega⟩
        rw [Int.toNat_natCast] at g6
        have hql : q < s.length := by omega
        have htl := (evsub_len s (d.toNat + 1) (q : Int) y emptyS).1
        obtain ⟨L, HL⟩ : ∃ L, Hid (L = rowsS (evsub s (d.toNat + 1) (q : Int) y emptyS) ((ss.mergeSort fun x y : List UInt8 => decide (x ≤ y)).map mkB) y.length) := ⟨_, rfl⟩
        have hF := rows_facts g1 hql g6 hK HL.out
        have hkl : ((ss.mergeSort fun x y : List UInt8 => decide (x ≤ y)).map mkB).length ≤ (evsub s (d.toNat + 1) (q : Int) y emptyS).length := by
          have := nodup_le (b := (evsub s (d.toNat + 1) (q : Int) y emptyS).map SE.path) hK.nd fun p hp => by
            obtain ⟨e, he, h2⟩ := (hK.mem p).1 hp
            exact List.mem_map.2 ⟨e, he, h2⟩
          simpa only [List.length_map] using this
        rw [← HL.out] at hR1
        obtain ⟨T1, HT1⟩ : ∃ n, Hid (n = (evsub s (d.toNat + 1) (q : Int) y emptyS).length) := ⟨_, rfl⟩
        have hL0 : L[0]? = some (⟨emptyS, T1, ny, ny⟩ : SR) := by rw [HL.out, HT1.out, HNY.out]; rfl
        have HL00 := hid hL0
        have hLL : 1 ≤ L.length ∧ L.length ≤ 1001 := by rw [HL.out]; unfold rowsS; rw [List.length_cons, List.length_map]; have := HLEN.out; omega
        rw [← HT1.out, ← HNY.out] at hF
        rw [← HT1.out] at htl
        have ht1 : T1 ≤ 1000 := by have := HLEN.out; omega
        have hSL := rowsOwn_seg hR1 (by omega) (Below.refl _ _)
        have HTOT := hid (stats_Total hSL (by omega) (by have := HLEN.out; have := HNY.out; omega))
        have HDEP := hid (fun (W : World) (hW : Below w.heap.size w W) => stats_Depths (HS.out.below hW) (HB.out.below hW) (by have := HLEN.out; omega) (q : Int) d)
        unfold DepPost at HDEP
        rw [← HZ.out] at HDEP
        obtain ⟨la, lc, rfl, hat⟩ := hSL.open
        obtain ⟨lb, lo, rfl, c0, c1, c2, c3⟩ := hat 0 _ hL0
        obtain ⟨nl, HNL⟩ : ∃ n, Hid (n = L.length) := ⟨_, rfl⟩
        rw [← HNL.out] at HTOT hLL hSL ⊢
        obtain ⟨A1, HA1⟩ : ∃ n, Hid (n = (totR L).recs) := ⟨_, rfl⟩
        obtain ⟨A3, HA3⟩ : ∃ n, Hid (n = (totR L).vals) := ⟨_, rfl⟩
        rw [hF.2.1, ← HA1.out, ← HA3.out] at HTOT
        have HF := hid hF
        have HSL := hid hSL
        have HDF := hid (dmsg_first s d.toNat (q : Int) y)
        have HDD : Hid (0 ≤ d ∧ d ≤ 64 ∧ d.toNat ≤ 64) := ⟨g4, g5, by omega⟩
        have hnz : ((nl : Int) == 0) = false := by simp; omega
        have hny : ((ny : Int) != ny) = false := by simp
        have he0 : (⟨#[]⟩ : ByteArray).toList.isEmpty = true := by rw [ByteArray.toList_eq]; rfl
        have hnl0 : 0 < nl := hLL.1
        have hix := index_run Try.underlying27 size_srow (rfl : some (⟨lb, lo, none⟩ : Addr) = some ⟨lb, lo, none⟩) 0 hnl0 (cap := lc)
        simp only [Nat.zero_mul, Nat.add_zero] at c0 c1 c2 c3
        unfold emptyS at c0
        have hbl := World.block_lt_of_cell? w3 _ c0
        have hdd := HDD.out
        clear hb3 h30 h31 hK hR1 hF hat hL0 hkl htl g1 g2 g3 g4 g5 g6 hql hSL hnl0 HO1
        go_wp2_with fail
        refine HTOT.out.mono ?_
        rintro e w4 ⟨rfl, hb4⟩
        have HB34 := hid hb4
        have HB4 := hid (HB3.out.trans (hb4.mono HB3.out.size))
        clear hb4 HTOT c0 c1 c2 c3 hix hbl
        have hfld : ∀ W : World, (Instr.field 32 (.agg #[.string ⟨#[]⟩, .int .i64 (A1 : Int), .int .i64 (ny : Int), .int .i64 (A3 : Int)]) 2).run Try.prog W = .ok (.int .i64 (ny : Int)) W := fun W => by kernel_rfl
        go_wp2_with fail
        clear hfld hny hnz he0
        have HJ0 : Hid (1 = 0 + 1 ∧ 0 = (((L.drop 1).take 0).map SR.recs).sum ∧ RowKit.Below w4.heap.size w4 w4) := ⟨rfl, rfl, RowKit.Below.refl _ _⟩
        go_loopw [11, 12] (fun v11 v12 wr => ∃ i j acc : Nat, v12 = .int .i64 (i : Int) ∧ v11 = .int .i64 (acc : Int) ∧ i ≤ nl ∧ Hid (i = j + 1 ∧ acc = (((L.drop 1).take j).map SR.recs).sum ∧ RowKit.Below w4.heap.size w4 wr)) (fun _ v12 _ => nl - (intOf v12).toNat)
        case atStart => exact ⟨1, 0, 0, rfl, rfl, hLL.1, HJ0.out⟩
        case round =>
          obtain ⟨i, j, acc, rfl, rfl, hi, HJ⟩ := hrel
          have HSW := hid ((HSL.out.below HB34.out).below HJ.out.2.2)
          have HBW := hid (HB4.out.trans (HJ.out.2.2.mono HB4.out.size))
          obtain ⟨a', cap', he, hat⟩ := HSW.out.open
          obtain ⟨hae, -, hce⟩ := Value.slice.inj he
          subst hae
          subst hce
          by_cases hlt : i < nl
          · have hji := HJ.out.1
            obtain ⟨x, hx⟩ : ∃ r, L[j]? = some r := ⟨_, List.getElem?_eq_getElem (by rw [← HNL.out]; omega)⟩
            obtain ⟨y', hy⟩ : ∃ r, L[j + 1]? = some r := ⟨_, List.getElem?_eq_getElem (by rw [← HNL.out]; omega)⟩
            obtain ⟨f1, f2, f3⟩ := HF.out.1 j x y' hx hy
            obtain ⟨lb', lo', hl1, k0, -, -, -⟩ := hat j x hx
            cases hl1
            obtain ⟨lb', lo', hl1, c0, c1, c2, c3⟩ := hat (j + 1) y' hy
            cases hl1
            have hacc : acc + y'.recs = (((L.drop 1).take (j + 1)).map SR.recs).sum := by
              have h1 : (L.drop 1)[j]? = some y' := by rw [List.getElem?_drop, Nat.add_comm]; exact hy
              rw [List.take_add_one, h1, Option.toList_some, List.map_append, List.sum_append, ← HJ.out.2.1]
              simp
            have hbd : acc + y'.recs ≤ 1000 := by
              have h2 := HF.out.2.2.2.2
              rw [← List.take_append_drop (j + 1) (L.drop 1), List.map_append, List.sum_append, ← hacc] at h2
              omega
            obtain ⟨p2, r1, r2, r3⟩ := y'
            obtain ⟨p1, p2', p3', p4'⟩ := x
            simp only at k0 c0 c1 c2 c3 f1 f2 f3 hacc hbd
            have hjl : j < nl := by omega
            rw [← hji] at c0 c1 c2 c3
            have hixi := index_run Try.underlying27 size_srow (rfl : some (⟨lb, lo, none⟩ : Addr) = some ⟨lb, lo, none⟩) i hlt (cap := lc)
            have hixj := index_run Try.underlying27 size_srow (rfl : some (⟨lb, lo, none⟩ : Addr) = some ⟨lb, lo, none⟩) j hjl (cap := lc)
            have hbl := World.block_lt_of_cell? wr _ c0
            have hij : IntKind.i64.wrap ((i : Int) - 1) = (j : Int) := by rw [IntWalk.i64_in _ (by omega)]; omega
            have hv1 : decide (r2 < r3) = false := by simpa using f2
            have hv2 : decide ((r1 : Int) < 1) = false := by simp; omega
            have hv3 : decide (r1 < 1) = false := by simp; omega
            have HNEW : Hid (i + 1 = j + 1 + 1 ∧ acc + r1 = (((L.drop 1).take (j + 1)).map SR.recs).sum) := ⟨by omega, hacc⟩
            clear hx hy he hat hacc hji f2 f3 hjl
            go_upto_region 14 with fail
            go_quiet (fail)
            obtain ⟨WQ, HWQ⟩ : ∃ W, Hid (W = wr.drewN nq) := ⟨_, rfl⟩
            rw [← HWQ.out]
            have hbQ : RowKit.Below wr.heap.size wr WQ := by rw [HWQ.out]; exact below_drewN (RowKit.Below.refl _ _) _
            replace c1 := below_keeps hbQ _ _ c1
            have hbl := Nat.lt_of_lt_of_le hbl hbQ.size
            have HBQ := hid (HJ.out.2.2.trans (hbQ.mono HJ.out.2.2.size))
            clear hbQ c0 c2 c3 hixj hij hv1 hv2
            go_wp2_with fail
            clear c1 hixi hbl
            go_roundw
            case rel => exact ⟨i + 1, j + 1, acc + r1, by go_num, by go_num, hlt, hid ⟨HNEW.out.1, HNEW.out.2, HBQ.out⟩⟩
            case measure => simp [intOf]; omega
          · obtain rfl : i = nl := by omega
            have hji := HJ.out.1
            have hacc : acc = T1 := by
              have h2 := HF.out.2.2.2.2
              rw [HJ.out.2.1, ← h2, List.take_of_length_le]
              rw [List.length_drop, ← HNL.out]
              omega
            subst hacc
            have hL0 : ∃ x, L[0]? = some x := ⟨_, List.getElem?_eq_getElem (by rw [← HNL.out]; omega)⟩
            clear he hat hji
            go_wp2_with fail
            refine (HDEP.out wr HBW.out).mono ?_
            rintro e w5 ⟨hb5, -, h51⟩
            obtain ⟨v5, base5, rfl, hI5⟩ := h51 (by first | rfl | trivial)
            obtain ⟨DM, HDM⟩ : ∃ D, Hid (D = dmsg s (d.toNat + 1) (q : Int) y 0 []) := ⟨_, rfl⟩
            rw [← HDM.out] at hI5
            have hdf := HDF.out
            rw [← HDM.out] at hdf
            obtain ⟨hd0, hdl⟩ := hdf
            obtain ⟨hp0, hp1, hp2⟩ := HDD.out
            obtain ⟨da, dc, rfl⟩ := hI5.form
            obtain ⟨-, -, a', cap', he, -, -, -, hc⟩ := row_seg hI5 (by omega)
            obtain ⟨hda, -, -⟩ := Value.slice.inj he
            subst hda
            obtain ⟨db, dof, rfl, cd⟩ := hc 0 _ (by rw [List.getElem?_map, hd0]; rfl)
            obtain ⟨dn, HDN⟩ : ∃ n, Hid (n = DM.length) := ⟨_, rfl⟩
            have hdn1 : 1 ≤ dn := by rw [HDN.out]; exact (List.getElem?_eq_some_iff.1 hd0).1
            have hdn2 : (dn : Int) ≤ d + 1 := by rw [HDN.out]; omega
            rw [← HDN.out]
            obtain ⟨x0, hx0⟩ := hL0
            have hx0' : x0 = (⟨emptyS, acc, ny, ny⟩ : SR) := by
              have h := hx0
              rw [HL00.out] at h
              injection h with h
              exact h.symm
            subst hx0'
            obtain ⟨a'', cap'', he2, hat2⟩ := (HSW.out.below hb5).open
            obtain ⟨hae2, -, -⟩ := Value.slice.inj he2
            subst hae2
            obtain ⟨lb', lo', hl1, -, c1, -, -⟩ := hat2 0 _ hx0
            cases hl1
            simp only [Nat.zero_mul, Nat.add_zero] at c1
            have hix := index_run Try.underlying27 size_srow (rfl : some (⟨lb, lo, none⟩ : Addr) = some ⟨lb, lo, none⟩) 0 (show 0 < i by omega) (cap := lc)
            have hixd := index_run1 Try.underlying35 size_int (rfl : some (⟨db, dof, none⟩ : Addr) = some ⟨db, dof, none⟩) 0 (show 0 < dn by omega) (cap := dc)
            simp only [Nat.zero_mul, Nat.add_zero] at hix hixd cd
            replace cd : w5.cell? ⟨db, dof, none⟩ = some (.int .i64 1) := cd
            have hbl := World.block_lt_of_cell? w5 _ c1
            have hbl2 := World.block_lt_of_cell? w5 _ cd
            have HB5 := hid (HBW.out.trans (hb5.mono HBW.out.size))
            have hdn0 : 0 < dn := hdn1
            clear h51 hb5 hI5 hd0 hdl hc he he2 hat2 hx0 HJ HSW HBW
            go_wp2_with fail
            exact HTRUE.out _ HB5.out
      · have he := h30 hz
        subst he
        have e1 : ((z : Int) != 0) = true := by simpa using hz
        clear h30 h31
        go_wp2_with fail
        exact HTRUE.out _ HB3.out
end Go.Proofs.Ytphkmpnahnakaaa
