/- Parts of a proof: texts of the author, merged. No condition of their own. -/
import Derived.Test.YtbdeclkccchnoaaGreatZ03
namespace Go.Proofs.YtbdeclkccchnoaaGreat
open Go.RowKit
theorem size_mes (w : World) : (sizeOf 47).run Tryz.prog w = .ok 2 w := by kernel_rfl
theorem size_fld (w : World) : (sizeOf 44).run Tryz.prog w = .ok 6 w := by kernel_rfl
def placeV (x : Int × Int × Nat) : Value := .agg #[.int .i64 x.1, .int .i64 x.2.1, .int .i64 x.2.2]
def codeOf (x : Int × Int × Nat) : Int := if x.2.2 = 0 then 0 else 9
def Box3 (w : World) (B : Nat) : Prop := w.heap[B]? = some (.cells #[.int .i64 0, .int .i64 0, .int .i64 0] 69 (0, 0))
theorem Box3.cells {w : World} {B : Nat} (h : Box3 w B) : w.cell? ⟨B, 0, none⟩ = some (.int .i64 0) ∧ w.cell? ⟨B, 1, none⟩ = some (.int .i64 0) ∧ w.cell? ⟨B, 2, none⟩ = some (.int .i64 0) ∧
    w.frozen? ⟨B, 0, none⟩ = false ∧ w.frozen? ⟨B, 1, none⟩ = false ∧ w.frozen? ⟨B, 2, none⟩ = false ∧ B < w.heap.size := by
  unfold Box3 at h
  refine ⟨by simp [World.cell?, h], by simp [World.cell?, h], by simp [World.cell?, h], by simp [World.frozen?, h], by simp [World.frozen?, h], by simp [World.frozen?, h], ?_⟩
  rw [Array.getElem?_eq_some_iff] at h
  exact h.1
structure CheckInv (w : World) (B : Nat) (en : List (ByteArray × Value)) (es : List (Met × Value)) (wr : World) : Prop where
  names : MapIs wr (B + 1) strK en
  seen : MapIs wr (B + 1 + 1) metK es
  box : Box3 wr B
  below : Below B w wr
theorem three_new (w : World) (o1 o2 o3 : Obj) : (((w.alloc o1).alloc o2).alloc o3).heap[w.heap.size]? = some o1 ∧ (((w.alloc o1).alloc o2).alloc o3).heap[w.heap.size + 1]? = some o2 ∧ (((w.alloc o1).alloc o2).alloc o3).heap[w.heap.size + 1 + 1]? = some o3 := by
  have e1 : (w.alloc o1).heap.size = w.heap.size + 1 := by simp
  have e2 : ((w.alloc o1).alloc o2).heap.size = w.heap.size + 1 + 1 := by simp
  refine ⟨?_, ?_, ?_⟩
  · rw [Below.heap_alloc _ _ _ (by omega), Below.heap_alloc _ _ _ (by omega)]; exact heap_alloc_new w o1
  · rw [Below.heap_alloc _ _ _ (by omega), ← e1]; exact heap_alloc_new _ o2
  · rw [← e2]; exact heap_alloc_new _ o3
theorem CheckInv.alloc {w : World} {B : Nat} {en : List (ByteArray × Value)} {es : List (Met × Value)} {wr : World} (h : CheckInv w B en es wr) (o : Obj) : CheckInv w B en es (wr.alloc o) := by
  have h1 := h.names.lt
  have h2 := h.seen.lt
  refine ⟨?_, ?_, ?_, h.below.alloc (by omega) o⟩
  · unfold MapIs; rw [Below.heap_alloc wr o _ h1]; exact h.names
  · unfold MapIs; rw [Below.heap_alloc wr o _ h2]; exact h.seen
  · unfold Box3; rw [Below.heap_alloc wr o _ (by omega)]; exact h.box
set_option maxRecDepth 100000 in
set_option maxHeartbeats 20000000 in
theorem schema_Check {w : World} {v : Value} {s : List Mes} (h : SchemaAt w v s) :
    Calls Tryz.prog 26 #[v] w fun e w' => e = .returned (.tuple #[placeV (scheck s), .int .u8 (codeOf (scheck s))]) ∧ Below w.heap.size w w' := by
  obtain ⟨hlen, a, cap, rfl, hat⟩ := h.open
  have HAT := hid hat
  clear hat
  obtain ⟨n, HN⟩ : ∃ n, Hid (n = s.length) := ⟨_, rfl⟩
  rw [← HN.out] at hlen h ⊢
  obtain ⟨x, HX⟩ : ∃ x, Hid (x = scheck s) := ⟨_, rfl⟩
  rw [← HX.out]
  obtain ⟨B, HB⟩ : ∃ B, Hid (B = w.heap.size) := ⟨_, rfl⟩
  have hwB : w.heap.size ≤ B := by rw [HB.out]; exact Nat.le_refl _
  by_cases hbig : n < 1 ∨ 100 < n
  · obtain rfl : x = (-1, -1, 1) := by
      rw [HX.out, scheck, if_pos (by rw [← HN.out]; omega)]
    rcases hbig with hb | hb
    all_goals
      go_enter Tryz.func26, Tryz.ntmps26
      go_wp2
      refine bodyPost_ret (v := .tuple #[placeV (-1, -1, 1), .int .u8 9]) ?_ rfl ⟨rfl, ?_⟩
      · simp [results, Tryz.results26, go_sem, placeV]
      · (repeat (first | with_reducible exact Below.refl _ _ | with_reducible refine Below.setCell ?_ (by first | omega | (simp; omega) | (simp; done)) _ | with_reducible refine Below.alloc ?_ (by first | omega | (simp; omega) | (simp; done)) _ | with_reducible refine below_drewN ?_ _ | with_reducible refine Below.drew ?_))
  · have hn1 : 1 ≤ n := by omega
    have hn2 : n ≤ 100 := by omega
    clear hbig
    have HGO : Hid (scheckGo n [] s 0 = x) := by rw [Hid, HX.out, scheck, if_neg (by rw [← HN.out]; omega), HN.out]
    have hmm := @run_makeMap Tryz.prog
    go_enter Tryz.func26, Tryz.ntmps26
    go_wp2
    rw [← HB.out]
    go_loopw [25] (fun v25 wr => ∃ k : Nat, k ≤ n ∧ v25 = .int .i64 k ∧ Hid (scheckGo n (s.take k) (s.drop k) k = x) ∧ Hid (∃ en es, CheckInv w B en es wr ∧ NamesInv (s.take k) en ∧ SeenInv k [] es)) (fun v25 _ => n - (intOf v25).toNat)
    case atStart =>
      refine ⟨0, by omega, rfl, HGO.out, [], [], ⟨?_, ?_, ?_, ?_⟩, fun t => rfl, SeenInv.start _⟩
      · unfold MapIs; rw [HB.out]; exact (three_new w _ _ _).2.1
      · unfold MapIs; rw [HB.out]; exact (three_new w _ _ _).2.2
      · unfold Box3; rw [HB.out]; exact (three_new w _ _ _).1
      · rw [HB.out]; (repeat (first | with_reducible exact Below.refl _ _ | with_reducible refine Below.setCell ?_ (by first | omega | (simp; omega) | (simp; done)) _ | with_reducible refine Below.alloc ?_ (by first | omega | (simp; omega) | (simp; done)) _ | with_reducible refine below_drewN ?_ _ | with_reducible refine Below.drew ?_))
    case round =>
      obtain ⟨k, hk, rfl, HK, HI⟩ := hrel
      by_cases hlt : k < n
      · obtain ⟨en, es, HCI, HNI, HSI⟩ : ∃ en es, Hid (CheckInv w B en es wr) ∧ Hid (NamesInv (s.take k) en) ∧ Hid (SeenInv k [] es) := HI.out
        have hgo := scheckGo_at n s k (by rw [← HN.out]; exact hlt)
        rw [HK.out] at hgo
        have HGA := hid hgo
        clear hgo
        have hat := HAT.out
        obtain ⟨b, o, fv, ha, hnsz, hw0, hw1, hfs⟩ := hat k (by rw [← HN.out]; exact hlt)
        clear hat
        have hkw : ∀ p u, w.cell? p = some u → wr.cell? p = some u := fun p u hu => (Below.cell (p := p) HCI.out.below (by rw [HB.out]; exact World.block_lt_of_cell? w p hu)).trans hu
        have hc0 := hkw _ _ hw0
        have hc1 := hkw _ _ hw1
        clear hkw hw0 hw1
        have hix := index_run Tryz.underlying23 size_mes ha k hlt (cap := cap)
        have HAA := hid ha
        have hbl : b < wr.heap.size := World.block_lt_of_cell? wr _ hc0
        clear ha
        obtain ⟨m, HM⟩ : ∃ m, Hid (m = s.getD k .zero) := ⟨_, rfl⟩
        rw [← HM.out] at hnsz hc0 hfs HGA
        obtain ⟨mn, mf⟩ := m
        simp only at hnsz hc0 hfs HGA
        obtain ⟨hflen, fa, fcap, rfl, hfat⟩ := hfs.open
        have HFS := hid hfs
        obtain ⟨fl, HFL⟩ : ∃ fl, Hid (fl = mf.length) := ⟨_, rfl⟩
        rw [← HFL.out] at hflen hc1
        clear hfs hfat
        go_wp2_with fail
        refine calls_gen _ (fun w1 => Hid (CheckInv w B en es w1) ∧ w1.cell? ⟨wr.heap.size, 0, none⟩ = some (.string mn) ∧ w1.cell? ⟨wr.heap.size, 1, none⟩ = some (.slice fa fl fcap) ∧ Hid (Below wr.heap.size wr w1)) ?_ ?_
        · exact ⟨HCI.out.alloc _, by simp [go_sem], by simp [go_sem], (Below.refl _ _).alloc (Nat.le_refl _) _⟩
        · rintro w1 ⟨HC1, d0, d1, HB1⟩
          obtain ⟨mb, HMB⟩ : ∃ mb, Hid (mb = wr.heap.size) := ⟨_, rfl⟩
          rw [← HMB.out] at d0 d1 ⊢
          have hbx := HC1.out.box.cells
          obtain ⟨x0, x1, x2, y0, y1, y2, hBl⟩ := hbx
          refine (schema_named mn (by omega) _).mono ?_
          rintro e w' ⟨rfl, rfl⟩
          by_cases hnm : nameOk mn = true
          · have HNM := hid hnm
            have HGB := hid HGA.out
            have hgb := HGB.out
            rw [if_neg (by rw [HNM.out]; decide)] at hgb
            have HGC := hid hgb
            clear hgb hnm
            have hmet := HNI.out mn
            cases hmm2 : mesMet (s.take k) mn with
            | true =>
              rw [hmm2] at hmet
              have hl1 := name_lookup HC1.out.names mn true hmet
              simp only [if_true] at hl1
              have HX1 : Hid (x = ((k : Int), -1, 3)) := by rw [Hid, HGC.out, if_pos hmm2]
              have HME := hid hmet
              have HMM2 := hid hmm2
              clear hmet hmm2
              rw [HNM.out]
              go_wp2
              refine bodyPost_ret (v := .tuple #[placeV ((k : Int), -1, 3), .int .u8 9]) ?_ rfl ⟨?_, ?_⟩
              · simp [results, Tryz.results26, go_sem, placeV, x0, x1, x2]
              · rw [HX1.out]; rfl
              · (repeat (first | with_reducible exact Below.refl _ _ | with_reducible refine Below.setCell ?_ (by first | omega | (simp; omega) | (simp; done)) _ | with_reducible refine Below.alloc ?_ (by first | omega | (simp; omega) | (simp; done)) _ | with_reducible refine below_drewN ?_ _ | with_reducible refine Below.drew ?_))
                exact HC1.out.below.mono hwB
            | false =>
              rw [hmm2] at hmet
              have hl1 := name_lookup HC1.out.names mn false hmet
              simp only [Bool.false_eq_true, if_false] at hl1
              have hgc := HGC.out
              rw [if_neg (by rw [hmm2]; decide)] at hgc
              have HGD := hid hgc
              have HME := hid hmet
              have HMM2 := hid hmm2
              clear hmet hmm2 hgc
              rw [HNM.out]
              by_cases h200 : 200 < fl
              · have HX1 : Hid (x = ((k : Int), -1, 4)) := by rw [Hid, HGD.out, if_pos (by rw [← HFL.out]; exact h200)]
                go_wp2
                refine bodyPost_ret (v := .tuple #[placeV ((k : Int), -1, 4), .int .u8 9]) ?_ rfl ⟨?_, ?_⟩
                · simp [results, Tryz.results26, go_sem, placeV, x0, x1, x2]
                · rw [HX1.out]; rfl
                · (repeat (first | with_reducible exact Below.refl _ _ | with_reducible refine Below.setCell ?_ (by first | omega | (simp; omega) | (simp; done)) _ | with_reducible refine Below.alloc ?_ (by first | omega | (simp; omega) | (simp; done)) _ | with_reducible refine below_drewN ?_ _ | with_reducible refine Below.drew ?_))
                  exact HC1.out.below.mono hwB
              · have hgd2 := HGD.out
                rw [if_neg (by rw [← HFL.out]; exact h200)] at hgd2
                have HGE := hid hgd2
                clear hgd2
                obtain ⟨w2, hup, hm2, hgr, hsz, hoth⟩ := name_insert HC1.out.names mn HME.out
                have hmbne : mb ≠ B + 1 := cell_ne_map HC1.out.names d0
                have e0 : w2.cell? ⟨mb, 0, none⟩ = some (.string mn) := (World.cell?_of_block (hoth mb hmbne)).trans d0
                have e1 : w2.cell? ⟨mb, 1, none⟩ = some (.slice fa fl fcap) := (World.cell?_of_block (hoth mb hmbne)).trans d1
                have hg1 := hgr w1 (grown_refl _ _)
                have HC2 : Hid (CheckInv w B (en ++ [(mn, one)]) es w2) :=
                  ⟨hm2, (hoth _ (by omega)).trans HC1.out.seen, (hoth _ (by omega)).trans HC1.out.box, HC1.out.below.trans ⟨hg1.os, hg1.tape, hg1.output, hg1.size, fun q hq => hoth q (by omega)⟩⟩
                clear hm2 hgr hoth hg1 hmbne hsz
                go_wp2
                go_loopw [59] (fun v59 wi => ∃ j : Nat, j ≤ fl ∧ v59 = .int .i64 j ∧ Hid (fieldsFault n (mf.take j) (mf.drop j) j = fieldsFault n [] mf 0) ∧ Hid (∃ es, CheckInv w B (en ++ [(mn, one)]) es wi ∧ SeenInv k (mf.take j) es)) (fun v59 _ => fl - (intOf v59).toNat)
                case atStart => exact ⟨0, by omega, rfl, hid rfl, es, HC2.out, HSI.out⟩
                case round =>
                  obtain ⟨j, hj, rfl, HJ, HEI⟩ := hrel
                  by_cases hjl : j < fl
                  · obtain ⟨es2, HC3, HS3⟩ : ∃ es, Hid (CheckInv w B (en ++ [(mn, one)]) es wr) ∧ Hid (SeenInv k (mf.take j) es) := HEI.out
                    have hfi : FieldsAt wr (.slice fa mf.length fcap) mf := HFS.out.keep fun p u hu => (Below.cell (p := p) HC3.out.below (by rw [HB.out]; exact World.block_lt_of_cell? w p hu)).trans hu
                    obtain ⟨-, fa', fcap', hv', hfat⟩ := hfi.open
                    cases hv'
                    rw [← HFL.out] at hfat
                    obtain ⟨fb, fo, hfa, hfok, g0, g1, g2, g3, g4, g5⟩ := hfat j hjl
                    have hixf := index_run Tryz.underlying45 size_fld hfa j hjl (cap := fcap)
                    have HFA := hid hfa
                    clear hfa hfat hfi
                    obtain ⟨f, HF⟩ : ∃ f, Hid (f = mf.getD j .zero) := ⟨_, rfl⟩
                    rw [← HF.out] at hfok g0 g1 g2 g3 g4 g5
                    have HFO := hid hfok
                    clear hfok
                    have hfst := fieldsFault_at n mf j (by rw [← HFL.out]; exact hjl)
                    rw [HJ.out, ← HF.out] at hfst
                    have HST := hid hfst
                    clear hfst
                    go_wp2_with fail
                    refine calls_gen _ (fun w4 => Hid (CheckInv w B (en ++ [(mn, one)]) es2 w4)) (HC3.out.alloc _) ?_
                    intro w4 HC4
                    refine (schema_field (f := f) (n := n) HFO.out HC4.out.seen (nameMet (mf.take j) f.name) (numMet (mf.take j) f.number) (HS3.out.name _) (HS3.out.num _)).mono ?_
                    rintro e w5 ⟨rfl, hpost⟩
                    have HPO := hid hpost
                    clear hpost
                    obtain ⟨K, HKK⟩ : ∃ K, Hid (K = fieldFault n (nameMet (mf.take j) f.name) (numMet (mf.take j) f.number) f) := ⟨_, rfl⟩
                    rw [← HKK.out] at HST HPO ⊢
                    by_cases hK : K = 0
                    · subst hK
                      have hfo2 := fieldFault_ok HKK.out.symm
                      have hp : MapIs w5 (B + 1 + 1) metK ((es2 ++ [((((k : Int), f.name, 0) : Met), one)]) ++ [((((k : Int), ⟨#[]⟩, f.number) : Met), one)]) ∧ w4.grownBy w5 (some (B + 1 + 1)) := HPO.out
                      have HC5 : Hid (CheckInv w B (en ++ [(mn, one)]) ((es2 ++ [((((k : Int), f.name, 0) : Met), one)]) ++ [((((k : Int), ⟨#[]⟩, f.number) : Met), one)]) w5) := by
                        have h1 := HC4.out.names.lt
                        have h2 := HC4.out.seen.lt
                        refine ⟨(hp.2.block _ h1 (by simp)).trans HC4.out.names, hp.1, (hp.2.block _ (by omega) (by simp; omega)).trans HC4.out.box, HC4.out.below.trans ⟨hp.2.os, hp.2.tape, hp.2.output, hp.2.size, fun q hq => hp.2.block q (by omega) (by simp; omega)⟩⟩
                      have HS5 : Hid (SeenInv k (mf.take (j + 1)) ((es2 ++ [((((k : Int), f.name, 0) : Met), one)]) ++ [((((k : Int), ⟨#[]⟩, f.number) : Met), one)])) := by
                        have e : mf.take (j + 1) = mf.take j ++ [f] := by
                          rw [HF.out, List.take_succ_eq_append_getElem (by rw [← HFL.out]; exact hjl)]
                          simp [List.getD, show j < mf.length by rw [← HFL.out]; exact hjl]
                        rw [Hid, e]
                        exact HS3.out.step hfo2.1 hfo2.2.2.1
                      clear hp hfo2
                      go_wp2
                      go_roundw
                      case rel =>
                        refine ⟨j + 1, by omega, by go_num, ?_, _, HC5.out, HS5.out⟩
                        have := HST.out
                        first | exact this.symm | (rw [if_pos trivial] at this; exact this.symm)
                      case measure => simp [intOf]; omega
                    · have hp : MapIs w5 (B + 1 + 1) metK es2 ∧ w4.grownBy w5 (some (B + 1 + 1)) := by
                        have := HPO.out
                        unfold FieldPost at this
                        rw [if_neg hK] at this
                        exact this
                      have h1 := HC4.out.names.lt
                      have h2 := HC4.out.seen.lt
                      have hb5 : Box3 w5 B := (hp.2.block _ (by omega) (by simp; omega)).trans HC4.out.box
                      have HB5 : Hid (Below B w w5) := HC4.out.below.trans ⟨hp.2.os, hp.2.tape, hp.2.output, hp.2.size, fun q hq => hp.2.block q (by omega) (by simp; omega)⟩
                      obtain ⟨z0, z1, z2, t0, t1, t2, hBl5⟩ := hb5.cells
                      have HX1 : Hid (x = ((k : Int), (j : Int), K)) := by
                        have := HST.out
                        rw [if_neg hK] at this
                        rw [Hid, HGE.out, this]
                      have hK1 : ((K : Int) == 0) = false := by simp; omega
                      have HK0 := hid hK
                      clear hK hp h1 h2 hb5
                      go_wp2
                      refine bodyPost_ret (v := .tuple #[placeV ((k : Int), (j : Int), K), .int .u8 9]) ?_ rfl ⟨?_, ?_⟩
                      · simp [results, Tryz.results26, go_sem, placeV, z0, z1, z2]
                      · rw [HX1.out]; simp [codeOf, HK0.out]
                      · (repeat (first | with_reducible exact Below.refl _ _ | with_reducible refine Below.setCell ?_ (by first | omega | (simp; omega) | (simp; done)) _ | with_reducible refine Below.alloc ?_ (by first | omega | (simp; omega) | (simp; done)) _ | with_reducible refine below_drewN ?_ _ | with_reducible refine Below.drew ?_))
                        exact HB5.out.mono hwB
                  · obtain rfl : j = fl := by omega
                    obtain ⟨es2, HC3, HS3⟩ : ∃ es, Hid (CheckInv w B (en ++ [(mn, one)]) es wr) ∧ Hid (SeenInv k (mf.take j) es) := HEI.out
                    go_wp2
                    go_roundw
                    case rel =>
                      have e : s.take (k + 1) = s.take k ++ [⟨mn, mf⟩] := by
                        rw [List.take_succ_eq_append_getElem (by rw [← HN.out]; exact hlt)]
                        congr 1
                        have hx := HM.out
                        simp only [List.getD, List.getElem?_eq_getElem (show k < s.length by rw [← HN.out]; exact hlt), Option.getD_some] at hx
                        rw [← hx]
                      refine ⟨k + 1, by omega, by go_num, ?_, _, _, HC3.out, ?_, ?_⟩
                      · have h1 := HJ.out
                        rw [HFL.out, List.drop_length] at h1
                        have h2 := HGE.out
                        rw [← h1] at h2
                        simp only [fieldsFault] at h2
                        exact h2.symm
                      · rw [e]
                        exact NamesInv.step HNI.out ⟨mn, mf⟩
                      · have := HS3.out.next
                        simpa using this
                    case measure => simp [intOf]; omega
          · have hnm2 : nameOk mn = false := by simpa using hnm
            have HX1 : Hid (x = ((k : Int), -1, 2)) := by rw [Hid, HGA.out, if_pos hnm2]
            have HNM := hid hnm2
            clear hnm hnm2
            rw [HNM.out]
            go_wp2
            refine bodyPost_ret (v := .tuple #[placeV ((k : Int), -1, 2), .int .u8 9]) ?_ rfl ⟨?_, ?_⟩
            · simp [results, Tryz.results26, go_sem, placeV, x0, x1, x2]
            · rw [HX1.out]; rfl
            · (repeat (first | with_reducible exact Below.refl _ _ | with_reducible refine Below.setCell ?_ (by first | omega | (simp; omega) | (simp; done)) _ | with_reducible refine Below.alloc ?_ (by first | omega | (simp; omega) | (simp; done)) _ | with_reducible refine below_drewN ?_ _ | with_reducible refine Below.drew ?_))
              exact HC1.out.below.mono hwB
      · obtain ⟨en, es, HCI, -, -⟩ : ∃ en es, Hid (CheckInv w B en es wr) ∧ Hid (NamesInv (s.take k) en) ∧ Hid (SeenInv k [] es) := HI.out
        obtain ⟨x0, x1, x2, y0, y1, y2, hBl⟩ := HCI.out.box.cells
        have HX1 : Hid (x = (0, 0, 0)) := by
          have h1 := HK.out
          rw [List.drop_of_length_le (by rw [← HN.out]; omega)] at h1
          exact h1.symm
        go_wp2
        refine bodyPost_ret (v := .tuple #[placeV (0, 0, 0), .int .u8 0]) ?_ rfl ⟨?_, ?_⟩
        · simp [results, Tryz.results26, go_sem, placeV, x0, x1, x2]
        · rw [HX1.out]; rfl
        · (repeat (first | with_reducible exact Below.refl _ _ | with_reducible refine Below.setCell ?_ (by first | omega | (simp; omega) | (simp; done)) _ | with_reducible refine Below.alloc ?_ (by first | omega | (simp; omega) | (simp; done)) _ | with_reducible refine below_drewN ?_ _ | with_reducible refine Below.drew ?_))
          exact HCI.out.below.mono hwB
set_option maxRecDepth 100000 in
theorem schema_Right {w : World} {v : Value} {s : List Mes} (h : SchemaAt w v s) :
    Calls Tryz.prog 15 #[v] w fun e w' => e = .returned (.bool (sright s)) ∧ Below w.heap.size w w' := by
  have H : Hid (sright s = decide (codeOf (scheck s) = 0)) := by
    unfold Hid sright codeOf
    by_cases e : (scheck s).2.2 = 0 <;> simp [e]
  obtain ⟨x, HX⟩ : ∃ x, Hid (x = scheck s) := ⟨_, rfl⟩
  obtain ⟨c, HC⟩ : ∃ c, Hid (c = codeOf x) := ⟨_, rfl⟩
  go_enter Tryz.func15, Tryz.ntmps15
  go_wp2_with (go_at_call 26; refine (schema_Check h).mono ?_; rintro e w1 ⟨rfl, hb⟩; rw [← HX.out, ← HC.out]; unfold placeV)
  go_ret
  have hz : w.heap.size ≤ w1.heap.size := hb.size
  refine ⟨ret1 ?_, by (repeat (first | with_reducible exact Below.refl _ _ | with_reducible refine Below.setCell ?_ (by first | omega | (simp; omega) | (simp; done)) _ | with_reducible refine Below.alloc ?_ (by first | omega | (simp; omega) | (simp; done)) _ | with_reducible refine below_drewN ?_ _ | with_reducible refine Below.drew ?_)); exact hb⟩
  rw [H.out, ← HX.out, ← HC.out]
  show Value.bool (c == 0) = _
  congr 1
end Go.Proofs.YtbdeclkccchnoaaGreat
namespace Go.Proofs.YtbdeclkccchnoaaGreat
open Go.RowKit
theorem str_beq (a b : ByteArray) : (a.toList == b.toList) = decide (a = b) := by
  rw [Bool.eq_iff_iff, beq_iff_eq, toList_inj, decide_eq_true_iff]
end Go.Proofs.YtbdeclkccchnoaaGreat
namespace Go.Proofs.YtbdeclkccchnoaaGreat
open Go.RowKit
end Go.Proofs.YtbdeclkccchnoaaGreat
namespace Go.Proofs.YtbdeclkccchnoaaGreat
open Go.RowKit
def argsCode (s : List Mes) (root d : Int) : Nat := if sright s = false then 9 else if root < 0 ∨ (s.length : Int) ≤ root ∨ d < 0 ∨ 64 < d then 2 else 0
set_option maxRecDepth 100000 in
set_option maxHeartbeats 2000000 in
theorem valid_Args {w : World} {v : Value} {s : List Mes} (h : SchemaAt w v s) (root d : Int) :
    Calls Tryz.prog 63 #[v, .int .i64 root, .int .i64 d] w fun e w' => e = .returned (.int .u8 (argsCode s root d)) ∧ Below w.heap.size w w' := by
  obtain ⟨hlen, a, cap, rfl, -⟩ := h.open
  obtain ⟨n, HN⟩ : ∃ n, Hid (n = s.length) := ⟨_, rfl⟩
  obtain ⟨x, HX⟩ : ∃ x, Hid (x = argsCode s root d) := ⟨_, rfl⟩
  rw [← HX.out]
  unfold argsCode at HX
  rw [← HN.out] at HX hlen h ⊢
  cases hs : sright s with
  | false =>
    have HS := hid hs
    clear hs
    obtain rfl : x = 9 := by rw [HX.out, if_pos HS.out]
    go_enter Tryz.func63, Tryz.ntmps63
    go_wp2_with (go_at_call 15; refine (schema_Right h).mono ?_; rintro e w1 ⟨rfl, hb⟩; rw [HS.out])
    go_ret
    exact ⟨rfl, hb⟩
  | true =>
    have HS := hid hs
    clear hs
    have HX1 : Hid (x = if root < 0 ∨ (n : Int) ≤ root ∨ d < 0 ∨ 64 < d then 2 else 0) := by rw [Hid, HX.out, if_neg (by rw [HS.out]; decide)]
    by_cases c1 : root < 0
    · obtain rfl : x = 2 := by rw [HX1.out, if_pos (by omega)]
      go_enter Tryz.func63, Tryz.ntmps63
      go_wp2_with (go_at_call 15; refine (schema_Right h).mono ?_; rintro e w1 ⟨rfl, hb⟩; rw [HS.out])
      go_ret
      exact ⟨rfl, hb⟩
    · by_cases c2 : (n : Int) ≤ root
      · obtain rfl : x = 2 := by rw [HX1.out, if_pos (by omega)]
        go_enter Tryz.func63, Tryz.ntmps63
        go_wp2_with (go_at_call 15; refine (schema_Right h).mono ?_; rintro e w1 ⟨rfl, hb⟩; rw [HS.out])
        go_ret
        exact ⟨rfl, hb⟩
      · by_cases c3 : d < 0
        · obtain rfl : x = 2 := by rw [HX1.out, if_pos (by omega)]
          go_enter Tryz.func63, Tryz.ntmps63
          go_wp2_with (go_at_call 15; refine (schema_Right h).mono ?_; rintro e w1 ⟨rfl, hb⟩; rw [HS.out])
          go_ret
          exact ⟨rfl, hb⟩
        · by_cases c4 : 64 < d
          · obtain rfl : x = 2 := by rw [HX1.out, if_pos (by omega)]
            go_enter Tryz.func63, Tryz.ntmps63
            go_wp2_with (go_at_call 15; refine (schema_Right h).mono ?_; rintro e w1 ⟨rfl, hb⟩; rw [HS.out])
            go_ret
            exact ⟨rfl, hb⟩
          · obtain rfl : x = 0 := by rw [HX1.out, if_neg (by omega)]
            go_enter Tryz.func63, Tryz.ntmps63
            go_wp2_with (go_at_call 15; refine (schema_Right h).mono ?_; rintro e w1 ⟨rfl, hb⟩; rw [HS.out])
            go_ret
            exact ⟨rfl, hb⟩
def firstAt {α : Type} (p : α → Bool) : List α → Nat → Int
  | [], _ => -1
  | f :: r, i => if p f then i else firstAt p r (i + 1)
def fieldAt (fs : List Fld) (n : Int) : Int := firstAt (fun f => decide (f.number = n)) fs 0
theorem firstAt_at (p : Fld → Bool) (fs : List Fld) (k : Nat) (hk : k < fs.length) : firstAt p (fs.drop k) k = if p (fs.getD k .zero) then (k : Int) else firstAt p (fs.drop (k + 1)) (k + 1) := by
  have e : fs.getD k .zero = fs[k] := by simp [List.getD, hk]
  rw [e, List.drop_eq_getElem_cons hk, firstAt]
theorem firstAt_bd {α : Type} (p : α → Bool) : ∀ (fs : List α) (i : Nat), firstAt p fs i = -1 ∨ ∃ k : Nat, firstAt p fs i = k ∧ i ≤ k ∧ k < i + fs.length
  | [], _ => .inl rfl
  | f :: r, i => by
    simp only [firstAt]
    split
    · exact .inr ⟨i, rfl, by omega, by simp⟩
    · rcases firstAt_bd p r (i + 1) with h | ⟨k, h, h1, h2⟩
      · exact .inl h
      · exact .inr ⟨k, h, by omega, by simp; omega⟩
set_option maxRecDepth 100000 in
theorem indexFunc_fld {w : World} {v : Value} {fs : List Fld} (h : FieldsAt w v fs) (F : Nat) (cap : Array Value) (p : Fld → Bool) (hcf : ∀ (args : Array Value) (w : World), (callFunc F args).run Tryz.prog w = .ok (.enter F args) w)
    (hcl : ∀ (f : Fld) (wr : World), f.Ok → Below w.heap.size w wr → Calls Tryz.prog F (#[f.val] ++ cap) wr fun e w' => e = .returned (.bool (p f)) ∧ Below wr.heap.size wr w') :
    Calls Tryz.prog 85 #[v, .func (.func F) #[] cap] w fun e w' => e = .returned (.int .i64 (firstAt p fs 0)) ∧ Below w.heap.size w w' := by
  obtain ⟨hlen, a, c, rfl, hat⟩ := h.open
  obtain ⟨n, HN⟩ : ∃ n, Hid (n = fs.length) := ⟨_, rfl⟩
  rw [← HN.out] at hat hlen ⊢
  have HAT := hid hat
  have HCL := hid hcl
  clear hat hcl
  go_enter Tryz.func85, Tryz.ntmps85
  go_wp2
  go_loopw [8] (fun v8 wr => ∃ k : Nat, k ≤ n ∧ v8 = .int .i64 k ∧ Hid (firstAt p (fs.drop k) k = firstAt p fs 0) ∧ Hid (Below w.heap.size w wr)) (fun v8 _ => n - (intOf v8).toNat)
  case atStart => exact ⟨0, by omega, rfl, hid rfl, Below.refl _ _⟩
  case round =>
    obtain ⟨k, hk, rfl, HK, HB⟩ := hrel
    by_cases hlt : k < n
    · have hat := HAT.out
      obtain ⟨b, o, ha, hfok, g0, g1, g2, g3, g4, g5⟩ := hat k hlt
      clear hat
      have hkw : ∀ p u, w.cell? p = some u → wr.cell? p = some u := fun p u hu => (Below.cell (p := p) HB.out (World.block_lt_of_cell? w p hu)).trans hu
      have r0 := hkw _ _ g0
      have r1 := hkw _ _ g1
      have r2 := hkw _ _ g2
      have r3 := hkw _ _ g3
      have r4 := hkw _ _ g4
      have r5 := hkw _ _ g5
      have hix := index_run Tryz.underlying45 size_fld ha k hlt (cap := c)
      have HA := hid ha
      have hst := hid (firstAt_at p fs k (by rw [← HN.out]; exact hlt))
      obtain ⟨f, HF⟩ : ∃ f, Hid (f = fs.getD k .zero) := ⟨_, rfl⟩
      rw [← HF.out] at hfok r0 r1 r2 r3 r4 r5 hst
      have HFO := hid hfok
      clear ha hkw g0 g1 g2 g3 g4 g5 hfok
      go_wp2_with fail
      have hcl := HCL.out
      refine (hcl f _ HFO.out HB.out).mono ?_
      rintro e w5 ⟨rfl, hb5⟩
      clear hcl
      have HB5 : Hid (Below w.heap.size w w5) := below_step HB.out hb5 HB.out.size
      clear hb5
      cases hp : p f with
      | true =>
        have e : firstAt p fs 0 = k := by rw [← HK.out, hst.out, if_pos hp]
        have HE := hid e
        clear hp e
        go_wp2
        go_ret
        exact ⟨by rw [HE.out]; rfl, HB5.out⟩
      | false =>
        have e : firstAt p (fs.drop (k + 1)) (k + 1) = firstAt p fs 0 := by rw [← HK.out, hst.out, if_neg (by rw [hp]; decide)]
        have HE := hid e
        clear hp e
        go_wp2
        go_roundw
        case rel => exact ⟨k + 1, by omega, by go_num, HE.out, HB5.out⟩
        case measure => simp [intOf]; omega
    · go_wp2
      go_ret
      have e : firstAt p fs 0 = -1 := by
        rw [← HK.out, List.drop_of_length_le (by rw [← HN.out]; omega)]; rfl
      exact ⟨by rw [e]; rfl, HB.out⟩
set_option maxRecDepth 100000 in
theorem view_field_1 {w : World} {q : Nat} {x : Int} (hq : w.cell? ⟨q, 0, none⟩ = some (.int .i64 x)) (f : Fld) :
    Calls Tryz.prog 120 #[f.val, .pointer (some ⟨q, 0, none⟩)] w fun e w' => e = .returned (.bool (decide (f.number = x))) ∧ Below w.heap.size w w' := by
  obtain ⟨name, number, kind, rep, packed, of⟩ := f
  simp only [Fld.val]
  have hql : q < w.heap.size := World.block_lt_of_cell? w _ hq
  go_enter Tryz.func120, Tryz.ntmps120
  go_wp2
  go_ret
  refine ⟨ret1 ?_, by (repeat (first | with_reducible exact Below.refl _ _ | with_reducible refine Below.setCell ?_ (by first | omega | (simp; omega) | (simp; done)) _ | with_reducible refine Below.alloc ?_ (by first | omega | (simp; omega) | (simp; done)) _ | with_reducible refine below_drewN ?_ _ | with_reducible refine Below.drew ?_))⟩
  show Value.bool (number == x) = _
  congr 1
set_option maxRecDepth 100000 in
theorem view_field {w : World} {v : Value} {fs : List Fld} (h : FieldsAt w v fs) (nm : ByteArray) (x : Int) :
    Calls Tryz.prog 98 #[.agg #[.string nm, v], .int .i64 x] w fun e w' => e = .returned (.int .i64 (fieldAt fs x)) ∧ Below w.heap.size w w' := by
  obtain ⟨hlen, a, c, rfl, -⟩ := h.open
  go_enter Tryz.func98, Tryz.ntmps98
  go_wp2_with fail
  refine (indexFunc_fld (h.keep (w' := (w.alloc _).alloc _) (below_keeps (Below.alloc ((Below.refl _ _).alloc (Nat.le_refl _) _) (by simp) _))) 120 _ (fun f => decide (f.number = x)) (fun args w => by simp [go_sem]) ?_).mono ?_
  · intro f wr hok hb
    refine view_field_1 ?_ f
    have := below_keeps hb ⟨w.heap.size + 1, 0, none⟩ (.int .i64 x) (by simp [go_sem])
    exact this
  · rintro e w5 ⟨rfl, hb⟩
    go_wp2
    go_ret
    exact ⟨rfl, below_step (Below.alloc ((Below.refl _ _).alloc (Nat.le_refl _) _) (by simp) _) hb (by simp; omega)⟩
end Go.Proofs.YtbdeclkccchnoaaGreat
namespace Go.Proofs.YtbdeclkccchnoaaGreat
open Go.RowKit
set_option maxRecDepth 100000 in
theorem schema_ByNumber_1 {w : World} {q : Nat} {x : Int} (hq : w.cell? ⟨q, 0, none⟩ = some (.int .i64 x)) (f : Fld) :
    Calls Tryz.prog 52 #[f.val, .pointer (some ⟨q, 0, none⟩)] w fun e w' => e = .returned (.bool (decide (f.number = x))) ∧ Below w.heap.size w w' := by
  obtain ⟨name, number, kind, rep, packed, of⟩ := f
  simp only [Fld.val]
  have hql : q < w.heap.size := World.block_lt_of_cell? w _ hq
  go_enter Tryz.func52, Tryz.ntmps52
  go_wp2
  go_ret
  refine ⟨ret1 ?_, by (repeat (first | with_reducible exact Below.refl _ _ | with_reducible refine Below.setCell ?_ (by first | omega | (simp; omega) | (simp; done)) _ | with_reducible refine Below.alloc ?_ (by first | omega | (simp; omega) | (simp; done)) _ | with_reducible refine below_drewN ?_ _ | with_reducible refine Below.drew ?_))⟩
  show Value.bool (number == x) = _
  congr 1
theorem firstAt_bds {α : Type} (p : α → Bool) (l : List α) (h : l.length ≤ 140737488355328) : -1 ≤ firstAt p l 0 ∧ firstAt p l 0 ≤ 140737488355328 := by
  rcases firstAt_bd p l 0 with h | ⟨j, h, h1, h2⟩
  · rw [h]; omega
  · rw [h]; omega
set_option maxRecDepth 100000 in
set_option maxHeartbeats 4000000 in
theorem schema_by {w : World} {v : Value} {fs : List Fld} (h : FieldsAt w v fs) (nm : ByteArray) (F : Nat) (cap : Array Value) (p : Fld → Bool) (hcf : ∀ (args : Array Value) (w : World), (callFunc F args).run Tryz.prog w = .ok (.enter F args) w)
    (hcl : ∀ (f : Fld) (wr : World), f.Ok → Below w.heap.size w wr → Calls Tryz.prog F (#[f.val] ++ cap) wr fun e w' => e = .returned (.bool (p f)) ∧ Below wr.heap.size wr w') :
    Calls Tryz.prog 51 #[.agg #[.string nm, v], .func (.func F) #[] cap] w fun e w' => e = .returned (.tuple #[.int .i64 (if 0 ≤ firstAt p fs 0 then firstAt p fs 0 else 0), .bool (decide (0 ≤ firstAt p fs 0))]) ∧ Below w.heap.size w w' := by
  have hB1 : Below w.heap.size w (w.alloc (.cells #[.string nm, v] 47)) := (Below.refl _ _).alloc (Nat.le_refl _) _
  have HI := hid (indexFunc_fld (h.keep (w' := w.alloc (.cells #[.string nm, v] 47)) (below_keeps hB1)) F cap p hcf (fun f wr hok hb => hcl f wr hok (hB1.trans (hb.mono (by simp)))))
  have hbd := firstAt_bds p fs h.1.2.1
  obtain ⟨hlen, a, c, rfl, -⟩ := h.open
  generalize firstAt p fs 0 = k at *
  clear h hcl
  by_cases hk : 0 ≤ k
  · rw [if_pos hk]
    go_enter Tryz.func51, Tryz.ntmps51
    go_wp2_with fail
    refine HI.out.mono ?_
    rintro e w1 ⟨rfl, hb1⟩
    go_wp2_with fail
    go_ret2
    refine ⟨?_, below_step hB1 hb1 (by simp)⟩
    first | rfl | (simp [hk]) | (simp [hk]; omega)
  · rw [if_neg hk]
    go_enter Tryz.func51, Tryz.ntmps51
    go_wp2_with fail
    refine HI.out.mono ?_
    rintro e w1 ⟨rfl, hb1⟩
    go_wp2_with fail
    go_ret2
    refine ⟨?_, below_step hB1 hb1 (by simp)⟩
    first | rfl | (simp [hk]) | (simp [hk]; omega)
set_option maxRecDepth 100000 in
set_option maxHeartbeats 4000000 in
theorem schema_ByNumber {w : World} {v : Value} {fs : List Fld} (h : FieldsAt w v fs) (nm : ByteArray) (x : Int) :
    Calls Tryz.prog 28 #[.agg #[.string nm, v], .int .i64 x] w fun e w' => e = .returned (.tuple #[.int .i64 (if 0 ≤ fieldAt fs x then fieldAt fs x else 0), .bool (decide (0 ≤ fieldAt fs x))]) ∧ Below w.heap.size w w' := by
  have H := hid h
  obtain ⟨hlen, a, c, rfl, -⟩ := h.open
  obtain ⟨k, HK⟩ : ∃ k, Hid (firstAt (fun f : Fld => decide (f.number = x)) fs 0 = k) := ⟨_, rfl⟩
  rw [show fieldAt fs x = k from HK.out]
  clear h
  by_cases hk : 0 ≤ k
  all_goals
    go_enter Tryz.func28, Tryz.ntmps28
    go_wp2_with fail
    refine (schema_by (H.out.keep (w' := (w.alloc _).alloc _) (below_keeps (Below.alloc ((Below.refl _ _).alloc (Nat.le_refl _) _) (by simp) _))) nm 52 _ (fun f => decide (f.number = x)) (fun args w => by simp [go_sem]) ?_).mono ?_
    · intro f wr hok hb
      refine schema_ByNumber_1 ?_ f
      have := below_keeps hb ⟨w.heap.size + 1, 0, none⟩ (.int .i64 x) (by simp [go_sem])
      exact this
    · rintro e w5 ⟨rfl, hb⟩
      rw [HK.out]
      first | rw [if_pos hk] | rw [if_neg (by omega)]
      go_wp2_with fail
      go_ret2
      refine ⟨?_, below_step (Below.alloc ((Below.refl _ _).alloc (Nat.le_refl _) _) (by simp) _) hb (by simp; omega)⟩
      first | rfl | (simp [hk])
end Go.Proofs.YtbdeclkccchnoaaGreat
