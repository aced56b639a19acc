/- What schema.Check and schema.Right return of any schema: scheck, sright. No condition beyond that the argument reads as a schema. append onto a row of the call's own, whatever is appended (a string's bytes too), as an equation of the run. No condition. Blocks known whole: their cells, what leaves them as they are; two results in boxes of their own; rows kept. No condition. Literals: a block of the call's own, read as words, fields, a schema, values. No condition. -/
import Derived.Test.YtgephhmkaonahaaDoorZ01
import Derived.Test.YtgephhmkaonahaaDoorZ02
import Derived.Test.YtgephhmkaonahaaDoorZ03
import Derived.Deep.AppendSrc
import Derived.Maps.AppendAt
import Derived.OwnWalk
import Derived.OwnWalkIn
import Derived.RangeFuncFrom
namespace Go.Proofs.YtgephhmkaonahaaDoor
open Go.RowKit

theorem size_mes (w : World) : (sizeOf 49).run Tryd.prog w = .ok 2 w := by kernel_rfl
theorem size_fld (w : World) : (sizeOf 76).run Tryd.prog w = .ok 6 w := by kernel_rfl
def placeV (x : Int × Int × Nat) : Value := .agg #[.int .i64 x.1, .int .i64 x.2.1, .int .i64 x.2.2]
def codeOf (x : Int × Int × Nat) : Int := if x.2.2 = 0 then 0 else 9

/-- the block of a result of three numbers, untouched yet -/
def Box3 (w : World) (B : Nat) : Prop := w.heap[B]? = some (.cells #[.int .i64 0, .int .i64 0, .int .i64 0] 66 (0, 0))
theorem Box3.cells {w : World} {B : Nat} (h : Box3 w B) : w.cell? ⟨B, 0, none⟩ = some (.int .i64 0) ∧ w.cell? ⟨B, 1, none⟩ = some (.int .i64 0) ∧ w.cell? ⟨B, 2, none⟩ = some (.int .i64 0) ∧
    w.frozen? ⟨B, 0, none⟩ = false ∧ w.frozen? ⟨B, 1, none⟩ = false ∧ w.frozen? ⟨B, 2, none⟩ = false ∧ B < w.heap.size := by
  unfold Box3 at h
  refine ⟨by simp [World.cell?, h], by simp [World.cell?, h], by simp [World.cell?, h], by simp [World.frozen?, h], by simp [World.frozen?, h], by simp [World.frozen?, h], ?_⟩
  rw [Array.getElem?_eq_some_iff] at h
  exact h.1

/-- all that is kept while messages are gone through: B: the result's block, the maps behind it -/
structure CheckInv (w : World) (B : Nat) (en : List (ByteArray × Value)) (es : List (Met × Value)) (wr : World) : Prop where
  names : MapIs wr (B + 1) strK en
  seen : MapIs wr (B + 1 + 1) metK es
  box : Box3 wr B
  below : Below B w wr

theorem three_new (w : World) (o1 o2 o3 : Obj) : (((w.alloc o1).alloc o2).alloc o3).heap[w.heap.size]? = some o1 ∧ (((w.alloc o1).alloc o2).alloc o3).heap[w.heap.size + 1]? = some o2 ∧ (((w.alloc o1).alloc o2).alloc o3).heap[w.heap.size + 1 + 1]? = some o3 := by
  have e1 : (w.alloc o1).heap.size = w.heap.size + 1 := by simp
  have e2 : ((w.alloc o1).alloc o2).heap.size = w.heap.size + 1 + 1 := by simp
  refine ⟨?_, ?_, ?_⟩
  · rw [Below.heap_alloc _ _ _ (by omega), Below.heap_alloc _ _ _ (by omega)]; exact heap_alloc_new w o1
  · rw [Below.heap_alloc _ _ _ (by omega), ← e1]; exact heap_alloc_new _ o2
  · rw [← e2]; exact heap_alloc_new _ o3

theorem CheckInv.alloc {w : World} {B : Nat} {en : List (ByteArray × Value)} {es : List (Met × Value)} {wr : World} (h : CheckInv w B en es wr) (o : Obj) : CheckInv w B en es (wr.alloc o) := by
  have h1 := h.names.lt
  have h2 := h.seen.lt
  refine ⟨?_, ?_, ?_, h.below.alloc (by omega) o⟩
  · unfold MapIs; rw [Below.heap_alloc wr o _ h1]; exact h.names
  · unfold MapIs; rw [Below.heap_alloc wr o _ h2]; exact h.seen
  · unfold Box3; rw [Below.heap_alloc wr o _ (by omega)]; exact h.box

set_option maxRecDepth 100000 in
set_option maxHeartbeats 20000000 in
theorem schema_Check {w : World} {v : Value} {s : List Mes} (h : SchemaAt w v s) :
    Calls Tryd.prog 33 #[v] w fun e w' => e = .returned (.tuple #[placeV (scheck s), .int .u8 (codeOf (scheck s))]) ∧ Below w.heap.size w w' := by
  obtain ⟨hlen, a, cap, rfl, hat⟩ := h.open
  have HAT := hid hat
  clear hat
  obtain ⟨n, HN⟩ : ∃ n, Hid (n = s.length) := ⟨_, rfl⟩
  rw [← HN.out] at hlen h ⊢
  obtain ⟨x, HX⟩ : ∃ x, Hid (x = scheck s) := ⟨_, rfl⟩
  rw [← HX.out]
  obtain ⟨B, HB⟩ : ∃ B, Hid (B = w.heap.size) := ⟨_, rfl⟩
  have hwB : w.heap.size ≤ B := by rw [HB.out]; exact Nat.le_refl _
  by_cases hbig : n < 1 ∨ 100 < n
  · obtain rfl : x = (-1, -1, 1) := by
      rw [HX.out, scheck, if_pos (by rw [← HN.out]; omega)]
    rcases hbig with hb | hb
    all_goals
      go_enter Tryd.func33, Tryd.ntmps33
      go_wp2
      refine bodyPost_ret (v := .tuple #[placeV (-1, -1, 1), .int .u8 9]) ?_ rfl ⟨rfl, ?_⟩
      · simp [results, Tryd.results33, go_sem, placeV]
      · (repeat (first | with_reducible exact Below.refl _ _ | with_reducible refine Below.setCell ?_ (by first | omega | (simp; omega) | (simp; done)) _ | with_reducible refine Below.alloc ?_ (by first | omega | (simp; omega) | (simp; done)) _ | with_reducible refine below_drewN ?_ _ | with_reducible refine Below.drew ?_))
  · have hn1 : 1 ≤ n := by omega
    have hn2 : n ≤ 100 := by omega
    clear hbig
    have HGO : Hid (scheckGo n [] s 0 = x) := by rw [Hid, HX.out, scheck, if_neg (by rw [← HN.out]; omega), HN.out]
    have hmm := @run_makeMap Tryd.prog
    go_enter Tryd.func33, Tryd.ntmps33
    go_wp2
    rw [← HB.out]
    go_loopw [25] (fun v25 wr => ∃ k : Nat, k ≤ n ∧ v25 = .int .i64 k ∧ Hid (scheckGo n (s.take k) (s.drop k) k = x) ∧ Hid (∃ en es, CheckInv w B en es wr ∧ NamesInv (s.take k) en ∧ SeenInv k [] es)) (fun v25 _ => n - (intOf v25).toNat)
    case atStart =>
      refine ⟨0, by omega, rfl, HGO.out, [], [], ⟨?_, ?_, ?_, ?_⟩, fun t => rfl, SeenInv.start _⟩
      · unfold MapIs; rw [HB.out]; exact (three_new w _ _ _).2.1
      · unfold MapIs; rw [HB.out]; exact (three_new w _ _ _).2.2
      · unfold Box3; rw [HB.out]; exact (three_new w _ _ _).1
      · rw [HB.out]; (repeat (first | with_reducible exact Below.refl _ _ | with_reducible refine Below.setCell ?_ (by first | omega | (simp; omega) | (simp; done)) _ | with_reducible refine Below.alloc ?_ (by first | omega | (simp; omega) | (simp; done)) _ | with_reducible refine below_drewN ?_ _ | with_reducible refine Below.drew ?_))
    case round =>
      obtain ⟨k, hk, rfl, HK, HI⟩ := hrel
      by_cases hlt : k < n
      · obtain ⟨en, es, HCI, HNI, HSI⟩ : ∃ en es, Hid (CheckInv w B en es wr) ∧ Hid (NamesInv (s.take k) en) ∧ Hid (SeenInv k [] es) := HI.out
        have hgo := scheckGo_at n s k (by rw [← HN.out]; exact hlt)
        rw [HK.out] at hgo
        have HGA := hid hgo
        clear hgo
        have hat := HAT.out
        obtain ⟨b, o, fv, ha, hnsz, hw0, hw1, hfs⟩ := hat k (by rw [← HN.out]; exact hlt)
        clear hat
        have hkw : ∀ p u, w.cell? p = some u → wr.cell? p = some u := fun p u hu => (Below.cell (p := p) HCI.out.below (by rw [HB.out]; exact World.block_lt_of_cell? w p hu)).trans hu
        have hc0 := hkw _ _ hw0
        have hc1 := hkw _ _ hw1
        clear hkw hw0 hw1
        have hix := index_run Tryd.underlying51 size_mes ha k hlt (cap := cap)
        have HAA := hid ha
        have hbl : b < wr.heap.size := World.block_lt_of_cell? wr _ hc0
        clear ha
        obtain ⟨m, HM⟩ : ∃ m, Hid (m = s.getD k .zero) := ⟨_, rfl⟩
        rw [← HM.out] at hnsz hc0 hfs HGA
        obtain ⟨mn, mf⟩ := m
        simp only at hnsz hc0 hfs HGA
        obtain ⟨hflen, fa, fcap, rfl, hfat⟩ := hfs.open
        have HFS := hid hfs
        obtain ⟨fl, HFL⟩ : ∃ fl, Hid (fl = mf.length) := ⟨_, rfl⟩
        rw [← HFL.out] at hflen hc1
        clear hfs hfat
        go_wp2_with fail
        refine calls_gen _ (fun w1 => Hid (CheckInv w B en es w1) ∧ w1.cell? ⟨wr.heap.size, 0, none⟩ = some (.string mn) ∧ w1.cell? ⟨wr.heap.size, 1, none⟩ = some (.slice fa fl fcap) ∧ Hid (Below wr.heap.size wr w1)) ?_ ?_
        · exact ⟨HCI.out.alloc _, by simp [go_sem], by simp [go_sem], (Below.refl _ _).alloc (Nat.le_refl _) _⟩
        · rintro w1 ⟨HC1, d0, d1, HB1⟩
          obtain ⟨mb, HMB⟩ : ∃ mb, Hid (mb = wr.heap.size) := ⟨_, rfl⟩
          rw [← HMB.out] at d0 d1 ⊢
          have hbx := HC1.out.box.cells
          obtain ⟨x0, x1, x2, y0, y1, y2, hBl⟩ := hbx
          refine (schema_named mn (by omega) _).mono ?_
          rintro e w' ⟨rfl, rfl⟩
          by_cases hnm : nameOk mn = true
          · have HNM := hid hnm
            have HGB := hid HGA.out
            have hgb := HGB.out
            rw [if_neg (by rw [HNM.out]; decide)] at hgb
            have HGC := hid hgb
            clear hgb hnm
            have hmet := HNI.out mn
            cases hmm2 : mesMet (s.take k) mn with
            | true =>
              rw [hmm2] at hmet
              have hl1 := name_lookup HC1.out.names mn true hmet
              simp only [if_true] at hl1
              have HX1 : Hid (x = ((k : Int), -1, 3)) := by rw [Hid, HGC.out, if_pos hmm2]
              have HME := hid hmet
              have HMM2 := hid hmm2
              clear hmet hmm2
              rw [HNM.out]
              go_wp2
              refine bodyPost_ret (v := .tuple #[placeV ((k : Int), -1, 3), .int .u8 9]) ?_ rfl ⟨?_, ?_⟩
              · simp [results, Tryd.results33, go_sem, placeV, x0, x1, x2]
              · rw [HX1.out]; rfl
              · (repeat (first | with_reducible exact Below.refl _ _ | with_reducible refine Below.setCell ?_ (by first | omega | (simp; omega) | (simp; done)) _ | with_reducible refine Below.alloc ?_ (by first | omega | (simp; omega) | (simp; done)) _ | with_reducible refine below_drewN ?_ _ | with_reducible refine Below.drew ?_))
                exact HC1.out.below.mono hwB
            | false =>
              rw [hmm2] at hmet
              have hl1 := name_lookup HC1.out.names mn false hmet
              simp only [Bool.false_eq_true, if_false] at hl1
              have hgc := HGC.out
              rw [if_neg (by rw [hmm2]; decide)] at hgc
              have HGD := hid hgc
              have HME := hid hmet
              have HMM2 := hid hmm2
              clear hmet hmm2 hgc
              rw [HNM.out]
              by_cases h200 : 200 < fl
              · have HX1 : Hid (x = ((k : Int), -1, 4)) := by rw [Hid, HGD.out, if_pos (by rw [← HFL.out]; exact h200)]
                go_wp2
                refine bodyPost_ret (v := .tuple #[placeV ((k : Int), -1, 4), .int .u8 9]) ?_ rfl ⟨?_, ?_⟩
                · simp [results, Tryd.results33, go_sem, placeV, x0, x1, x2]
                · rw [HX1.out]; rfl
                · (repeat (first | with_reducible exact Below.refl _ _ | with_reducible refine Below.setCell ?_ (by first | omega | (simp; omega) | (simp; done)) _ | with_reducible refine Below.alloc ?_ (by first | omega | (simp; omega) | (simp; done)) _ | with_reducible refine below_drewN ?_ _ | with_reducible refine Below.drew ?_))
                  exact HC1.out.below.mono hwB
              · have hgd2 := HGD.out
                rw [if_neg (by rw [← HFL.out]; exact h200)] at hgd2
                have HGE := hid hgd2
                clear hgd2
                obtain ⟨w2, hup, hm2, hgr, hsz, hoth⟩ := name_insert HC1.out.names mn HME.out
                have hmbne : mb ≠ B + 1 := cell_ne_map HC1.out.names d0
                have e0 : w2.cell? ⟨mb, 0, none⟩ = some (.string mn) := (World.cell?_of_block (hoth mb hmbne)).trans d0
                have e1 : w2.cell? ⟨mb, 1, none⟩ = some (.slice fa fl fcap) := (World.cell?_of_block (hoth mb hmbne)).trans d1
                have hg1 := hgr w1 (grown_refl _ _)
                have HC2 : Hid (CheckInv w B (en ++ [(mn, one)]) es w2) :=
                  ⟨hm2, (hoth _ (by omega)).trans HC1.out.seen, (hoth _ (by omega)).trans HC1.out.box, HC1.out.below.trans ⟨hg1.os, hg1.tape, hg1.output, hg1.size, fun q hq => hoth q (by omega)⟩⟩
                clear hm2 hgr hoth hg1 hmbne hsz
                go_wp2
                go_loopw [59] (fun v59 wi => ∃ j : Nat, j ≤ fl ∧ v59 = .int .i64 j ∧ Hid (fieldsFault n (mf.take j) (mf.drop j) j = fieldsFault n [] mf 0) ∧ Hid (∃ es, CheckInv w B (en ++ [(mn, one)]) es wi ∧ SeenInv k (mf.take j) es)) (fun v59 _ => fl - (intOf v59).toNat)
                case atStart => exact ⟨0, by omega, rfl, hid rfl, es, HC2.out, HSI.out⟩
                case round =>
                  obtain ⟨j, hj, rfl, HJ, HEI⟩ := hrel
                  by_cases hjl : j < fl
                  · obtain ⟨es2, HC3, HS3⟩ : ∃ es, Hid (CheckInv w B (en ++ [(mn, one)]) es wr) ∧ Hid (SeenInv k (mf.take j) es) := HEI.out
                    have hfi : FieldsAt wr (.slice fa mf.length fcap) mf := HFS.out.keep fun p u hu => (Below.cell (p := p) HC3.out.below (by rw [HB.out]; exact World.block_lt_of_cell? w p hu)).trans hu
                    obtain ⟨-, fa', fcap', hv', hfat⟩ := hfi.open
                    cases hv'
                    rw [← HFL.out] at hfat
                    obtain ⟨fb, fo, hfa, hfok, g0, g1, g2, g3, g4, g5⟩ := hfat j hjl
                    have hixf := index_run Tryd.underlying47 size_fld hfa j hjl (cap := fcap)
                    have HFA := hid hfa
                    clear hfa hfat hfi
                    obtain ⟨f, HF⟩ : ∃ f, Hid (f = mf.getD j .zero) := ⟨_, rfl⟩
                    rw [← HF.out] at hfok g0 g1 g2 g3 g4 g5
                    have HFO := hid hfok
                    clear hfok
                    have hfst := fieldsFault_at n mf j (by rw [← HFL.out]; exact hjl)
                    rw [HJ.out, ← HF.out] at hfst
                    have HST := hid hfst
                    clear hfst
                    go_wp2_with fail
                    refine calls_gen _ (fun w4 => Hid (CheckInv w B (en ++ [(mn, one)]) es2 w4)) (HC3.out.alloc _) ?_
                    intro w4 HC4
                    refine (schema_field (f := f) (n := n) HFO.out HC4.out.seen (nameMet (mf.take j) f.name) (numMet (mf.take j) f.number) (HS3.out.name _) (HS3.out.num _)).mono ?_
                    rintro e w5 ⟨rfl, hpost⟩
                    have HPO := hid hpost
                    clear hpost
                    obtain ⟨K, HKK⟩ : ∃ K, Hid (K = fieldFault n (nameMet (mf.take j) f.name) (numMet (mf.take j) f.number) f) := ⟨_, rfl⟩
                    rw [← HKK.out] at HST HPO ⊢
                    by_cases hK : K = 0
                    · subst hK
                      have hfo2 := fieldFault_ok HKK.out.symm
                      have hp : MapIs w5 (B + 1 + 1) metK ((es2 ++ [((((k : Int), f.name, 0) : Met), one)]) ++ [((((k : Int), ⟨#[]⟩, f.number) : Met), one)]) ∧ w4.grownBy w5 (some (B + 1 + 1)) := HPO.out
                      have HC5 : Hid (CheckInv w B (en ++ [(mn, one)]) ((es2 ++ [((((k : Int), f.name, 0) : Met), one)]) ++ [((((k : Int), ⟨#[]⟩, f.number) : Met), one)]) w5) := by
                        have h1 := HC4.out.names.lt
                        have h2 := HC4.out.seen.lt
                        refine ⟨(hp.2.block _ h1 (by simp)).trans HC4.out.names, hp.1, (hp.2.block _ (by omega) (by simp; omega)).trans HC4.out.box, HC4.out.below.trans ⟨hp.2.os, hp.2.tape, hp.2.output, hp.2.size, fun q hq => hp.2.block q (by omega) (by simp; omega)⟩⟩
                      have HS5 : Hid (SeenInv k (mf.take (j + 1)) ((es2 ++ [((((k : Int), f.name, 0) : Met), one)]) ++ [((((k : Int), ⟨#[]⟩, f.number) : Met), one)])) := by
                        have e : mf.take (j + 1) = mf.take j ++ [f] := by
                          rw [HF.out, List.take_succ_eq_append_getElem (by rw [← HFL.out]; exact hjl)]
                          simp [List.getD, show j < mf.length by rw [← HFL.out]; exact hjl]
                        rw [Hid, e]
                        exact HS3.out.step hfo2.1 hfo2.2.2.1
                      clear hp hfo2
                      go_wp2
                      go_roundw
                      case rel =>
                        refine ⟨j + 1, by omega, by go_num, ?_, _, HC5.out, HS5.out⟩
                        have := HST.out
                        first | exact this.symm | (rw [if_pos trivial] at this; exact this.symm)
                      case measure => simp [intOf]; omega
                    · have hp : MapIs w5 (B + 1 + 1) metK es2 ∧ w4.grownBy w5 (some (B + 1 + 1)) := by
                        have := HPO.out
                        unfold FieldPost at this
                        rw [if_neg hK] at this
                        exact this
                      have h1 := HC4.out.names.lt
                      have h2 := HC4.out.seen.lt
                      have hb5 : Box3 w5 B := (hp.2.block _ (by omega) (by simp; omega)).trans HC4.out.box
                      have HB5 : Hid (Below B w w5) := HC4.out.below.trans ⟨hp.2.os, hp.2.tape, hp.2.output, hp.2.size, fun q hq => hp.2.block q (by omega) (by simp; omega)⟩
                      obtain ⟨z0, z1, z2, t0, t1, t2, hBl5⟩ := hb5.cells
                      have HX1 : Hid (x = ((k : Int), (j : Int), K)) := by
                        have := HST.out
                        rw [if_neg hK] at this
                        rw [Hid, HGE.out, this]
                      have hK1 : ((K : Int) == 0) = false := by simp; omega
                      have HK0 := hid hK
                      clear hK hp h1 h2 hb5
                      go_wp2
                      refine bodyPost_ret (v := .tuple #[placeV ((k : Int), (j : Int), K), .int .u8 9]) ?_ rfl ⟨?_, ?_⟩
                      · simp [results, Tryd.results33, go_sem, placeV, z0, z1, z2]
                      · rw [HX1.out]; simp [codeOf, HK0.out]
                      · (repeat (first | with_reducible exact Below.refl _ _ | with_reducible refine Below.setCell ?_ (by first | omega | (simp; omega) | (simp; done)) _ | with_reducible refine Below.alloc ?_ (by first | omega | (simp; omega) | (simp; done)) _ | with_reducible refine below_drewN ?_ _ | with_reducible refine Below.drew ?_))
                        exact HB5.out.mono hwB
                  · obtain rfl : j = fl := by omega
                    obtain ⟨es2, HC3, HS3⟩ : ∃ es, Hid (CheckInv w B (en ++ [(mn, one)]) es wr) ∧ Hid (SeenInv k (mf.take j) es) := HEI.out
                    go_wp2
                    go_roundw
                    case rel =>
                      have e : s.take (k + 1) = s.take k ++ [⟨mn, mf⟩] := by
                        rw [List.take_succ_eq_append_getElem (by rw [← HN.out]; exact hlt)]
                        congr 1
                        have hx := HM.out
                        simp only [List.getD, List.getElem?_eq_getElem (show k < s.length by rw [← HN.out]; exact hlt), Option.getD_some] at hx
                        rw [← hx]
                      refine ⟨k + 1, by omega, by go_num, ?_, _, _, HC3.out, ?_, ?_⟩
                      · have h1 := HJ.out
                        rw [HFL.out, List.drop_length] at h1
                        have h2 := HGE.out
                        rw [← h1] at h2
                        simp only [fieldsFault] at h2
                        exact h2.symm
                      · rw [e]
                        exact NamesInv.step HNI.out ⟨mn, mf⟩
                      · have := HS3.out.next
                        simpa using this
                    case measure => simp [intOf]; omega
          · have hnm2 : nameOk mn = false := by simpa using hnm
            have HX1 : Hid (x = ((k : Int), -1, 2)) := by rw [Hid, HGA.out, if_pos hnm2]
            have HNM := hid hnm2
            clear hnm hnm2
            rw [HNM.out]
            go_wp2
            refine bodyPost_ret (v := .tuple #[placeV ((k : Int), -1, 2), .int .u8 9]) ?_ rfl ⟨?_, ?_⟩
            · simp [results, Tryd.results33, go_sem, placeV, x0, x1, x2]
            · rw [HX1.out]; rfl
            · (repeat (first | with_reducible exact Below.refl _ _ | with_reducible refine Below.setCell ?_ (by first | omega | (simp; omega) | (simp; done)) _ | with_reducible refine Below.alloc ?_ (by first | omega | (simp; omega) | (simp; done)) _ | with_reducible refine below_drewN ?_ _ | with_reducible refine Below.drew ?_))
              exact HC1.out.below.mono hwB
      · obtain ⟨en, es, HCI, -, -⟩ : ∃ en es, Hid (CheckInv w B en es wr) ∧ Hid (NamesInv (s.take k) en) ∧ Hid (SeenInv k [] es) := HI.out
        obtain ⟨x0, x1, x2, y0, y1, y2, hBl⟩ := HCI.out.box.cells
        have HX1 : Hid (x = (0, 0, 0)) := by
          have h1 := HK.out
          rw [List.drop_of_length_le (by rw [← HN.out]; omega)] at h1
          exact h1.symm
        go_wp2
        refine bodyPost_ret (v := .tuple #[placeV (0, 0, 0), .int .u8 0]) ?_ rfl ⟨?_, ?_⟩
        · simp [results, Tryd.results33, go_sem, placeV, x0, x1, x2]
        · rw [HX1.out]; rfl
        · (repeat (first | with_reducible exact Below.refl _ _ | with_reducible refine Below.setCell ?_ (by first | omega | (simp; omega) | (simp; done)) _ | with_reducible refine Below.alloc ?_ (by first | omega | (simp; omega) | (simp; done)) _ | with_reducible refine below_drewN ?_ _ | with_reducible refine Below.drew ?_))
          exact HCI.out.below.mono hwB

set_option maxRecDepth 100000 in
theorem schema_Right {w : World} {v : Value} {s : List Mes} (h : SchemaAt w v s) :
    Calls Tryd.prog 24 #[v] w fun e w' => e = .returned (.bool (sright s)) ∧ Below w.heap.size w w' := by
  have H : Hid (sright s = decide (codeOf (scheck s) = 0)) := by
    unfold Hid sright codeOf
    by_cases e : (scheck s).2.2 = 0 <;> simp [e]
  obtain ⟨x, HX⟩ : ∃ x, Hid (x = scheck s) := ⟨_, rfl⟩
  obtain ⟨c, HC⟩ : ∃ c, Hid (c = codeOf x) := ⟨_, rfl⟩
  go_enter Tryd.func24, Tryd.ntmps24
  go_wp2_with (go_at_call 33; refine (schema_Check h).mono ?_; rintro e w1 ⟨rfl, hb⟩; rw [← HX.out, ← HC.out]; unfold placeV)
  go_ret
  have hz : w.heap.size ≤ w1.heap.size := hb.size
  refine ⟨ret1 ?_, by (repeat (first | with_reducible exact Below.refl _ _ | with_reducible refine Below.setCell ?_ (by first | omega | (simp; omega) | (simp; done)) _ | with_reducible refine Below.alloc ?_ (by first | omega | (simp; omega) | (simp; done)) _ | with_reducible refine below_drewN ?_ _ | with_reducible refine Below.drew ?_)); exact hb⟩
  rw [H.out, ← HX.out, ← HC.out]
  show Value.bool (c == 0) = _
  congr 1

end Go.Proofs.YtgephhmkaonahaaDoor

namespace Go.Proofs.YtgephhmkaonahaaDoor
open Go.RowKit

theorem src_append {P : Program} (w : World) (base : Nat) (t tx ty e : TypeId) (z : Value) (size bytes : Nat) (ht : P.underlying t = some (.slice e)) (hinfo : (P.info? e).map (fun i => (i.zero, i.size, i.bytes)) = some (some z, size, bytes))
    (hzs : z.cells.size = size) (v x : Value) (n m : Nat) (xs news : List Value) (hown : w.ownsRow base e size v n xs) (hx : Src P size tx x m news w)
    (h63 : n + m ≤ 140737488355328) (hbytes : (n + m) * bytes ≤ 140737488355328) (hbase : base ≤ w.heap.size) :
    ∃ v' w', (Builtin.append_ #[t, tx] ty #[v, x]).run P w = .ok v' w' ∧ w'.ownsRow base e size v' (n + m) (xs ++ news) ∧ w.grownBy w' v.ownBlock ∧ (v'.ownBlock = v.ownBlock ∨ v'.ownBlock = some w.heap.size) := by
  obtain ⟨i, hi, hz, hsize, hby⟩ := info_parts hinfo
  subst hsize
  subst hby
  have hl := hx.newsLen
  have h63' : n + m ≤ maxLen := by unfold maxLen; omega
  have hlen : (xs ++ news).length = (n + m) * i.size := by rw [List.length_append, hown.1, hl, Nat.add_mul]
  have grown : ∀ (old : Nat), old < n + m → ∀ (row : Option Nat),
      (w.drew.alloc (.cells ((xs ++ news).toArray ++ Builtin.zeroCells z.cells (grownCap w (n + m) old e - (n + m))) e)).ownsRow base e i.size
        (.slice (some ⟨w.heap.size, 0, none⟩) (n + m) (grownCap w (n + m) old e)) (n + m) (xs ++ news) ∧
      w.grownBy (w.drew.alloc (.cells ((xs ++ news).toArray ++ Builtin.zeroCells z.cells (grownCap w (n + m) old e - (n + m))) e)) row := by
    intro old ho row
    have hge := grownCap_ge w (n + m) old e
    have hcm : grownCap w (n + m) old e ≤ maxLen := grownCap_le_maxLen w (n + m) old e h63'
    refine ⟨⟨hlen, .inr ⟨w.heap.size, _, _, rfl, hbase, heap_alloc_new w.drew _, hge, hcm, ?_, ?_⟩⟩, ⟨rfl, rfl, rfl, by simp, fun k hk _ => heap_alloc_old w.drew _ hk⟩⟩
    · rw [Array.size_append, size_zeroCells, List.size_toArray, hlen, hzs, ← Nat.add_mul]
      congr 1
      omega
    · rw [Array.toList_append, List.take_append_of_le_length (by simpa using Nat.le_of_eq hlen.symm), ← hlen]
      exact List.take_of_length_le (by simp)
  rcases hown.2 with ⟨rfl, rfl⟩ | ⟨g, cap, cur, rfl, hbg, hg, hnc, hcm, hcs, htake⟩
  · have hxs : xs = [] := List.eq_nil_of_length_eq_zero (by simpa using hown.1)
    subst hxs
    by_cases hm : m = 0
    · subst hm
      have hn : news = [] := List.eq_nil_of_length_eq_zero (by simpa using hl)
      subst hn
      refine ⟨.slice none 0 0, w, ?_, World.ownsRow_nil w base e i.size, ⟨rfl, rfl, rfl, Nat.le_refl _, fun _ _ _ => rfl⟩, Or.inl rfl⟩
      rcases hx.kind with ⟨e', hk⟩ | hk <;> simp [Builtin.append_, run_underlying ht, run_underlying hk, sizeOf, typeInfo, hi, hx.len, hx.cells]
    · have hr := run_append_grow_src (P := P) w t tx ty e i z ht hi hz none 0 0 [] (by simp [Builtin.firstCells]) x m news hx (by omega) (by omega) (growslice_fits (by omega) hbytes)
      have hgr := grown 0 (by omega) (Value.ownBlock (.slice none 0 0))
      simp only [Nat.zero_add, List.nil_append] at hgr hr ⊢
      exact ⟨_, _, hr, hgr.1, hgr.2, Or.inr rfl⟩
  · by_cases hroom : n + m ≤ cap
    · have hfit : n * i.size + news.length ≤ cur.size := by rw [hl, hcs, ← Nat.add_mul]; exact Nat.mul_le_mul_right _ hroom
      have hst := run_storeCells_at P g (n * i.size) e news 0 cur w hg (by simpa using hfit) hx.one
      simp only [Nat.add_zero] at hst
      have hr : (Builtin.append_ #[t, tx] ty #[.slice (some ⟨g, 0, none⟩) n cap, x]).run P w = .ok (.slice (some ⟨g, 0, none⟩) (n + m) cap) (w.setRow g (cur.toList.take (n * i.size) ++ news ++ cur.toList.drop (n * i.size + news.length)).toArray) := by
        rcases hx.kind with ⟨e', hk⟩ | hk <;> simp [Builtin.append_, run_underlying ht, run_underlying hk, sizeOf, typeInfo, hi, hx.len, hroom, hx.cells, Addr.add_lit, hst]
      refine ⟨_, _, hr, ⟨hlen, .inr ⟨g, cap, _, rfl, hbg, setRow_heap w g cur _ e _ hg, hroom, hcm, ?_, ?_⟩⟩, ⟨rfl, rfl, rfl, by simp, fun k _ hk => setRow_other w g k _ (fun e => hk (by simp [Value.ownBlock, e]))⟩, Or.inl rfl⟩
      · simp only [List.size_toArray, List.length_append, List.length_take, List.length_drop, Array.length_toList]
        omega
      · rw [htake, ← hlen]
        exact List.take_left
    · have holds : ∀ j u, xs[j]? = some u → w.cell? ((⟨g, 0, none⟩ : Addr).add j) = some u := hown.cells (g := g) rfl
      have hr := run_append_grow_src (P := P) w t tx ty e i z ht hi hz (some ⟨g, 0, none⟩) n cap xs (run_firstCells_some w.drew i.size n ⟨g, 0, none⟩ n cap xs hown.1 (by simpa using holds)) x m news hx (by omega) (by omega) (growslice_fits (by omega) hbytes)
      have hgr := grown cap (by omega) (Value.ownBlock (.slice (some ⟨g, 0, none⟩) n cap))
      exact ⟨_, _, hr, hgr.1, hgr.2, Or.inr rfl⟩

/-- the operation, of two types, by its run -/
theorem wp_append2_eq {P : Program} {w : World} {o : Oper} {a : Act} {K : Act → World → Prop} {Q : Exit → Act → World → Prop} (s x : Operand) (t u : TypeId)
    (ho : o.op = .call { callee := .builtin .append, args := #[s, x], argTypes := #[t, u] }) (v xv : Value) (hs : a.eval s = v) (hx : a.eval x = xv) {v' : Value} {w' : World}
    (hr : (Builtin.append_ #[t, u] o.type #[v, xv]).run P w = .ok v' w') (h : K (a.put o.dst v') w') : o.wp P a w K Q := by
  unfold Oper.wp execOp
  simp only [ho, resolve, invoke, builtin, Sem.run_bind, Sem.run_pure, Result.andThen_ok, List.map_toArray, List.map_cons, List.map_nil, hs, hx, hr]
  exact h
theorem wpList_append2_eq {P : Program} {w : World} {ops : Array Oper} {rest : List Oper} {o : Oper} {a : Act} {Q : Exit → Act → World → Prop} (hgd : o.guard = none) (s x : Operand) (t u : TypeId)
    (ho : o.op = .call { callee := .builtin .append, args := #[s, x], argTypes := #[t, u] }) (v xv : Value) (hs : a.eval s = v) (hx : a.eval x = xv) {v' : Value} {w' : World}
    (hr : (Builtin.append_ #[t, u] o.type #[v, xv]).run P w = .ok v' w') (h : wpList P ops Q rest (a.put o.dst v') w') : wpList P ops Q (o :: rest) a w :=
  wpList_plain hgd fun _ hK => wp_append2_eq s x t u ho v xv hs hx hr (hK _ _ h)

theorem wpListIn_append2_eq {F : Fence} {n : Nat} {P : Program} {w : World} {ops : Array Oper} {rest : List Oper} {o : Oper} {a : Act} {Q : Exit → Act → World → Prop} (hgd : o.guard = none) (s x : Operand) (t u : TypeId)
    (ho : o.op = .call { callee := .builtin .append, args := #[s, x], argTypes := #[t, u] }) (v xv : Value) (hs : a.eval s = v) (hx : a.eval x = xv) {v' : Value} {w' : World}
    (hr : (Builtin.append_ #[t, u] o.type #[v, xv]).run P w = .ok v' w') (h : wpListIn F n P ops Q rest (a.put o.dst v') w') : wpListIn F n P ops Q (o :: rest) a w := by
  refine wpListIn_plain hgd fun K hK => ?_
  unfold Oper.wpIn
  refine ⟨?_, ?_⟩
  · simp [Oper.about, ho, resolve, Target.leads, Sem.run_pure]
  · rw [Oper.semAt_plain F _ _ (by rw [ho]; intro c hc'; cases hc')]
    simp [execOp, ho, resolve, invoke, builtin, hs, hx, hr, Result.andThen]
    exact hK _ _ h

end Go.Proofs.YtgephhmkaonahaaDoor

namespace Go.Proofs.YtgephhmkaonahaaDoor
open Go.RowKit

/-- a block of one's own, known whole -/
def Blk (w : World) (b : Nat) (cs : List Value) (T : TypeId) : Prop := w.heap[b]? = some (.cells cs.toArray T (0, 0))
theorem Blk.cell {w : World} {b : Nat} {cs : List Value} {T : TypeId} (h : Blk w b cs T) (j : Nat) (u : Value) (hu : cs[j]? = some u) : w.cell? ⟨b, j, none⟩ = some u := by
  rw [cell_of_row _ _ _ _ T (0, 0) h]; simpa using hu
theorem Blk.free {w : World} {b : Nat} {cs : List Value} {T : TypeId} (h : Blk w b cs T) (j : Nat) : w.frozen? ⟨b, j, none⟩ = false := by
  unfold Blk at h
  simp [World.frozen?, h]
theorem Blk.lt {w : World} {b : Nat} {cs : List Value} {T : TypeId} (h : Blk w b cs T) : b < w.heap.size := by
  unfold Blk at h
  rw [Array.getElem?_eq_some_iff] at h
  exact h.1
theorem Blk.below {w w' : World} {b : Nat} {cs : List Value} {T : TypeId} (h : Blk w b cs T) (hb : Below w.heap.size w w') : Blk w' b cs T := (hb.block b h.lt).trans h
theorem Blk.alloc {w : World} {b : Nat} {cs : List Value} {T : TypeId} (h : Blk w b cs T) (o : Obj) : Blk (w.alloc o) b cs T := (Below.heap_alloc w o b h.lt).trans h
theorem Blk.new (w : World) (cs : List Value) (T : TypeId) : Blk (w.alloc (.cells cs.toArray T)) w.heap.size cs T := heap_alloc_new w _

theorem Blk.set_other {w : World} {b : Nat} {cs : List Value} {T : TypeId} (h : Blk w b cs T) (a : Addr) (v : Value) (hne : b ≠ a.block) : Blk (w.setCell a v) b cs T := (Below.heap_setCell w a v b hne).trans h
theorem Blk.set {w : World} {b : Nat} {cs : List Value} {T : TypeId} (h : Blk w b cs T) (j : Nat) (v : Value) : Blk (w.setCell ⟨b, j, none⟩ v) b (cs.set j v) T := by
  unfold Blk at *
  obtain ⟨hlt, hk⟩ := Array.getElem?_eq_some_iff.1 h
  show (w.heap.modify b _)[b]? = _
  rw [Array.getElem?_eq_getElem (by rw [Array.size_modify]; exact hlt), Array.getElem_modify_self, hk]
  simp
theorem cell_set_other (w : World) (a : Addr) (v : Value) (q j : Nat) (hne : q ≠ a.block) : (w.setCell a v).cell? ⟨q, j, none⟩ = w.cell? ⟨q, j, none⟩ := World.cell?_of_block (Below.heap_setCell w a v q hne)
theorem cell_set7 (w : World) (p q j : Nat) (hne : q ≠ p) (v0 v1 v2 v3 v4 v5 v6 : Value) :
    (((((((w.setCell ⟨p, 0, none⟩ v0).setCell ⟨p, 1, none⟩ v1).setCell ⟨p, 2, none⟩ v2).setCell ⟨p, 3, none⟩ v3).setCell ⟨p, 4, none⟩ v4).setCell ⟨p, 5, none⟩ v5).setCell ⟨p, 6, none⟩ v6).cell? ⟨q, j, none⟩ = w.cell? ⟨q, j, none⟩ := by
  repeat rw [cell_set_other _ _ _ _ _ hne]

theorem Blk.new' (w : World) (cs : List Value) (T : TypeId) (n : Nat) (h : n = w.heap.size) : Blk (w.alloc (.cells cs.toArray T)) n cs T := by subst h; exact Blk.new w cs T

theorem row_keep {w w' : World} {base size n : Nat} {e : TypeId} {v : Value} {xs : List Value} (h : w.ownsRow base e size v n xs)
    (hk : ∀ b cur, base ≤ b → w.heap[b]? = some (.cells cur e (0, 0)) → w'.heap[b]? = w.heap[b]?) : w'.ownsRow base e size v n xs := by
  refine ⟨h.1, ?_⟩
  rcases h.2 with h2 | ⟨g, cap, cur, hv, hb, hg, hnc, hcm, hcs, ht⟩
  · exact .inl h2
  · exact .inr ⟨g, cap, cur, hv, hb, (hk g cur hb hg).trans hg, hnc, hcm, hcs, ht⟩

theorem Blk.grown {w w' : World} {b r : Nat} {cs : List Value} {T : TypeId} (h : Blk w b cs T) (hg : w.grownBy w' (some r)) (hne : b ≠ r) : Blk w' b cs T :=
  (hg.block b h.lt (fun e => hne (Option.some.inj e))).trans h
theorem grown_grown {w w1 w2 : World} {r : Nat} (h : w.grownBy w1 (some r)) (hg : w1.grownBy w2 (some r)) : w.grownBy w2 (some r) :=
  ⟨hg.os.trans h.os, hg.tape.trans h.tape, hg.output.trans h.output, Nat.le_trans h.size hg.size, fun k hk hr => (hg.block k (Nat.lt_of_lt_of_le hk h.size) hr).trans (h.block k hk hr)⟩

theorem Blk.put {W : World} {b r : Nat} {cs : List Value} {T : TypeId} (h : Blk W b cs T) (o : Obj) (hne : b ≠ r) : Blk (W.putObj r o) b cs T :=
  (World.putObj_heap_other hne).trans h

theorem below_put {H : Nat} (W : World) (l : Nat) (o : Obj) (h : H ≤ l) : Below H W (W.putObj l o) :=
  ⟨rfl, rfl, rfl, by simp [World.putObj], fun b hb => World.putObj_heap_other (by omega)⟩

/-- Two results in boxes of their own are stored, then the block of the rounds' deferred calls is shut. -/
theorem two_results {w W : World} {H B0 B1 BD : Nat} {u0 u1 : Value} {T0 T1 : TypeId} (r0 : Blk W B0 [u0] T0) (r1 : Blk W B1 [u1] T1) (hD : W.heap[BD]? = some (.deferred (some [])))
    (h01 : B0 ≠ B1) (h0 : H ≤ B0) (h1 : H ≤ B1) (hHD : H ≤ BD) (hB : Below H w W) (x y : Value) :
    ((W.setCell ⟨B0, 0, none⟩ x).setCell ⟨B1, 0, none⟩ y).heap[BD]? = some (.deferred (some [])) ∧
    (((W.setCell ⟨B0, 0, none⟩ x).setCell ⟨B1, 0, none⟩ y).putObj BD (.deferred none)).cell? ⟨B0, 0, none⟩ = some x ∧
    (((W.setCell ⟨B0, 0, none⟩ x).setCell ⟨B1, 0, none⟩ y).putObj BD (.deferred none)).cell? ⟨B1, 0, none⟩ = some y ∧
    Below H w (((W.setCell ⟨B0, 0, none⟩ x).setCell ⟨B1, 0, none⟩ y).putObj BD (.deferred none)) := by
  have n0 : BD ≠ B0 := by rintro rfl; unfold Blk at r0; rw [r0] at hD; cases hD
  have n1 : BD ≠ B1 := by rintro rfl; unfold Blk at r1; rw [r1] at hD; cases hD
  have d1 : (W.setCell ⟨B0, 0, none⟩ x).heap[BD]? = some (.deferred (some [])) := (Below.heap_setCell W _ _ _ n0).trans hD
  have d2 : ((W.setCell ⟨B0, 0, none⟩ x).setCell ⟨B1, 0, none⟩ y).heap[BD]? = some (.deferred (some [])) := (Below.heap_setCell _ _ _ _ n1).trans d1
  have s0 : Blk (W.setCell ⟨B0, 0, none⟩ x) B0 [x] T0 := r0.set 0 x
  have s1 : Blk (W.setCell ⟨B0, 0, none⟩ x) B1 [u1] T1 := r1.set_other _ _ (Ne.symm h01)
  have t0 : Blk ((W.setCell ⟨B0, 0, none⟩ x).setCell ⟨B1, 0, none⟩ y) B0 [x] T0 := s0.set_other _ _ h01
  have t1 : Blk ((W.setCell ⟨B0, 0, none⟩ x).setCell ⟨B1, 0, none⟩ y) B1 [y] T1 := s1.set 0 y
  refine ⟨d2, (t0.put _ (Ne.symm n0)).cell 0 _ rfl, (t1.put _ (Ne.symm n1)).cell 0 _ rfl, ?_⟩
  have b2 : Below H w ((W.setCell ⟨B0, 0, none⟩ x).setCell ⟨B1, 0, none⟩ y) := (hB.setCell h0 _).setCell h1 _
  exact b2.trans (below_put _ _ _ hHD)
/-- Results that a round has stored already. -/
theorem two_results0 {w W : World} {H B0 B1 BD : Nat} {u0 u1 : Value} {T0 T1 : TypeId} (r0 : Blk W B0 [u0] T0) (r1 : Blk W B1 [u1] T1) (hD : W.heap[BD]? = some (.deferred (some [])))
    (hHD : H ≤ BD) (hB : Below H w W) :
    (W.putObj BD (.deferred none)).cell? ⟨B0, 0, none⟩ = some u0 ∧ (W.putObj BD (.deferred none)).cell? ⟨B1, 0, none⟩ = some u1 ∧ Below H w (W.putObj BD (.deferred none)) := by
  have n0 : BD ≠ B0 := by rintro rfl; unfold Blk at r0; rw [r0] at hD; cases hD
  have n1 : BD ≠ B1 := by rintro rfl; unfold Blk at r1; rw [r1] at hD; cases hD
  exact ⟨(r0.put _ (Ne.symm n0)).cell 0 _ rfl, (r1.put _ (Ne.symm n1)).cell 0 _ rfl, hB.trans (below_put _ _ _ hHD)⟩


end Go.Proofs.YtgephhmkaonahaaDoor

namespace Go.Proofs.YtgephhmkaonahaaDoor
open Go.RowKit

/-! Literals: a block as a slice. -/
theorem seg_blk {w : World} {g : Nat} {cs : List Value} {T : TypeId} (h : Blk w g cs T) (size n : Nat) (hl : cs.length = n * size) (hn : n ≤ 140737488355328) : Seg w (.slice (some ⟨g, 0, none⟩) n n) size n cs :=
  ⟨hl, hn, _, _, rfl, Nat.le_refl _, by omega, by simp, fun j u hu => ⟨g, 0, rfl, by rw [Nat.zero_add]; exact h.cell j u hu⟩⟩
theorem words_blk {w : World} {g : Nat} {l : List Nat} {T : TypeId} (h : Blk w g (l.map wordV) T) (n : Nat) (hl : n = l.length) (hn : n ≤ 140737488355328) (h64 : ∀ x ∈ l, x < 2 ^ 64) : WordsAt w (.slice (some ⟨g, 0, none⟩) n n) l := by
  subst hl
  exact ⟨seg_blk h 1 _ (by simp) hn, h64⟩
theorem words_nil (w : World) : WordsAt w (.slice none 0 0) [] := ⟨⟨rfl, by simp, _, _, rfl, Nat.le_refl _, by omega, fun _ => rfl, fun j u hu => by simp at hu⟩, by simp⟩
theorem strs_nil (w : World) : StrsAt w (.slice none 0 0) [] := ⟨⟨rfl, by simp, _, _, rfl, Nat.le_refl _, by omega, fun _ => rfl, fun j u hu => by simp at hu⟩, by simp⟩
theorem rowsAt_nil {α : Type} (P : World → List Value → α → Prop) (k : Nat) (w : World) : RowsAt P k w (.slice none 0 0) [] := ⟨[], rfl, by simp, ⟨by simp, by simp, _, _, rfl, Nat.le_refl _, by omega, fun _ => rfl, fun j u hu => by simp at hu⟩, by simp⟩
theorem fields_blk {w : World} {g : Nat} {fs : List Fld} {T : TypeId} (h : Blk w g (fs.flatMap Fld.cells) T) (n : Nat) (hl : n = fs.length) (hn : n ≤ 140737488355328) (hok : ∀ f ∈ fs, f.Ok) : FieldsAt w (.slice (some ⟨g, 0, none⟩) n n) fs := by
  subst hl
  refine ⟨seg_blk h 6 _ ?_ hn, hok⟩
  clear h hok hn
  induction fs with
  | nil => rfl
  | cons f r ih => rw [List.flatMap_cons, List.length_append, ih, List.length_cons, Nat.succ_mul]; show 6 + _ = _; omega
theorem schema_one {w : World} {g : Nat} {name : ByteArray} {fs : List Fld} {fv : Value} {T : TypeId} (h : Blk w g [.string name, fv] T) (hn : name.size ≤ 140737488355328) (hf : FieldsAt w fv fs) : SchemaAt w (.slice (some ⟨g, 0, none⟩) 1 1) [⟨name, fs⟩] := by
  refine ⟨[fv], rfl, seg_blk h 2 1 rfl (by omega), by simpa using hn, fun i hi => ?_⟩
  have : i = 0 := by simp at hi; omega
  subst this
  exact hf
theorem vals_one {d : Nat} {w : World} {g : Nat} {wv tv sv : Value} {x : Val (M d)} {T : TypeId} (h : Blk w g [.int .i64 x.num, wv, tv, sv] T) (hv : ValAt (MsgAt d) w (.agg #[.int .i64 x.num, wv, tv, sv]) x) : ValsAt (MsgAt d) w (.slice (some ⟨g, 0, none⟩) 1 1) [x] := by
  refine ⟨[[.int .i64 x.num, wv, tv, sv]], rfl, by simp, by simpa using seg_blk h 4 1 rfl (by omega), fun i r y hr hy => ?_⟩
  match i with
  | 0 =>
    simp at hr hy
    subst hr
    subst hy
    exact hv
  | i + 1 => simp at hr


end Go.Proofs.YtgephhmkaonahaaDoor
