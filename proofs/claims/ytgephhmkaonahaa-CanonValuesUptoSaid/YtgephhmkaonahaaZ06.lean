/- What the document's Check, Right and Field of schemas return, of any schema: scheck, sright, fieldAt. No condition beyond that the argument reads as a schema. What valid.Args and the document's Args return: argsCode; which field has a number, by the document's Field, by slices.IndexFunc with any closure, by view.field. No condition beyond that the arguments read as data. What view.Look and the document's Look return of any bytes and any message: vlook. No condition beyond that the arguments read as data. -/
import Derived.Test.YtgephhmkaonahaaZ02
import Derived.Test.YtgephhmkaonahaaZ05
import Derived.Deep.RegionWith
import Derived.Deep.RegionHeld3
namespace Go.Proofs.Ytgephhmkaonahaa
open Go.RowKit

theorem mesMet_step (s : List Mes) (j : Nat) (t : ByteArray) (hj : j < s.length) : mesMet (s.take (j + 1)) t = (mesMet (s.take j) t || decide ((s.getD j .zero).name = t)) := by
  have e : s.getD j .zero = s[j] := by simp [List.getD, hj]
  rw [List.take_succ_eq_append_getElem hj, e]
  simp only [mesMet, List.any_append, List.any_cons, List.any_nil, Bool.or_false]

set_option maxRecDepth 100000 in
set_option maxHeartbeats 20000000 in
theorem ref07_Check {w : World} {v : Value} {s : List Mes} (h : SchemaAt w v s) :
    Calls Try.prog 53 #[v] w fun e w' => e = .returned (.tuple #[.int .i64 (scheck s).1, .int .i64 (scheck s).2.1, .int .i64 (scheck s).2.2]) ∧ Below w.heap.size w w' := by
  obtain ⟨hlen, a, cap, rfl, hat⟩ := h.open
  have HAT := hid hat
  clear hat
  obtain ⟨n, HN⟩ : ∃ n, Hid (n = s.length) := ⟨_, rfl⟩
  rw [← HN.out] at hlen h ⊢
  obtain ⟨x, HX⟩ : ∃ x, Hid (x = scheck s) := ⟨_, rfl⟩
  rw [← HX.out]
  by_cases hbig : n = 0 ∨ 100 < n
  · obtain rfl : x = (-1, -1, 1) := by
      rw [HX.out, scheck, if_pos (by rw [← HN.out]; omega)]
    rcases hbig with hb | hb
    · subst hb
      go_enter Try.func53, Try.ntmps53
      go_wp2
      go_ret3
      exact ⟨rfl, by (repeat (first | with_reducible exact Below.refl _ _ | with_reducible refine Below.setCell ?_ (by first | omega | (simp; omega) | (simp; done)) _ | with_reducible refine Below.alloc ?_ (by first | omega | (simp; omega) | (simp; done)) _ | with_reducible refine below_drewN ?_ _ | with_reducible refine Below.drew ?_))⟩
    · have h0 : ((n : Int) == 0) = false := by simp; omega
      go_enter Try.func53, Try.ntmps53
      go_wp2
      go_ret3
      exact ⟨rfl, by (repeat (first | with_reducible exact Below.refl _ _ | with_reducible refine Below.setCell ?_ (by first | omega | (simp; omega) | (simp; done)) _ | with_reducible refine Below.alloc ?_ (by first | omega | (simp; omega) | (simp; done)) _ | with_reducible refine below_drewN ?_ _ | with_reducible refine Below.drew ?_))⟩
  · have hn1 : 1 ≤ n := by omega
    have hn2 : n ≤ 100 := by omega
    have h0 : ((n : Int) == 0) = false := by simp; omega
    clear hbig
    have HGO : Hid (scheckGo n [] s 0 = x) := by rw [Hid, HX.out, scheck, if_neg (by rw [← HN.out]; omega), HN.out]
    go_enter Try.func53, Try.ntmps53
    go_wp2
    go_loopw [5] (fun v5 wr => ∃ i : Nat, i ≤ n ∧ v5 = .int .i64 i ∧ Hid (scheckGo n (s.take i) (s.drop i) i = x) ∧ Hid (Below w.heap.size w wr)) (fun v5 _ => n - (intOf v5).toNat)
    case atStart => exact ⟨0, by omega, rfl, HGO.out, Below.refl _ _⟩
    case round =>
      obtain ⟨i, hi, rfl, HK, HBEL⟩ := hrel
      by_cases hlt : i < n
      · have hgo := scheckGo_at n s i (by rw [← HN.out]; exact hlt)
        rw [HK.out] at hgo
        have HGA := hid hgo
        clear hgo
        have hat := HAT.out
        obtain ⟨b, o, fv, ha, hnsz, hc0, hc1, hfs⟩ := hat i (by rw [← HN.out]; exact hlt)
        have hix := index_run Try.underlying25 size_mes ha i hlt (cap := cap)
        obtain ⟨m, HM⟩ : ∃ m, Hid (m = s.getD i .zero) := ⟨_, rfl⟩
        rw [← HM.out] at hnsz hc0 hfs HGA
        obtain ⟨mn, mf⟩ := m
        simp only at hnsz hc0 hfs HGA
        obtain ⟨hflen, fa, fcap, rfl, -⟩ := hfs.open
        obtain ⟨fl, HFL⟩ : ∃ fl, Hid (fl = mf.length) := ⟨_, rfl⟩
        rw [← HFL.out] at hflen hc1
        have HA := hid ha
        have HC := hid (And.intro hc0 hc1)
        clear ha hfs hat hc0 hc1
        go_wp2
        go_loopw [6, 7] (fun v6 v7 wr => ∃ j : Nat, j ≤ i ∧ v7 = .int .i64 j ∧ v6 = .bool (mesMet (s.take j) mn) ∧ Hid (Below w.heap.size w wr)) (fun _ v7 _ => i - (intOf v7).toNat)
        case atStart => exact ⟨0, by omega, rfl, rfl, HBEL.out⟩
        case round =>
          obtain ⟨j, hj, rfl, rfl, HB2⟩ := hrel
          have hkw : ∀ p u, w.cell? p = some u → wr.cell? p = some u := fun p u hu => (Below.cell (p := p) HB2.out (World.block_lt_of_cell? w p hu)).trans hu
          have c0 := hkw _ _ HC.out.1
          have c1 := hkw _ _ HC.out.2
          have HKW := hid hkw
          clear hkw
          obtain ⟨bn, HBN⟩ : ∃ bn, Hid (bn = mesMet (s.take j) mn) := ⟨_, rfl⟩
          rw [← HBN.out]
          by_cases hjl : j < i
          · have hat := HAT.out
            obtain ⟨b2, o2, fv2, ha2, -, q0, -, -⟩ := hat j (by rw [← HN.out]; omega)
            have hixj := index_run Try.underlying25 size_mes ha2 j (len := n) (by omega) (cap := cap)
            have hkw := HKW.out
            have r0 := hkw _ _ q0
            have HA2 := hid ha2
            clear hkw ha2 hat q0
            obtain ⟨g, HG⟩ : ∃ g, Hid (g = s.getD j .zero) := ⟨_, rfl⟩
            rw [← HG.out] at r0
            have hb1 := str_beq g.name mn
            have HN1 := hid (mesMet_step s j mn (by rw [← HN.out]; omega))
            rw [← HBN.out, ← HG.out] at HN1
            cases bn
            all_goals
              go_wp2
              go_quiet (fail)
              go_wp2
              go_roundw
              case rel => exact ⟨j + 1, by omega, by go_num, by rw [HN1.out]; simp, below_drewN HB2.out _⟩
              case measure => simp [intOf]; omega
          · obtain rfl : j = i := by omega
            go_wp2_with fail
            refine (ref07_Name mn (by omega) _).mono ?_
            rintro e w' ⟨rfl, rfl⟩
            by_cases hnm : nameOk mn = true
            · have HNM := hid hnm
              clear hnm
              have hgb := HGA.out
              rw [if_neg (by rw [HNM.out]; decide), ← HBN.out] at hgb
              have HGC := hid hgb
              clear hgb
              rw [HNM.out]
              cases bn with
              | true =>
                have HX1 : Hid (x = ((j : Int), -1, 3)) := by rw [Hid, HGC.out]; rfl
                go_wp2
                go_ret3
                exact ⟨by rw [HX1.out]; rfl, by (repeat (first | with_reducible exact Below.refl _ _ | with_reducible refine Below.setCell ?_ (by first | omega | (simp; omega) | (simp; done)) _ | with_reducible refine Below.alloc ?_ (by first | omega | (simp; omega) | (simp; done)) _ | with_reducible refine below_drewN ?_ _ | with_reducible refine Below.drew ?_)); exact HB2.out⟩
              | false =>
                have hgc := HGC.out
                rw [if_neg (by decide)] at hgc
                have HGD := hid hgc
                clear hgc
                by_cases h200 : 200 < fl
                · have HX1 : Hid (x = ((j : Int), -1, 4)) := by rw [Hid, HGD.out, if_pos (by rw [← HFL.out]; exact h200)]
                  go_wp2
                  go_ret3
                  exact ⟨by rw [HX1.out]; rfl, by (repeat (first | with_reducible exact Below.refl _ _ | with_reducible refine Below.setCell ?_ (by first | omega | (simp; omega) | (simp; done)) _ | with_reducible refine Below.alloc ?_ (by first | omega | (simp; omega) | (simp; done)) _ | with_reducible refine below_drewN ?_ _ | with_reducible refine Below.drew ?_)); exact HB2.out⟩
                · have hgd2 := HGD.out
                  rw [if_neg (by rw [← HFL.out]; exact h200)] at hgd2
                  have HGE := hid hgd2
                  clear hgd2
                  go_wp2
                  go_loopw [8] (fun v8 wr => ∃ q : Nat, q ≤ fl ∧ v8 = .int .i64 q ∧ Hid (fieldsFault n (mf.take q) (mf.drop q) q = fieldsFault n [] mf 0) ∧ Hid (Below w.heap.size w wr)) (fun v8 _ => fl - (intOf v8).toNat)
                  case atStart => exact ⟨0, by omega, rfl, hid rfl, HB2.out⟩
                  case round =>
                    obtain ⟨q, hq, rfl, HQ, HB3⟩ := hrel
                    have hkw2 : ∀ p u, w.cell? p = some u → wr.cell? p = some u := fun p u hu => (Below.cell (p := p) HB3.out (World.block_lt_of_cell? w p hu)).trans hu
                    have c0' := hkw2 _ _ HC.out.1
                    have c1' := hkw2 _ _ HC.out.2
                    have HKW2 := hid hkw2
                    clear hkw2
                    by_cases hql : q < fl
                    · have hsr : SchemaAt wr (.slice a n cap) s := h.keep HKW2.out
                      have HSR := hid hsr
                      clear hsr
                      obtain ⟨f, HF⟩ : ∃ f, Hid (f = mf.getD q .zero) := ⟨_, rfl⟩
                      have hfst := fieldsFault_at n mf q (by rw [← HFL.out]; exact hql)
                      rw [HQ.out, ← HF.out] at hfst
                      have HST := hid hfst
                      clear hfst
                      go_wp2_with fail
                      refine (ref07_Fault HSR.out j q (by rw [← HN.out]; exact hlt) mf (by rw [← HM.out]) (by rw [← HFL.out]; exact hql) f HF.out).mono ?_
                      rintro e w5 ⟨rfl, hb5⟩
                      rw [← HN.out]
                      obtain ⟨K, HKK⟩ : ∃ K, Hid (K = fieldFault n (nameMet (mf.take q) f.name) (numMet (mf.take q) f.number) f) := ⟨_, rfl⟩
                      rw [← HKK.out] at HST ⊢
                      have HB5 : Hid (Below w.heap.size w w5) := below_step HB3.out hb5 HB3.out.size
                      clear hb5
                      by_cases hK : K = 0
                      · subst hK
                        go_wp2
                        go_roundw
                        case rel =>
                          refine ⟨q + 1, by omega, by go_num, ?_, HB5.out⟩
                          have := HST.out
                          first | exact this.symm | (rw [if_pos trivial] at this; exact this.symm) | (rw [if_pos rfl] at this; exact this.symm)
                        case measure => simp [intOf]; omega
                      · have hKp : 0 < K := by omega
                        have HX1 : Hid (x = ((j : Int), (q : Int), K)) := by
                          have := HST.out
                          rw [if_neg hK] at this
                          rw [Hid, HGE.out, this]
                        clear hK
                        go_wp2
                        go_ret3
                        exact ⟨by rw [HX1.out]; rfl, by (repeat (first | with_reducible exact Below.refl _ _ | with_reducible refine Below.setCell ?_ (by first | omega | (simp; omega) | (simp; done)) _ | with_reducible refine Below.alloc ?_ (by first | omega | (simp; omega) | (simp; done)) _ | with_reducible refine below_drewN ?_ _ | with_reducible refine Below.drew ?_)); exact HB5.out⟩
                    · obtain rfl : q = fl := by omega
                      go_wp2
                      go_roundw
                      case rel =>
                        refine ⟨j + 1, by omega, by go_num, ?_, HB3.out⟩
                        have h1 := HQ.out
                        rw [HFL.out, List.drop_length] at h1
                        have h2 := HGE.out
                        rw [← h1] at h2
                        simp only [fieldsFault] at h2
                        exact h2.symm
                      case measure => simp [intOf]; omega
            · have hnm2 : nameOk mn = false := by simpa using hnm
              have HX1 : Hid (x = ((j : Int), -1, 2)) := by rw [Hid, HGA.out, if_pos hnm2]
              have HNM := hid hnm2
              clear hnm hnm2
              rw [HNM.out]
              go_wp2
              go_ret3
              exact ⟨by rw [HX1.out]; rfl, by (repeat (first | with_reducible exact Below.refl _ _ | with_reducible refine Below.setCell ?_ (by first | omega | (simp; omega) | (simp; done)) _ | with_reducible refine Below.alloc ?_ (by first | omega | (simp; omega) | (simp; done)) _ | with_reducible refine below_drewN ?_ _ | with_reducible refine Below.drew ?_)); exact HB2.out⟩
      · have HX1 : Hid (x = (0, 0, 0)) := by
          have h1 := HK.out
          rw [List.drop_of_length_le (by rw [← HN.out]; omega)] at h1
          exact h1.symm
        go_wp2
        go_ret3
        exact ⟨by rw [HX1.out]; rfl, by (repeat (first | with_reducible exact Below.refl _ _ | with_reducible refine Below.setCell ?_ (by first | omega | (simp; omega) | (simp; done)) _ | with_reducible refine Below.alloc ?_ (by first | omega | (simp; omega) | (simp; done)) _ | with_reducible refine below_drewN ?_ _ | with_reducible refine Below.drew ?_)); exact HBEL.out⟩

set_option maxRecDepth 100000 in
theorem ref07_Right {w : World} {v : Value} {s : List Mes} (h : SchemaAt w v s) :
    Calls Try.prog 27 #[v] w fun e w' => e = .returned (.bool (sright s)) ∧ Below w.heap.size w w' := by
  obtain ⟨x, HX⟩ : ∃ x, Hid (x = scheck s) := ⟨_, rfl⟩
  have H : Hid (sright s = decide (x.2.2 = 0)) := by rw [Hid, HX.out]; rfl
  obtain ⟨x1, x2, x3⟩ := x
  go_enter Try.func27, Try.ntmps27
  go_wp2_with (go_at_call 53; refine (ref07_Check h).mono ?_; rintro e w1 ⟨rfl, hb⟩; rw [← HX.out])
  go_ret
  refine ⟨ret1 ?_, by (repeat (first | with_reducible exact Below.refl _ _ | with_reducible refine Below.setCell ?_ (by first | omega | (simp; omega) | (simp; done)) _ | with_reducible refine Below.alloc ?_ (by first | omega | (simp; omega) | (simp; done)) _ | with_reducible refine below_drewN ?_ _ | with_reducible refine Below.drew ?_)); exact hb⟩
  rw [H.out]
  show Value.bool ((x3 : Int) == 0) = _
  congr 1
  rw [Bool.eq_iff_iff]
  simp

end Go.Proofs.Ytgephhmkaonahaa

namespace Go.Proofs.Ytgephhmkaonahaa
open Go.RowKit

def argsCode (s : List Mes) (root d : Int) : Nat := if sright s = false then 9 else if root < 0 ∨ (s.length : Int) ≤ root ∨ d < 0 ∨ 64 < d then 2 else 0

set_option maxRecDepth 100000 in
set_option maxHeartbeats 2000000 in
theorem valid_Args {w : World} {v : Value} {s : List Mes} (h : SchemaAt w v s) (root d : Int) :
    Calls Try.prog 41 #[v, .int .i64 root, .int .i64 d] w fun e w' => e = .returned (.int .u8 (argsCode s root d)) ∧ Below w.heap.size w w' := by
  obtain ⟨hlen, a, cap, rfl, -⟩ := h.open
  obtain ⟨n, HN⟩ : ∃ n, Hid (n = s.length) := ⟨_, rfl⟩
  obtain ⟨x, HX⟩ : ∃ x, Hid (x = argsCode s root d) := ⟨_, rfl⟩
  rw [← HX.out]
  unfold argsCode at HX
  rw [← HN.out] at HX hlen h ⊢
  cases hs : sright s with
  | false =>
    have HS := hid hs
    clear hs
    obtain rfl : x = 9 := by rw [HX.out, if_pos HS.out]
    go_enter Try.func41, Try.ntmps41
    go_wp2_with (go_at_call 45; refine (schema_Right h).mono ?_; rintro e w1 ⟨rfl, hb⟩; rw [HS.out])
    go_ret
    exact ⟨rfl, hb⟩
  | true =>
    have HS := hid hs
    clear hs
    have HX1 : Hid (x = if root < 0 ∨ (n : Int) ≤ root ∨ d < 0 ∨ 64 < d then 2 else 0) := by rw [Hid, HX.out, if_neg (by rw [HS.out]; decide)]
    by_cases c1 : root < 0
    · obtain rfl : x = 2 := by rw [HX1.out, if_pos (by omega)]
      go_enter Try.func41, Try.ntmps41
      go_wp2_with (go_at_call 45; refine (schema_Right h).mono ?_; rintro e w1 ⟨rfl, hb⟩; rw [HS.out])
      go_ret
      exact ⟨rfl, hb⟩
    · by_cases c2 : (n : Int) ≤ root
      · obtain rfl : x = 2 := by rw [HX1.out, if_pos (by omega)]
        go_enter Try.func41, Try.ntmps41
        go_wp2_with (go_at_call 45; refine (schema_Right h).mono ?_; rintro e w1 ⟨rfl, hb⟩; rw [HS.out])
        go_ret
        exact ⟨rfl, hb⟩
      · by_cases c3 : d < 0
        · obtain rfl : x = 2 := by rw [HX1.out, if_pos (by omega)]
          go_enter Try.func41, Try.ntmps41
          go_wp2_with (go_at_call 45; refine (schema_Right h).mono ?_; rintro e w1 ⟨rfl, hb⟩; rw [HS.out])
          go_ret
          exact ⟨rfl, hb⟩
        · by_cases c4 : 64 < d
          · obtain rfl : x = 2 := by rw [HX1.out, if_pos (by omega)]
            go_enter Try.func41, Try.ntmps41
            go_wp2_with (go_at_call 45; refine (schema_Right h).mono ?_; rintro e w1 ⟨rfl, hb⟩; rw [HS.out])
            go_ret
            exact ⟨rfl, hb⟩
          · obtain rfl : x = 0 := by rw [HX1.out, if_neg (by omega)]
            go_enter Try.func41, Try.ntmps41
            go_wp2_with (go_at_call 45; refine (schema_Right h).mono ?_; rintro e w1 ⟨rfl, hb⟩; rw [HS.out])
            go_ret
            exact ⟨rfl, hb⟩

set_option maxRecDepth 100000 in
set_option maxHeartbeats 2000000 in
theorem ref11_Args {w : World} {v : Value} {s : List Mes} (h : SchemaAt w v s) (root d : Int) :
    Calls Try.prog 43 #[v, .int .i64 root, .int .i64 d] w fun e w' => e = .returned (.int .i64 (argsCode s root d)) ∧ Below w.heap.size w w' := by
  obtain ⟨hlen, a, cap, rfl, -⟩ := h.open
  obtain ⟨n, HN⟩ : ∃ n, Hid (n = s.length) := ⟨_, rfl⟩
  obtain ⟨x, HX⟩ : ∃ x, Hid (x = argsCode s root d) := ⟨_, rfl⟩
  rw [← HX.out]
  unfold argsCode at HX
  rw [← HN.out] at HX hlen h ⊢
  cases hs : sright s with
  | false =>
    have HS := hid hs
    clear hs
    obtain rfl : x = 9 := by rw [HX.out, if_pos HS.out]
    go_enter Try.func43, Try.ntmps43
    go_wp2_with (go_at_call 27; refine (ref07_Right h).mono ?_; rintro e w1 ⟨rfl, hb⟩; rw [HS.out])
    go_ret
    exact ⟨rfl, hb⟩
  | true =>
    have HS := hid hs
    clear hs
    have HX1 : Hid (x = if root < 0 ∨ (n : Int) ≤ root ∨ d < 0 ∨ 64 < d then 2 else 0) := by rw [Hid, HX.out, if_neg (by rw [HS.out]; decide)]
    by_cases c1 : root < 0
    · obtain rfl : x = 2 := by rw [HX1.out, if_pos (by omega)]
      go_enter Try.func43, Try.ntmps43
      go_wp2_with (go_at_call 27; refine (ref07_Right h).mono ?_; rintro e w1 ⟨rfl, hb⟩; rw [HS.out])
      go_ret
      exact ⟨rfl, hb⟩
    · by_cases c2 : (n : Int) ≤ root
      · obtain rfl : x = 2 := by rw [HX1.out, if_pos (by omega)]
        go_enter Try.func43, Try.ntmps43
        go_wp2_with (go_at_call 27; refine (ref07_Right h).mono ?_; rintro e w1 ⟨rfl, hb⟩; rw [HS.out])
        go_ret
        exact ⟨rfl, hb⟩
      · by_cases c3 : d < 0
        · obtain rfl : x = 2 := by rw [HX1.out, if_pos (by omega)]
          go_enter Try.func43, Try.ntmps43
          go_wp2_with (go_at_call 27; refine (ref07_Right h).mono ?_; rintro e w1 ⟨rfl, hb⟩; rw [HS.out])
          go_ret
          exact ⟨rfl, hb⟩
        · by_cases c4 : 64 < d
          · obtain rfl : x = 2 := by rw [HX1.out, if_pos (by omega)]
            go_enter Try.func43, Try.ntmps43
            go_wp2_with (go_at_call 27; refine (ref07_Right h).mono ?_; rintro e w1 ⟨rfl, hb⟩; rw [HS.out])
            go_ret
            exact ⟨rfl, hb⟩
          · obtain rfl : x = 0 := by rw [HX1.out, if_neg (by omega)]
            go_enter Try.func43, Try.ntmps43
            go_wp2_with (go_at_call 27; refine (ref07_Right h).mono ?_; rintro e w1 ⟨rfl, hb⟩; rw [HS.out])
            go_ret
            exact ⟨rfl, hb⟩

/-- the place of the first that is so; -1: none -/
def firstAt {α : Type} (p : α → Bool) : List α → Nat → Int
  | [], _ => -1
  | f :: r, i => if p f then i else firstAt p r (i + 1)
def fieldAt (fs : List Fld) (n : Int) : Int := firstAt (fun f => decide (f.number = n)) fs 0

theorem firstAt_at (p : Fld → Bool) (fs : List Fld) (k : Nat) (hk : k < fs.length) : firstAt p (fs.drop k) k = if p (fs.getD k .zero) then (k : Int) else firstAt p (fs.drop (k + 1)) (k + 1) := by
  have e : fs.getD k .zero = fs[k] := by simp [List.getD, hk]
  rw [e, List.drop_eq_getElem_cons hk, firstAt]

theorem firstAt_bd {α : Type} (p : α → Bool) : ∀ (fs : List α) (i : Nat), firstAt p fs i = -1 ∨ ∃ k : Nat, firstAt p fs i = k ∧ i ≤ k ∧ k < i + fs.length
  | [], _ => .inl rfl
  | f :: r, i => by
    simp only [firstAt]
    split
    · exact .inr ⟨i, rfl, by omega, by simp⟩
    · rcases firstAt_bd p r (i + 1) with h | ⟨k, h, h1, h2⟩
      · exact .inl h
      · exact .inr ⟨k, h, by omega, by simp; omega⟩

set_option maxRecDepth 100000 in
theorem ref07_Field {w : World} {v : Value} {fs : List Fld} (h : FieldsAt w v fs) (nm : ByteArray) (x : Int) :
    Calls Try.prog 50 #[.agg #[.string nm, v], .int .i64 x] w fun e w' => e = .returned (.int .i64 (fieldAt fs x)) ∧ Below w.heap.size w w' := by
  obtain ⟨hlen, a, cap, rfl, hat⟩ := h.open
  obtain ⟨n, HN⟩ : ∃ n, Hid (n = fs.length) := ⟨_, rfl⟩
  rw [← HN.out] at hat hlen ⊢
  have HAT := hid hat
  clear hat
  go_enter Try.func50, Try.ntmps50
  go_wp2
  go_loop [5] (fun v5 => ∃ k : Nat, k ≤ n ∧ v5 = .int .i64 k ∧ Hid (firstAt (fun f => decide (f.number = x)) (fs.drop k) k = fieldAt fs x)) (fun v5 => n - (intOf v5).toNat)
  case atStart => exact ⟨0, by omega, rfl, hid rfl⟩
  case round =>
    obtain ⟨k, hk, rfl, HK⟩ := hrel
    by_cases hlt : k < n
    · have hat := HAT.out
      obtain ⟨b, o, ha, -, -, g1, -, -, -, -⟩ := hat k hlt
      clear hat
      have hbl : b < w.heap.size := World.block_lt_of_cell? w _ g1
      have hix := index_run Try.underlying87 size_fld ha k hlt (cap := cap)
      have HA := hid ha
      have hst := hid (firstAt_at (fun f => decide (f.number = x)) fs k (by rw [← HN.out]; exact hlt))
      obtain ⟨y, HY⟩ : ∃ y, Hid (y = (fs.getD k .zero).number) := ⟨_, rfl⟩
      rw [← HY.out] at g1
      clear ha
      by_cases hxy : y = x
      · have hb : (y == x) = true := by simpa using hxy
        have HE := hid hxy
        clear hxy
        go_wp2
        go_ret
        have e : fieldAt fs x = k := by rw [← HK.out, hst.out, if_pos (show decide ((fs.getD k .zero).number = x) = true from decide_eq_true (by rw [← HY.out]; exact HE.out))]
        exact ⟨by rw [e]; rfl, by (repeat (first | with_reducible exact Below.refl _ _ | with_reducible refine Below.setCell ?_ (by first | omega | (simp; omega) | (simp; done)) _ | with_reducible refine Below.alloc ?_ (by first | omega | (simp; omega) | (simp; done)) _ | with_reducible refine below_drewN ?_ _ | with_reducible refine Below.drew ?_))⟩
      · have hb : (y == x) = false := by simpa using hxy
        have HE := hid hxy
        clear hxy
        go_wp2
        go_round
        case rel => exact ⟨k + 1, by omega, by go_num, by rw [← HK.out, hst.out, if_neg (show ¬ decide ((fs.getD k .zero).number = x) = true from fun e => HE.out (by rw [HY.out]; exact of_decide_eq_true e))]; exact hid rfl⟩
        case measure => simp [intOf]; omega
    · go_wp2
      go_ret
      have e : fieldAt fs x = -1 := by
        rw [← HK.out, List.drop_of_length_le (by rw [← HN.out]; omega)]; rfl
      exact ⟨by rw [e]; rfl, by (repeat (first | with_reducible exact Below.refl _ _ | with_reducible refine Below.setCell ?_ (by first | omega | (simp; omega) | (simp; done)) _ | with_reducible refine Below.alloc ?_ (by first | omega | (simp; omega) | (simp; done)) _ | with_reducible refine below_drewN ?_ _ | with_reducible refine Below.drew ?_))⟩

set_option maxRecDepth 100000 in
theorem indexFunc_fld {w : World} {v : Value} {fs : List Fld} (h : FieldsAt w v fs) (F : Nat) (cap : Array Value) (p : Fld → Bool) (hcf : ∀ (args : Array Value) (w : World), (callFunc F args).run Try.prog w = .ok (.enter F args) w)
    (hcl : ∀ (f : Fld) (wr : World), f.Ok → Below w.heap.size w wr → Calls Try.prog F (#[f.val] ++ cap) wr fun e w' => e = .returned (.bool (p f)) ∧ Below wr.heap.size wr w') :
    Calls Try.prog 150 #[v, .func (.func F) #[] cap] w fun e w' => e = .returned (.int .i64 (firstAt p fs 0)) ∧ Below w.heap.size w w' := by
  obtain ⟨hlen, a, c, rfl, hat⟩ := h.open
  obtain ⟨n, HN⟩ : ∃ n, Hid (n = fs.length) := ⟨_, rfl⟩
  rw [← HN.out] at hat hlen ⊢
  have HAT := hid hat
  have HCL := hid hcl
  clear hat hcl
  go_enter Try.func150, Try.ntmps150
  go_wp2
  go_loopw [8] (fun v8 wr => ∃ k : Nat, k ≤ n ∧ v8 = .int .i64 k ∧ Hid (firstAt p (fs.drop k) k = firstAt p fs 0) ∧ Hid (Below w.heap.size w wr)) (fun v8 _ => n - (intOf v8).toNat)
  case atStart => exact ⟨0, by omega, rfl, hid rfl, Below.refl _ _⟩
  case round =>
    obtain ⟨k, hk, rfl, HK, HB⟩ := hrel
    by_cases hlt : k < n
    · have hat := HAT.out
      obtain ⟨b, o, ha, hfok, g0, g1, g2, g3, g4, g5⟩ := hat k hlt
      clear hat
      have hkw : ∀ p u, w.cell? p = some u → wr.cell? p = some u := fun p u hu => (Below.cell (p := p) HB.out (World.block_lt_of_cell? w p hu)).trans hu
      have r0 := hkw _ _ g0
      have r1 := hkw _ _ g1
      have r2 := hkw _ _ g2
      have r3 := hkw _ _ g3
      have r4 := hkw _ _ g4
      have r5 := hkw _ _ g5
      have hix := index_run Try.underlying87 size_fld ha k hlt (cap := c)
      have HA := hid ha
      have hst := hid (firstAt_at p fs k (by rw [← HN.out]; exact hlt))
      obtain ⟨f, HF⟩ : ∃ f, Hid (f = fs.getD k .zero) := ⟨_, rfl⟩
      rw [← HF.out] at hfok r0 r1 r2 r3 r4 r5 hst
      have HFO := hid hfok
      clear ha hkw g0 g1 g2 g3 g4 g5 hfok
      go_wp2_with fail
      have hcl := HCL.out
      refine (hcl f _ HFO.out HB.out).mono ?_
      rintro e w5 ⟨rfl, hb5⟩
      clear hcl
      have HB5 : Hid (Below w.heap.size w w5) := below_step HB.out hb5 HB.out.size
      clear hb5
      cases hp : p f with
      | true =>
        have e : firstAt p fs 0 = k := by rw [← HK.out, hst.out, if_pos hp]
        have HE := hid e
        clear hp e
        go_wp2
        go_ret
        exact ⟨by rw [HE.out]; rfl, HB5.out⟩
      | false =>
        have e : firstAt p (fs.drop (k + 1)) (k + 1) = firstAt p fs 0 := by rw [← HK.out, hst.out, if_neg (by rw [hp]; decide)]
        have HE := hid e
        clear hp e
        go_wp2
        go_roundw
        case rel => exact ⟨k + 1, by omega, by go_num, HE.out, HB5.out⟩
        case measure => simp [intOf]; omega
    · go_wp2
      go_ret
      have e : firstAt p fs 0 = -1 := by
        rw [← HK.out, List.drop_of_length_le (by rw [← HN.out]; omega)]; rfl
      exact ⟨by rw [e]; rfl, HB.out⟩

set_option maxRecDepth 100000 in
theorem view_field_1 {w : World} {q : Nat} {x : Int} (hq : w.cell? ⟨q, 0, none⟩ = some (.int .i64 x)) (f : Fld) :
    Calls Try.prog 189 #[f.val, .pointer (some ⟨q, 0, none⟩)] w fun e w' => e = .returned (.bool (decide (f.number = x))) ∧ Below w.heap.size w w' := by
  obtain ⟨name, number, kind, rep, packed, of⟩ := f
  simp only [Fld.val]
  have hql : q < w.heap.size := World.block_lt_of_cell? w _ hq
  go_enter Try.func189, Try.ntmps189
  go_wp2
  go_ret
  refine ⟨ret1 ?_, by (repeat (first | with_reducible exact Below.refl _ _ | with_reducible refine Below.setCell ?_ (by first | omega | (simp; omega) | (simp; done)) _ | with_reducible refine Below.alloc ?_ (by first | omega | (simp; omega) | (simp; done)) _ | with_reducible refine below_drewN ?_ _ | with_reducible refine Below.drew ?_))⟩
  show Value.bool (number == x) = _
  congr 1

set_option maxRecDepth 100000 in
theorem view_field {w : World} {v : Value} {fs : List Fld} (h : FieldsAt w v fs) (nm : ByteArray) (x : Int) :
    Calls Try.prog 173 #[.agg #[.string nm, v], .int .i64 x] w fun e w' => e = .returned (.int .i64 (fieldAt fs x)) ∧ Below w.heap.size w w' := by
  obtain ⟨hlen, a, c, rfl, -⟩ := h.open
  go_enter Try.func173, Try.ntmps173
  go_wp2_with fail
  refine (indexFunc_fld (h.keep (w' := (w.alloc _).alloc _) (below_keeps (Below.alloc ((Below.refl _ _).alloc (Nat.le_refl _) _) (by simp) _))) 189 _ (fun f => decide (f.number = x)) (fun args w => by simp [go_sem]) ?_).mono ?_
  · intro f wr hok hb
    refine view_field_1 ?_ f
    have := below_keeps hb ⟨w.heap.size + 1, 0, none⟩ (.int .i64 x) (by simp [go_sem])
    exact this
  · rintro e w5 ⟨rfl, hb⟩
    go_wp2
    go_ret
    exact ⟨rfl, below_step (Below.alloc ((Below.refl _ _).alloc (Nat.le_refl _) _) (by simp) _) hb (by simp; omega)⟩

end Go.Proofs.Ytgephhmkaonahaa

namespace Go.Proofs.Ytgephhmkaonahaa
open Go.RowKit

/-- a block of one's own, known whole -/
def Blk (w : World) (b : Nat) (cs : List Value) (T : TypeId) : Prop := w.heap[b]? = some (.cells cs.toArray T (0, 0))
theorem Blk.cell {w : World} {b : Nat} {cs : List Value} {T : TypeId} (h : Blk w b cs T) (j : Nat) (u : Value) (hu : cs[j]? = some u) : w.cell? ⟨b, j, none⟩ = some u := by
  rw [cell_of_row _ _ _ _ T (0, 0) h]; simpa using hu
theorem Blk.free {w : World} {b : Nat} {cs : List Value} {T : TypeId} (h : Blk w b cs T) (j : Nat) : w.frozen? ⟨b, j, none⟩ = false := by
  unfold Blk at h
  simp [World.frozen?, h]
theorem Blk.lt {w : World} {b : Nat} {cs : List Value} {T : TypeId} (h : Blk w b cs T) : b < w.heap.size := by
  unfold Blk at h
  rw [Array.getElem?_eq_some_iff] at h
  exact h.1
theorem Blk.below {w w' : World} {b : Nat} {cs : List Value} {T : TypeId} (h : Blk w b cs T) (hb : Below w.heap.size w w') : Blk w' b cs T := (hb.block b h.lt).trans h
theorem Blk.alloc {w : World} {b : Nat} {cs : List Value} {T : TypeId} (h : Blk w b cs T) (o : Obj) : Blk (w.alloc o) b cs T := (Below.heap_alloc w o b h.lt).trans h
theorem Blk.new (w : World) (cs : List Value) (T : TypeId) : Blk (w.alloc (.cells cs.toArray T)) w.heap.size cs T := heap_alloc_new w _

theorem Blk.set_other {w : World} {b : Nat} {cs : List Value} {T : TypeId} (h : Blk w b cs T) (a : Addr) (v : Value) (hne : b ≠ a.block) : Blk (w.setCell a v) b cs T := (Below.heap_setCell w a v b hne).trans h
theorem Blk.set {w : World} {b : Nat} {cs : List Value} {T : TypeId} (h : Blk w b cs T) (j : Nat) (v : Value) : Blk (w.setCell ⟨b, j, none⟩ v) b (cs.set j v) T := by
  unfold Blk at *
  obtain ⟨hlt, hk⟩ := Array.getElem?_eq_some_iff.1 h
  show (w.heap.modify b _)[b]? = _
  rw [Array.getElem?_eq_getElem (by rw [Array.size_modify]; exact hlt), Array.getElem_modify_self, hk]
  simp
theorem cell_set_other (w : World) (a : Addr) (v : Value) (q j : Nat) (hne : q ≠ a.block) : (w.setCell a v).cell? ⟨q, j, none⟩ = w.cell? ⟨q, j, none⟩ := World.cell?_of_block (Below.heap_setCell w a v q hne)
theorem cell_set7 (w : World) (p q j : Nat) (hne : q ≠ p) (v0 v1 v2 v3 v4 v5 v6 : Value) :
    (((((((w.setCell ⟨p, 0, none⟩ v0).setCell ⟨p, 1, none⟩ v1).setCell ⟨p, 2, none⟩ v2).setCell ⟨p, 3, none⟩ v3).setCell ⟨p, 4, none⟩ v4).setCell ⟨p, 5, none⟩ v5).setCell ⟨p, 6, none⟩ v6).cell? ⟨q, j, none⟩ = w.cell? ⟨q, j, none⟩ := by
  repeat rw [cell_set_other _ _ _ _ _ hne]

/-- record, field, whether it is a run, code -/
def vlook (fs : List Fld) (l : List UInt8) (i : Nat) : Rec × Int × Bool × Nat :=
  if (rnext l i).2 ≠ 0 then (.none, 0, false, (rnext l i).2) else
  if fieldAt fs (rnext l i).1.number < 0 then ((rnext l i).1, -1, false, 0) else
  let f := fs.getD (fieldAt fs (rnext l i).1.number).toNat .zero
  if (f.rep && knumber f.kind && decide ((rnext l i).1.wire = 2)) = true then ((rnext l i).1, fieldAt fs (rnext l i).1.number, true, 0) else
  if kright f.kind = false ∨ kwire f.kind ≠ (rnext l i).1.wire then (.none, 0, false, 6) else ((rnext l i).1, fieldAt fs (rnext l i).1.number, false, 0)
def recL (r : Rec) : List Value := [.int .i64 r.number, .int .i64 r.wire, .int .i64 r.start, .int .i64 r.at', .int .i64 r.to]
def viewL (r : Rec) (k : Int) (run : Bool) : List Value := [.int .i64 r.number, .int .i64 r.wire, .int .i64 r.start, .int .i64 r.at', .int .i64 r.to, .int .i64 k, .bool run]
def viewV (r : Rec) (k : Int) (run : Bool) : Value := .agg #[.int .i64 r.number, .int .i64 r.wire, .int .i64 r.start, .int .i64 r.at', .int .i64 r.to, .int .i64 k, .bool run]

set_option maxRecDepth 100000 in
set_option maxHeartbeats 4000000 in
theorem view_Look {w : World} {v vf : Value} {l : List UInt8} {fs : List Fld} (h : Bytes w v l) (hf : FieldsAt w vf fs) (nm : ByteArray) (i : Nat) (hi63 : i ≤ 9223372036854775807) :
    Calls Try.prog 144 #[.agg #[.string nm, vf], v, .int .i64 i] w fun e w' => e = .returned (.tuple #[viewV (vlook fs l i).1 (vlook fs l i).2.1 (vlook fs l i).2.2.1, .int .u8 (vlook fs l i).2.2.2]) ∧ Below w.heap.size w w' := by
  obtain ⟨hflen, fa, fcap, rfl, hfat⟩ := hf.open
  obtain ⟨fl, HFL⟩ : ∃ fl, Hid (fl = fs.length) := ⟨_, rfl⟩
  have HF := hid hf
  rw [← HFL.out] at hflen hfat ⊢
  have HFAT := hid hfat
  clear hfat hf
  obtain ⟨x, HX⟩ : ∃ x, Hid (x = vlook fs l i) := ⟨_, rfl⟩
  rw [← HX.out]
  unfold vlook at HX
  obtain ⟨r, c, HR⟩ : ∃ r c, Hid (rnext l i = (r, c)) := ⟨_, _, rfl⟩
  rw [HR.out] at HX
  simp only at HX
  go_enter Try.func144, Try.ntmps144
  go_wp2_with fail
  refine (record_Next (h.keep (w' := (w.alloc _).alloc _) (below_keeps (Below.alloc ((Below.refl _ _).alloc (Nat.le_refl _) _) (by simp) _))) i hi63).mono ?_
  rintro e w1 ⟨rfl, hb⟩
  rw [HR.out]
  have hB0 : Blk w1 w.heap.size [.string nm, .slice fa fl fcap] 89 := ((Blk.new w _ _).alloc _).below hb
  have hB1 : Blk w1 (w.heap.size + 1) (viewL .none 0 false) 231 := by
    refine Blk.below ?_ hb
    have := Blk.new (w.alloc (.cells #[.string nm, .slice fa fl fcap] 89)) (viewL .none 0 false) 231
    rw [show (w.alloc (.cells #[.string nm, .slice fa fl fcap] 89)).heap.size = w.heap.size + 1 by simp] at this
    exact this
  have hb1 : Below w.heap.size w w1 := below_step (Below.alloc ((Below.refl _ _).alloc (Nat.le_refl _) _) (by simp) _) hb (by simp; omega)
  have H0 := hid hB0
  have H1 := hid hB1
  have HB1 := hid hb1
  clear hB0 hB1 hb1
  obtain ⟨B1, HBB⟩ : ∃ B1, Hid (B1 = w.heap.size + 1) := ⟨_, rfl⟩
  obtain ⟨B0, HBA⟩ : ∃ B0, Hid (B0 = w.heap.size) := ⟨_, rfl⟩
  rw [← HBB.out] at H1 ⊢
  rw [← HBA.out] at H0 ⊢
  have hwB1 : w.heap.size ≤ B1 := by rw [HBB.out]; omega
  have hws : w.heap.size ≤ w1.heap.size := HB1.out.size
  by_cases hc : c = 0
  · subst hc
    have HX0 : Hid (x = if fieldAt fs r.number < 0 then (r, -1, false, 0) else
      if ((fs.getD (fieldAt fs r.number).toNat .zero).rep && knumber (fs.getD (fieldAt fs r.number).toNat .zero).kind && decide (r.wire = 2)) = true then (r, fieldAt fs r.number, true, 0) else
      if kright (fs.getD (fieldAt fs r.number).toNat .zero).kind = false ∨ kwire (fs.getD (fieldAt fs r.number).toNat .zero).kind ≠ r.wire then (.none, 0, false, 6) else (r, fieldAt fs r.number, false, 0)) := by
      rw [Hid, HX.out, if_neg (by decide)]
    obtain ⟨r1, r2, r3, r4, r5⟩ := r
    unfold Rec.val
    simp only
    have m0 := H0.out.cell 0 _ rfl
    have m1 := H0.out.cell 1 _ rfl
    have mlt := H0.out.lt
    go_wp2
    obtain ⟨W4, HW4⟩ : ∃ W4, Hid (W4 = w1.alloc (.cells #[.int .i64 r1, .int .i64 r2, .int .i64 r3, .int .i64 r4, .int .i64 r5] 229)) := ⟨_, rfl⟩
    rw [← HW4.out]
    obtain ⟨q, HQ⟩ : ∃ q, Hid (q = w1.heap.size) := ⟨_, rfl⟩
    rw [← HQ.out]
    have HF4 : Hid (Blk W4 q (recL ⟨r1, r2, r3, r4, r5⟩) 229 ∧ Blk W4 B0 [.string nm, .slice fa fl fcap] 89 ∧ Blk W4 B1 (viewL .none 0 false) 231 ∧ Below w.heap.size w W4) := by
      rw [HW4.out]
      exact ⟨by rw [HQ.out]; exact Blk.new w1 (recL ⟨r1, r2, r3, r4, r5⟩) _, H0.out.alloc _, H1.out.alloc _, HB1.out.alloc hws _⟩
    clear m0 m1 mlt
    obtain ⟨k, HKE⟩ : ∃ k, Hid (k = fieldAt fs r1) := ⟨_, rfl⟩
    go_cut [10] (fun s10 wx => ∃ p : Nat, s10 = .pointer (some ⟨p, 0, none⟩) ∧ B1 < p ∧ Hid (Blk wx p (viewL ⟨r1, r2, r3, r4, r5⟩ (fieldAt fs r1) false) 231 ∧ Blk wx q (recL ⟨r1, r2, r3, r4, r5⟩) 229 ∧ Blk wx B0 [.string nm, .slice fa fl fcap] 89 ∧ Blk wx B1 (viewL .none 0 false) 231 ∧ Below w.heap.size w wx))
    case first =>
      have F1 : FieldsAt (W4.alloc (.cells #[.int .i64 0, .int .i64 0, .int .i64 0, .int .i64 0, .int .i64 0, .int .i64 0, .bool false] 231)).drew (.slice fa fl fcap) fs := by
        have := HF.out.keep (below_keeps (HF4.out.2.2.2.alloc HF4.out.2.2.2.size (.cells #[.int .i64 0, .int .i64 0, .int .i64 0, .int .i64 0, .int .i64 0, .int .i64 0, .bool false] 231)))
        rw [← HFL.out] at this
        exact this.keep fun _ _ hu => hu
      have HNB : Hid (Blk (W4.alloc (.cells #[.int .i64 0, .int .i64 0, .int .i64 0, .int .i64 0, .int .i64 0, .int .i64 0, .bool false] 231)).drew W4.heap.size (viewL .none 0 false) 231 ∧ Blk (W4.alloc (.cells #[.int .i64 0, .int .i64 0, .int .i64 0, .int .i64 0, .int .i64 0, .int .i64 0, .bool false] 231)).drew q (recL ⟨r1, r2, r3, r4, r5⟩) 229 ∧ Blk (W4.alloc (.cells #[.int .i64 0, .int .i64 0, .int .i64 0, .int .i64 0, .int .i64 0, .int .i64 0, .bool false] 231)).drew B0 [.string nm, .slice fa fl fcap] 89 ∧ Blk (W4.alloc (.cells #[.int .i64 0, .int .i64 0, .int .i64 0, .int .i64 0, .int .i64 0, .int .i64 0, .bool false] 231)).drew B1 (viewL .none 0 false) 231 ∧ Below w.heap.size w (W4.alloc (.cells #[.int .i64 0, .int .i64 0, .int .i64 0, .int .i64 0, .int .i64 0, .int .i64 0, .bool false] 231)).drew) :=
        ⟨Blk.new W4 _ _, HF4.out.1.alloc _, HF4.out.2.1.alloc _, HF4.out.2.2.1.alloc _, (HF4.out.2.2.2.alloc HF4.out.2.2.2.size _).drew⟩
      have HF1 := hid F1
      clear F1
      have F2 : FieldsAt W4.drew (.slice fa fl fcap) fs := by
        have := HF.out.keep (below_keeps HF4.out.2.2.2)
        rw [← HFL.out] at this
        exact this.keep fun _ _ hu => hu
      have HF2 := hid F2
      clear F2
      have HND : Hid (Blk W4.drew q (recL ⟨r1, r2, r3, r4, r5⟩) 229 ∧ Blk W4.drew B0 [.string nm, .slice fa fl fcap] 89 ∧ Blk W4.drew B1 (viewL .none 0 false) 231 ∧ Below w.heap.size w W4.drew) :=
        ⟨HF4.out.1, HF4.out.2.1, HF4.out.2.2.1, HF4.out.2.2.2.drew⟩
      have q0 := HF4.out.1.cell 0 _ rfl
      have q1 := HF4.out.1.cell 1 _ rfl
      have q2 := HF4.out.1.cell 2 _ rfl
      have q3 := HF4.out.1.cell 3 _ rfl
      have q4 := HF4.out.1.cell 4 _ rfl
      have m0 := HF4.out.2.1.cell 0 _ rfl
      have m1 := HF4.out.2.1.cell 1 _ rfl
      have ql := HF4.out.1.lt
      have m0l := HF4.out.2.1.lt
      go_region_held3 (fun w' => w'.cell? ⟨q, 0, none⟩ = some (.int .i64 r1) ∧ w'.cell? ⟨q, 1, none⟩ = some (.int .i64 r2) ∧ w'.cell? ⟨q, 2, none⟩ = some (.int .i64 r3) ∧ w'.cell? ⟨q, 3, none⟩ = some (.int .i64 r4) ∧ w'.cell? ⟨q, 4, none⟩ = some (.int .i64 r5) ∧ w'.cell? ⟨B0, 0, none⟩ = some (.string nm) ∧ w'.cell? ⟨B0, 1, none⟩ = some (.slice fa fl fcap)) (first | (with_reducible exact ⟨q0', q1', q2', q3', q4', m0', m1'⟩) | (with_reducible exact ⟨q0, q1, q2, q3, q4, m0, m1⟩) | go_keep | (refine ⟨?_, ?_, ?_, ?_, ?_, ?_, ?_⟩ <;> (rw [cell_set7 _ _ _ _ (by omega)]; assumption))) (first | (go_at_call 173; (with_reducible refine (view_field HF1.out nm _).mono ?_); rintro e w5 ⟨rfl, hb5⟩; have HN5 := hid (show Blk w5 W4.heap.size (viewL .none 0 false) 231 ∧ Blk w5 q (recL ⟨r1, r2, r3, r4, r5⟩) 229 ∧ Blk w5 B0 [.string nm, .slice fa fl fcap] 89 ∧ Blk w5 B1 (viewL .none 0 false) 231 ∧ Below w.heap.size w w5 from ⟨HNB.out.1.below hb5, HNB.out.2.1.below hb5, HNB.out.2.2.1.below hb5, HNB.out.2.2.2.1.below hb5, below_step HNB.out.2.2.2.2 hb5 HNB.out.2.2.2.2.size⟩); have q0' := HN5.out.2.1.cell 0 _ rfl; have q1' := HN5.out.2.1.cell 1 _ rfl; have q2' := HN5.out.2.1.cell 2 _ rfl; have q3' := HN5.out.2.1.cell 3 _ rfl; have q4' := HN5.out.2.1.cell 4 _ rfl; have m0' := HN5.out.2.2.1.cell 0 _ rfl; have m1' := HN5.out.2.2.1.cell 1 _ rfl; have p0 := HN5.out.1.cell 0 _ rfl; have p1 := HN5.out.1.cell 1 _ rfl; have p2 := HN5.out.1.cell 2 _ rfl; have p3 := HN5.out.1.cell 3 _ rfl; have p4 := HN5.out.1.cell 4 _ rfl; have p5 := HN5.out.1.cell 5 _ rfl; have p6 := HN5.out.1.cell 6 _ rfl; have pz := HN5.out.1.free; have pl := HN5.out.1.lt) | (go_at_call 173; (with_reducible refine (view_field HF2.out nm _).mono ?_); rintro e w5 ⟨rfl, hb5⟩; have HN6 := hid (show Blk w5 q (recL ⟨r1, r2, r3, r4, r5⟩) 229 ∧ Blk w5 B0 [.string nm, .slice fa fl fcap] 89 ∧ Blk w5 B1 (viewL .none 0 false) 231 ∧ Below w.heap.size w w5 from ⟨HND.out.1.below hb5, HND.out.2.1.below hb5, HND.out.2.2.1.below hb5, below_step HND.out.2.2.2 hb5 HND.out.2.2.2.size⟩); have q0' := HN6.out.1.cell 0 _ rfl; have q1' := HN6.out.1.cell 1 _ rfl; have q2' := HN6.out.1.cell 2 _ rfl; have q3' := HN6.out.1.cell 3 _ rfl; have q4' := HN6.out.1.cell 4 _ rfl; have m0' := HN6.out.2.1.cell 0 _ rfl; have m1' := HN6.out.2.1.cell 1 _ rfl; have ql' := HN6.out.1.lt; have m0l' := HN6.out.2.1.lt))
      · go_wp2_with fail
        go_meet
        case rel => exact ⟨_, rfl, HN6.out.2.2.1.lt, Blk.new w5 (viewL ⟨r1, r2, r3, r4, r5⟩ (fieldAt fs r1) false) _, HN6.out.1.alloc _, HN6.out.2.1.alloc _, HN6.out.2.2.1.alloc _, HN6.out.2.2.2.alloc HN6.out.2.2.2.size _⟩
      · go_wp2_with fail
        go_meet
        case rel =>
          have hq : q ≠ W4.heap.size := by omega
          have hm : B0 ≠ W4.heap.size := by omega
          have hb : B1 ≠ W4.heap.size := by have := HF4.out.2.2.1.lt; omega
          refine ⟨_, rfl, HF4.out.2.2.1.lt, ?_, ?_, ?_, ?_, ?_⟩
          · exact ((((((HN5.out.1.set 0 _).set 1 _).set 2 _).set 3 _).set 4 _).set 5 _).set 6 _
          · exact ((((((HN5.out.2.1.set_other _ _ hq).set_other _ _ hq).set_other _ _ hq).set_other _ _ hq).set_other _ _ hq).set_other _ _ hq).set_other _ _ hq
          · exact ((((((HN5.out.2.2.1.set_other _ _ hm).set_other _ _ hm).set_other _ _ hm).set_other _ _ hm).set_other _ _ hm).set_other _ _ hm).set_other _ _ hm
          · exact ((((((HN5.out.2.2.2.1.set_other _ _ hb).set_other _ _ hb).set_other _ _ hb).set_other _ _ hb).set_other _ _ hb).set_other _ _ hb).set_other _ _ hb
          · have hs : w.heap.size ≤ W4.heap.size := HF4.out.2.2.2.size
            (repeat (first | with_reducible exact Below.refl _ _ | with_reducible refine Below.setCell ?_ (by first | omega | (simp; omega) | (simp; done)) _ | with_reducible refine Below.alloc ?_ (by first | omega | (simp; omega) | (simp; done)) _ | with_reducible refine below_drewN ?_ _ | with_reducible refine Below.drew ?_))
            exact HN5.out.2.2.2.2
    case rest =>
      obtain ⟨p, rfl, hB1p, HR4⟩ := hcut
      rw [← HKE.out] at HR4
      have HX2 := HX0.out
      rw [← HKE.out] at HX2
      have HX3 := hid HX2
      clear HX2
      have p0 := HR4.out.1.cell 0 _ rfl
      have p1 := HR4.out.1.cell 1 _ rfl
      have p2 := HR4.out.1.cell 2 _ rfl
      have p3 := HR4.out.1.cell 3 _ rfl
      have p4 := HR4.out.1.cell 4 _ rfl
      have p5 := HR4.out.1.cell 5 _ rfl
      have p6 := HR4.out.1.cell 6 _ rfl
      have pz := HR4.out.1.free
      have pl := HR4.out.1.lt
      have q0 := HR4.out.2.1.cell 0 _ rfl
      have q1 := HR4.out.2.1.cell 1 _ rfl
      have m0 := HR4.out.2.2.1.cell 0 _ rfl
      have m1 := HR4.out.2.2.1.cell 1 _ rfl
      have b0 := HR4.out.2.2.2.1.cell 0 _ rfl
      have b1 := HR4.out.2.2.2.1.cell 1 _ rfl
      have b2 := HR4.out.2.2.2.1.cell 2 _ rfl
      have b3 := HR4.out.2.2.2.1.cell 3 _ rfl
      have b4 := HR4.out.2.2.2.1.cell 4 _ rfl
      have b5 := HR4.out.2.2.2.1.cell 5 _ rfl
      have b6 := HR4.out.2.2.2.1.cell 6 _ rfl
      have bz := HR4.out.2.2.2.1.free
      have blt := HR4.out.2.2.2.1.lt
      by_cases hk : k < 0
      · obtain rfl : k = -1 := by
          rcases firstAt_bd (fun f : Fld => decide (f.number = (r1 : Int))) fs 0 with e | ⟨j, e, h1, h2⟩
          · rw [HKE.out]; exact e
          · have : k = j := by rw [HKE.out]; exact e
            omega
        obtain rfl : x = (⟨r1, r2, r3, r4, r5⟩, -1, false, 0) := by rw [HX3.out, if_pos (by omega)]
        go_wp2
        refine bodyPost_ret (v := .tuple #[viewV ⟨r1, r2, r3, r4, r5⟩ (-1) false, .int .u8 0]) ?_ rfl ⟨rfl, ?_⟩
        · simp [results, Try.results144, go_sem, viewV, b0, b1, b2, b3, b4, b5, b6]
        · (repeat (first | with_reducible exact Below.refl _ _ | with_reducible refine Below.setCell ?_ (by first | omega | (simp; omega) | (simp; done)) _ | with_reducible refine Below.alloc ?_ (by first | omega | (simp; omega) | (simp; done)) _ | with_reducible refine below_drewN ?_ _ | with_reducible refine Below.drew ?_))
          exact HR4.out.2.2.2.2
      · obtain ⟨K, HKK, hKl⟩ : ∃ K : Nat, Hid (k = K) ∧ K < fl := by
          rcases firstAt_bd (fun f : Fld => decide (f.number = (r1 : Int))) fs 0 with e | ⟨j, e, h1, h2⟩
          · have : k = -1 := by rw [HKE.out]; exact e
            omega
          · exact ⟨j, by rw [Hid, HKE.out]; exact e, by rw [HFL.out]; omega⟩
        rw [HKK.out] at HX3 p5 HR4
        clear hk
        have HX4 : Hid (x = if ((fs.getD K .zero).rep && knumber (fs.getD K .zero).kind && decide (r2 = 2)) = true then (⟨r1, r2, r3, r4, r5⟩, (K : Int), true, 0) else
          if kright (fs.getD K .zero).kind = false ∨ kwire (fs.getD K .zero).kind ≠ r2 then (.none, 0, false, 6) else (⟨r1, r2, r3, r4, r5⟩, (K : Int), false, 0)) := by
          rw [Hid, HX3.out, if_neg (by omega)]; rfl
        have hfc := HF.out.keep (below_keeps HR4.out.2.2.2.2)
        obtain ⟨-, fa', fcap', hv', hfat⟩ := hfc.open
        cases hv'
        obtain ⟨fb, fo, hfa, hfok, g0, g1, g2, g3, g4, g5⟩ := hfat K (by rw [← HFL.out]; exact hKl)
        have hixf := index_run Try.underlying87 size_fld hfa K hKl (cap := fcap)
        have HFA := hid hfa
        have hfbl : fb < wc.heap.size := World.block_lt_of_cell? wc _ g0
        clear hfa hfat hfc
        obtain ⟨f, HFF⟩ : ∃ f, Hid (f = fs.getD K .zero) := ⟨_, rfl⟩
        rw [← HFF.out] at hfok g0 g1 g2 g3 g4 g5 HX4
        have HFO := hid hfok
        clear hfok
        obtain ⟨fname, fnumber, fkind, frep, fpacked, fof⟩ := f
        simp only at g0 g1 g2 g3 g4 g5 HX4
        obtain ⟨run, HRUN⟩ : ∃ run, Hid (run = (frep && knumber fkind && decide (r2 = 2))) := ⟨_, rfl⟩
        rw [← HRUN.out] at HX4
        obtain ⟨fx, HFX⟩ : ∃ fx, Hid (fx = wc.heap.size) := ⟨_, rfl⟩
        have HPQ : Hid (p ≠ fx ∧ q ≠ fx ∧ B0 ≠ fx ∧ B1 ≠ fx ∧ q ≠ p ∧ B1 ≠ p) := by
          have h1 := HR4.out.2.1.lt
          have h2 := HR4.out.2.2.1.lt
          refine ⟨by rw [HFX.out]; omega, by rw [HFX.out]; omega, by rw [HFX.out]; omega, by rw [HFX.out]; omega, ?_, ?_⟩
          · rintro rfl
            have := HR4.out.1.symm.trans HR4.out.2.1
            simp at this
          · omega
        go_upto_region 8 with fail
        rw [← HFX.out]
        go_cut [] (fun wx => Hid (Blk wx p (viewL ⟨r1, r2, r3, r4, r5⟩ K run) 231 ∧ Blk wx q (recL ⟨r1, r2, r3, r4, r5⟩) 229 ∧ Blk wx B1 (viewL .none 0 false) 231 ∧ Blk wx fx [.string fname, .int .i64 fnumber, .int .i64 fkind, .bool frep, .bool fpacked, .int .i64 fof] 58 ∧ Below w.heap.size w wx))
        case first =>
          have HV : Hid (Blk (wc.alloc (.cells #[.string fname, .int .i64 fnumber, .int .i64 fkind, .bool frep, .bool fpacked, .int .i64 fof] 58)) p (viewL ⟨r1, r2, r3, r4, r5⟩ K false) 231 ∧ Blk (wc.alloc (.cells #[.string fname, .int .i64 fnumber, .int .i64 fkind, .bool frep, .bool fpacked, .int .i64 fof] 58)) q (recL ⟨r1, r2, r3, r4, r5⟩) 229 ∧ Blk (wc.alloc (.cells #[.string fname, .int .i64 fnumber, .int .i64 fkind, .bool frep, .bool fpacked, .int .i64 fof] 58)) B1 (viewL .none 0 false) 231 ∧ Blk (wc.alloc (.cells #[.string fname, .int .i64 fnumber, .int .i64 fkind, .bool frep, .bool fpacked, .int .i64 fof] 58)) fx [.string fname, .int .i64 fnumber, .int .i64 fkind, .bool frep, .bool fpacked, .int .i64 fof] 58 ∧ Below w.heap.size w (wc.alloc (.cells #[.string fname, .int .i64 fnumber, .int .i64 fkind, .bool frep, .bool fpacked, .int .i64 fof] 58))) :=
            ⟨HR4.out.1.alloc _, HR4.out.2.1.alloc _, HR4.out.2.2.2.1.alloc _, by rw [HFX.out]; exact Blk.new wc _ _, HR4.out.2.2.2.2.alloc HR4.out.2.2.2.2.size _⟩
          have hwp : w.heap.size ≤ p := by omega
          cases frep with
          | false =>
            obtain rfl : run = false := by rw [HRUN.out]; rfl
            have HNF : Hid (Blk ((wc.setCell ⟨p, 6, none⟩ (.bool false)).alloc (.cells #[.string fname, .int .i64 fnumber, .int .i64 fkind, .bool false, .bool fpacked, .int .i64 fof] 58)) fx [.string fname, .int .i64 fnumber, .int .i64 fkind, .bool false, .bool fpacked, .int .i64 fof] 58) := by
              have := Blk.new (wc.setCell ⟨p, 6, none⟩ (.bool false)) [.string fname, .int .i64 fnumber, .int .i64 fkind, .bool false, .bool fpacked, .int .i64 fof] 58
              rw [show (wc.setCell ⟨p, 6, none⟩ (.bool false)).heap.size = wc.heap.size by simp, ← HFX.out] at this
              exact this
            have x3 := HV.out.2.2.2.1.cell 3 _ rfl
            go_wp2_with fail
            go_meet
            case rel =>
              exact ⟨(HR4.out.1.set 6 _).alloc _, (HR4.out.2.1.set_other _ _ HPQ.out.2.2.2.2.1).alloc _, (HR4.out.2.2.2.1.set_other _ _ HPQ.out.2.2.2.2.2).alloc _, HNF.out, (HR4.out.2.2.2.2.setCell hwp _).alloc (by simp; exact HR4.out.2.2.2.2.size) _⟩
          | true =>
            have x3 := HV.out.2.2.2.1.cell 3 _ rfl
            have x2 := HV.out.2.2.2.1.cell 2 _ rfl
            go_wp2_with fail
            refine (kind_Number fkind _).mono ?_
            rintro e w6 ⟨rfl, hb6⟩
            have HV6 := hid (show Blk w6 p (viewL ⟨r1, r2, r3, r4, r5⟩ K false) 231 ∧ Blk w6 q (recL ⟨r1, r2, r3, r4, r5⟩) 229 ∧ Blk w6 B1 (viewL .none 0 false) 231 ∧ Blk w6 fx [.string fname, .int .i64 fnumber, .int .i64 fkind, .bool true, .bool fpacked, .int .i64 fof] 58 ∧ Below w.heap.size w w6 from ⟨HV.out.1.below hb6, HV.out.2.1.below hb6, HV.out.2.2.1.below hb6, HV.out.2.2.2.1.below hb6, below_step HV.out.2.2.2.2 hb6 HV.out.2.2.2.2.size⟩)
            have p6' := HV6.out.1.cell 6 _ rfl
            have pz' := HV6.out.1.free
            have pl' := HV6.out.1.lt
            have q1' := HV6.out.2.1.cell 1 _ rfl
            clear hb6 p0 p1 p2 p3 p4 p5 p6 pz
            cases hkn : knumber fkind with
            | false =>
              obtain rfl : run = false := by rw [HRUN.out, hkn]; rfl
              have HKN := hid hkn
              clear hkn
              go_wp2_with fail
              go_meet
              case rel =>
                exact ⟨HV6.out.1.set 6 _, HV6.out.2.1.set_other _ _ HPQ.out.2.2.2.2.1, HV6.out.2.2.1.set_other _ _ HPQ.out.2.2.2.2.2, HV6.out.2.2.2.1.set_other _ _ (Ne.symm HPQ.out.1), HV6.out.2.2.2.2.setCell hwp _⟩
            | true =>
              by_cases h2 : r2 = 2
              · obtain rfl : run = true := by rw [HRUN.out, hkn]; simp [h2]
                have HKN := hid hkn
                have h2' : ((r2 : Int) == 2) = true := by simp; omega
                have H2 := hid h2
                clear hkn h2
                go_wp2_with fail
                go_meet
                case rel =>
                  exact ⟨HV6.out.1.set 6 _, HV6.out.2.1.set_other _ _ HPQ.out.2.2.2.2.1, HV6.out.2.2.1.set_other _ _ HPQ.out.2.2.2.2.2, HV6.out.2.2.2.1.set_other _ _ (Ne.symm HPQ.out.1), HV6.out.2.2.2.2.setCell hwp _⟩
              · obtain rfl : run = false := by rw [HRUN.out, hkn]; simp [h2]
                have HKN := hid hkn
                have h2' : ((r2 : Int) == 2) = false := by simp; omega
                have H2 := hid h2
                clear hkn h2
                go_wp2_with fail
                go_meet
                case rel =>
                  exact ⟨HV6.out.1.set 6 _, HV6.out.2.1.set_other _ _ HPQ.out.2.2.2.2.1, HV6.out.2.2.1.set_other _ _ HPQ.out.2.2.2.2.2, HV6.out.2.2.2.1.set_other _ _ (Ne.symm HPQ.out.1), HV6.out.2.2.2.2.setCell hwp _⟩
        case rest =>
          have HV := hid hcut.out
          clear hcut p0 p1 p2 p3 p4 p5 p6 pz pl q0 q1 b0 b1 b2 b3 b4 b5 b6 bz blt m0 m1 g0 g1 g2 g3 g4 g5 hixf
          have hwp : w.heap.size ≤ p := by omega
          have x2 := HV.out.2.2.2.1.cell 2 _ rfl
          go_wp2_with fail
          refine (kind_Wire fkind _).mono ?_
          rintro e w7 ⟨rfl, hb7⟩
          have HV7 := hid (show Blk w7 p (viewL ⟨r1, r2, r3, r4, r5⟩ K run) 231 ∧ Blk w7 q (recL ⟨r1, r2, r3, r4, r5⟩) 229 ∧ Blk w7 B1 (viewL .none 0 false) 231 ∧ Below w.heap.size w w7 from ⟨HV.out.1.below hb7, HV.out.2.1.below hb7, HV.out.2.2.1.below hb7, below_step HV.out.2.2.2.2 hb7 HV.out.2.2.2.2.size⟩)
          clear hb7 x2
          have p0 := HV7.out.1.cell 0 _ rfl
          have p1 := HV7.out.1.cell 1 _ rfl
          have p2 := HV7.out.1.cell 2 _ rfl
          have p3 := HV7.out.1.cell 3 _ rfl
          have p4 := HV7.out.1.cell 4 _ rfl
          have p5 := HV7.out.1.cell 5 _ rfl
          have p6 := HV7.out.1.cell 6 _ rfl
          have q1 := HV7.out.2.1.cell 1 _ rfl
          have b0 := HV7.out.2.2.1.cell 0 _ rfl
          have b1 := HV7.out.2.2.1.cell 1 _ rfl
          have b2 := HV7.out.2.2.1.cell 2 _ rfl
          have b3 := HV7.out.2.2.1.cell 3 _ rfl
          have b4 := HV7.out.2.2.1.cell 4 _ rfl
          have b5 := HV7.out.2.2.1.cell 5 _ rfl
          have b6 := HV7.out.2.2.1.cell 6 _ rfl
          have bz := HV7.out.2.2.1.free
          have blt := HV7.out.2.2.1.lt
          obtain ⟨wr2, HWR⟩ : ∃ wr2, Hid (wr2 = kwire fkind) := ⟨_, rfl⟩
          rw [← HWR.out] at HX4 ⊢
          cases run with
          | true =>
            obtain rfl : x = (⟨r1, r2, r3, r4, r5⟩, (K : Int), true, 0) := by rw [HX4.out, if_pos rfl]
            cases hkr : kright fkind
            all_goals
              have HKR := hid hkr
              clear hkr
              simp only [Bool.false_eq_true, if_false, if_true]
              go_wp2
              refine bodyPost_ret (v := .tuple #[viewV ⟨r1, r2, r3, r4, r5⟩ K true, .int .u8 0]) ?_ rfl ⟨rfl, ?_⟩
              · simp [results, Try.results144, go_sem, viewV, b0, b1, b2, b3, b4, b5, b6]
              · (repeat (first | with_reducible exact Below.refl _ _ | with_reducible refine Below.setCell ?_ (by first | omega | (simp; omega) | (simp; done)) _ | with_reducible refine Below.alloc ?_ (by first | omega | (simp; omega) | (simp; done)) _ | with_reducible refine below_drewN ?_ _ | with_reducible refine Below.drew ?_))
                exact HV7.out.2.2.2
          | false =>
            have HX5 : Hid (x = if kright fkind = false ∨ wr2 ≠ r2 then (.none, 0, false, 6) else (⟨r1, r2, r3, r4, r5⟩, (K : Int), false, 0)) := by rw [Hid, HX4.out, if_neg (by decide)]
            cases hkr : kright fkind with
            | false =>
              obtain rfl : x = (.none, 0, false, 6) := by rw [HX5.out, if_pos (.inl hkr)]
              have HKR := hid hkr
              clear hkr
              simp only [Bool.false_eq_true, if_false]
              go_wp2
              refine bodyPost_ret (v := .tuple #[viewV .none 0 false, .int .u8 6]) ?_ rfl ⟨rfl, ?_⟩
              · simp [results, Try.results144, go_sem, viewV, Rec.none, b0, b1, b2, b3, b4, b5, b6]
              · (repeat (first | with_reducible exact Below.refl _ _ | with_reducible refine Below.setCell ?_ (by first | omega | (simp; omega) | (simp; done)) _ | with_reducible refine Below.alloc ?_ (by first | omega | (simp; omega) | (simp; done)) _ | with_reducible refine below_drewN ?_ _ | with_reducible refine Below.drew ?_))
                exact HV7.out.2.2.2
            | true =>
              by_cases hw : wr2 = r2
              · obtain rfl : x = (⟨r1, r2, r3, r4, r5⟩, (K : Int), false, 0) := by rw [HX5.out, if_neg (by simp [hkr, hw])]
                have HKR := hid hkr
                have hw' : ((wr2 : Int) == (r2 : Int)) = true := by simp; omega
                have hw2 : ((wr2 : Int) != (r2 : Int)) = false := by simp; omega
                have HW := hid hw
                clear hkr hw
                simp only [if_true]
                go_wp2
                refine bodyPost_ret (v := .tuple #[viewV ⟨r1, r2, r3, r4, r5⟩ K false, .int .u8 0]) ?_ rfl ⟨rfl, ?_⟩
                · simp [results, Try.results144, go_sem, viewV, b0, b1, b2, b3, b4, b5, b6]
                · (repeat (first | with_reducible exact Below.refl _ _ | with_reducible refine Below.setCell ?_ (by first | omega | (simp; omega) | (simp; done)) _ | with_reducible refine Below.alloc ?_ (by first | omega | (simp; omega) | (simp; done)) _ | with_reducible refine below_drewN ?_ _ | with_reducible refine Below.drew ?_))
                  exact HV7.out.2.2.2
              · obtain rfl : x = (.none, 0, false, 6) := by rw [HX5.out, if_pos (.inr hw)]
                have HKR := hid hkr
                have hw' : ((wr2 : Int) == (r2 : Int)) = false := by simp; omega
                have hw2 : ((wr2 : Int) != (r2 : Int)) = true := by simp; omega
                have HW := hid hw
                clear hkr hw
                simp only [if_true]
                go_wp2
                refine bodyPost_ret (v := .tuple #[viewV .none 0 false, .int .u8 6]) ?_ rfl ⟨rfl, ?_⟩
                · simp [results, Try.results144, go_sem, viewV, Rec.none, b0, b1, b2, b3, b4, b5, b6]
                · (repeat (first | with_reducible exact Below.refl _ _ | with_reducible refine Below.setCell ?_ (by first | omega | (simp; omega) | (simp; done)) _ | with_reducible refine Below.alloc ?_ (by first | omega | (simp; omega) | (simp; done)) _ | with_reducible refine below_drewN ?_ _ | with_reducible refine Below.drew ?_))
                  exact HV7.out.2.2.2
  · have hc0 : ((c : Int) == 0) = false := by simp; omega
    obtain rfl : x = (.none, 0, false, c) := by rw [HX.out, if_pos hc]
    have b0 := H1.out.cell 0 _ rfl
    have b1 := H1.out.cell 1 _ rfl
    have b2 := H1.out.cell 2 _ rfl
    have b3 := H1.out.cell 3 _ rfl
    have b4 := H1.out.cell 4 _ rfl
    have b5 := H1.out.cell 5 _ rfl
    have b6 := H1.out.cell 6 _ rfl
    have bz := H1.out.free
    have blt := H1.out.lt
    obtain ⟨r1, r2, r3, r4, r5⟩ := r
    unfold Rec.val
    have HC := hid hc
    clear hc
    simp only
    go_wp2
    refine bodyPost_ret (v := .tuple #[viewV .none 0 false, .int .u8 c]) ?_ rfl ⟨rfl, ?_⟩
    · simp [results, Try.results144, go_sem, viewV, Rec.none, b0, b1, b2, b3, b4, b5, b6, blt]
    · (repeat (first | with_reducible exact Below.refl _ _ | with_reducible refine Below.setCell ?_ (by first | omega | (simp; omega) | (simp; done)) _ | with_reducible refine Below.alloc ?_ (by first | omega | (simp; omega) | (simp; done)) _ | with_reducible refine below_drewN ?_ _ | with_reducible refine Below.drew ?_))
      exact HB1.out

end Go.Proofs.Ytgephhmkaonahaa
