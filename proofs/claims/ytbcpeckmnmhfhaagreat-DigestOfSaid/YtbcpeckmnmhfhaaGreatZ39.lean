/- digest.strangers, value, message: dUnk, dVal, dMsg. Weights of at most 2^40. Sheets of meanings in plain words (Sh, mkSh), and where they lie: behind a pointer (ShAt), as the document's (RShAt). No condition. -/
import Derived.Test.YtbcpeckmnmhfhaaGreatZ20
import Derived.Test.YtbcpeckmnmhfhaaGreatZ28
import Derived.Test.YtbcpeckmnmhfhaaGreatZ38
namespace Go.Proofs.YtbcpeckmnmhfhaaGreat
open Go.RowKit
theorem flat_take {α β : Type} (f : α → List β) {l : List α} {k : Nat} {x : α} (h : l[k]? = some x) : (l.take (k + 1)).flatMap f = (l.take k).flatMap f ++ f x := by
  rw [List.take_add_one, h, List.flatMap_append]; simp
set_option maxRecDepth 100000 in
set_option maxHeartbeats 4000000 in
theorem digest_strangers {w : World} {v : Value} {l : List (List UInt8)} (h : StrsAt w v l) (hw : twt l ≤ 1099511627776) :
    Calls Tryz.prog 40 #[v] w fun e w' => e = .returned (.int .u64 (dUnk l : Nat)) ∧ Below w.heap.size w w' := by
  obtain ⟨hlen, a, cap, rfl, -, hat⟩ := h.open
  obtain ⟨n, HN⟩ : ∃ n, Hid (n = l.length) := ⟨_, rfl⟩
  rw [← HN.out] at hlen ⊢
  have HAT := hid hat
  have HW := hid hw
  obtain ⟨R, HR⟩ : ∃ R, Hid (R = dUnk l) := ⟨_, rfl⟩
  rw [← HR.out]
  obtain ⟨b, HB⟩ : ∃ b, Hid (b = w.heap.size) := ⟨_, rfl⟩
  obtain ⟨W0, HW0⟩ : ∃ W0, Hid (W0 = w.alloc (.cells #[.int .u64 14695981039346656037] 68)) := ⟨_, rfl⟩
  have hb0 : Below w.heap.size w W0 := by rw [HW0.out]; (repeat (first | with_reducible exact Below.refl _ _ | with_reducible refine Below.setCell ?_ (by first | omega | (simp; omega) | (simp; done)) _ | with_reducible refine Below.alloc ?_ (by first | omega | (simp; omega) | (simp; done)) _ | with_reducible refine below_drewN ?_ _ | with_reducible refine Below.drew ?_))
  have hk0 : Blk W0 b [.int .u64 (fnv0 : Nat)] 68 := by rw [HW0.out, HB.out]; exact Blk.new w [.int .u64 14695981039346656037] _
  have HB0 := hid hb0
  have HK0 := hid hk0
  clear h hat hw hb0 hk0
  go_enter Tryz.func40, Tryz.ntmps40
  go_wp2_with fail
  rw [← HW0.out, ← HB.out]
  go_loopw [8] (fun v8 wr => ∃ (i x : Nat), v8 = .int .i64 (i : Int) ∧ i ≤ n ∧ Hid (x = fnv fnv0 ((l.take i).flatMap dText) ∧ x < 18446744073709551616) ∧ Hid (Blk wr b [.int .u64 (x : Int)] 68 ∧ But b W0 wr)) (fun v8 _ => n - (intOf v8).toNat)
  case atStart => exact ⟨0, fnv0, rfl, by omega, ⟨rfl, by decide⟩, HK0.out, But.refl _ _⟩
  case round =>
    obtain ⟨i, x, rfl, hi, HX, HWR⟩ := hrel
    have hbw : Below w.heap.size w wr := HB0.out.trans (HWR.out.2.to_below (by rw [HB.out]; exact Nat.le_refl _) HB0.out.size)
    by_cases hlt : i < n
    · have hti : l[i]? = some (l[i]'(by rw [← HN.out]; exact hlt)) := List.getElem?_eq_getElem _
      generalize l[i]'(by rw [← HN.out]; exact hlt) = t at hti
      have hat := HAT.out
      obtain ⟨ht1, g, o, ha, g0⟩ := hat i t hti
      clear hat
      replace g0 := below_keeps hbw _ _ g0
      have hix := index_run1 Tryz.underlying39 size_str ha i hlt (cap := cap)
      have htl : t.length ≤ 1099511627776 := by
        have h1 := twt_take _ _ _ hti
        have h2 := twt_take_le l (i + 1)
        have h3 := HW.out
        omega
      have HC := hid (sum_text HX.out.2 HWR.out.1 htl)
      have HST : Hid (fnv x (dText t) = fnv fnv0 ((l.take (i + 1)).flatMap dText) ∧ fnv x (dText t) < 18446744073709551616) := ⟨by rw [flat_take _ hti, fnv_append, ← HX.out.1], fnv_lt _ _ HX.out.2⟩
      clear ha hti htl hbw
      unfold strV at g0 HC
      go_wp2_with fail
      refine HC.out.mono ?_
      rintro e w1 ⟨rfl, h1, h2⟩
      have HW1 := hid (And.intro h1 (HWR.out.2.trans h2))
      clear h1 h2
      go_wp2_with fail
      go_roundw
      case rel => exact ⟨i + 1, _, by go_num, hlt, HST.out, HW1.out⟩
      case measure => simp [intOf]; omega
    · obtain rfl : i = n := by omega
      have HE : Hid (x = R) := by rw [Hid, HR.out, HX.out.1, HN.out, List.take_length]; rfl
      have HBW := hid hbw
      have k0 := HWR.out.1.cell 0 _ rfl
      have kl := HWR.out.1.lt
      clear hbw
      go_wp2_with fail
      go_ret
      exact ⟨by rw [HE.out]; rfl, HBW.out⟩
/-- the contract of digest.message at messages at most d deep -/
def DigOk (d : Nat) : Prop := ∀ (w : World) (v : Value) (x : M d), MsgAt d w v x → mwt d x ≤ 1099511627776 →
  Calls Tryz.prog 18 #[v] w fun e w' => e = .returned (.int .u64 (dMsg d x : Nat)) ∧ Below w.heap.size w w'
set_option maxRecDepth 100000 in
set_option maxHeartbeats 4000000 in
theorem digest_value_of {d : Nat} (ih : DigOk d) {w : World} {v : Value} {x : Val (M d)} (h : ValAt (MsgAt d) w v x) (hw : vwt (mwt d) x ≤ 1099511627776) :
    Calls Tryz.prog 38 #[v] w fun e w' => e = .returned (.int .u64 (dVal d x : Nat)) ∧ Below w.heap.size w w' := by
  obtain ⟨wv, tv, sv, rfl, hnum, hWd, hT, hS⟩ := h
  obtain ⟨hwl, wa, wc, rfl, -, hwa⟩ := hWd.open
  obtain ⟨htl, ta, tc, rfl, -, hta⟩ := hT.open
  obtain ⟨hsl, sa, sc, rfl, -, hsa⟩ := hS.open
  obtain ⟨wn, HWN⟩ : ∃ n, Hid (n = x.words.length) := ⟨_, rfl⟩
  obtain ⟨tn, HTN⟩ : ∃ n, Hid (n = x.texts.length) := ⟨_, rfl⟩
  obtain ⟨sn, HSN⟩ : ∃ n, Hid (n = x.subs.length) := ⟨_, rfl⟩
  have HVW : Hid (vwt (mwt d) x ≤ 1099511627776) := hw
  rw [← HWN.out] at hwl ⊢
  rw [← HTN.out] at htl ⊢
  rw [← HSN.out] at hsl ⊢
  have HWA := hid hwa
  have HTA := hid hta
  have HSA := hid hsa
  have HIH := hid ih
  obtain ⟨R, HR⟩ : ∃ R, Hid (R = dVal d x) := ⟨_, rfl⟩
  rw [← HR.out]
  generalize x.num = num at *
  obtain ⟨b, HB⟩ : ∃ b, Hid (b = w.heap.size + 1) := ⟨_, rfl⟩
  obtain ⟨W0, HW0⟩ : ∃ W0, Hid (W0 = (w.alloc (.cells #[.int .i64 num, .slice wa wn wc, .slice ta tn tc, .slice sa sn sc] 103)).alloc (.cells #[.int .u64 14695981039346656037] 68)) := ⟨_, rfl⟩
  have hb0 : Below w.heap.size w W0 := by rw [HW0.out]; (repeat (first | with_reducible exact Below.refl _ _ | with_reducible refine Below.setCell ?_ (by first | omega | (simp; omega) | (simp; done)) _ | with_reducible refine Below.alloc ?_ (by first | omega | (simp; omega) | (simp; done)) _ | with_reducible refine below_drewN ?_ _ | with_reducible refine Below.drew ?_))
  have hv0 : Blk W0 w.heap.size [.int .i64 num, .slice wa wn wc, .slice ta tn tc, .slice sa sn sc] 103 := by rw [HW0.out]; exact (Blk.new w [.int .i64 num, .slice wa wn wc, .slice ta tn tc, .slice sa sn sc] _).alloc _
  have hk0 : Blk W0 b [.int .u64 (fnv0 : Nat)] 68 := by rw [HW0.out, HB.out]; exact Blk.new' _ [.int .u64 14695981039346656037] _ _ (by simp)
  have c1 := hv0.cell 1 _ rfl
  have c2 := hv0.cell 2 _ rfl
  have c3 := hv0.cell 3 _ rfl
  have cl := hv0.lt
  have HB0 := hid hb0
  have HK0 := hid hk0
  have HV0 := hid hv0
  obtain ⟨D1, HD1⟩ : ∃ D, Hid (D = fnv fnv0 (x.words.flatMap dWord)) := ⟨_, rfl⟩
  obtain ⟨D2, HD2⟩ : ∃ D, Hid (D = fnv D1 (x.texts.flatMap dText)) := ⟨_, rfl⟩
  have HD1L : Hid (D1 < 18446744073709551616) := by rw [HD1.out]; exact fnv_lt _ _ (by decide)
  have HD2L : Hid (D2 < 18446744073709551616) := by rw [HD2.out]; exact fnv_lt _ _ HD1L.out
  have HRD : Hid (R = fnv D2 (x.subs.flatMap fun y => dWord (dMsg d y))) := by rw [Hid, HR.out, HD2.out, HD1.out, ← fnv_append, ← fnv_append]; unfold dVal dValL; rfl
  have HBW : Hid (∀ wr, But b W0 wr → Below w.heap.size w wr) := fun wr h => HB0.out.trans (h.to_below (by rw [HB.out]; omega) HB0.out.size)
  clear hwa hta hsa ih hWd hT hS hw hb0 hk0 hv0
  go_enter Tryz.func38, Tryz.ntmps38
  go_wp2_with fail
  rw [← HW0.out, ← HB.out]
  go_loopw [13] (fun v13 wr => ∃ (i z : Nat), v13 = .int .i64 (i : Int) ∧ i ≤ wn ∧ Hid (z = fnv fnv0 ((x.words.take i).flatMap dWord) ∧ z < 18446744073709551616) ∧ Hid (Blk wr b [.int .u64 (z : Int)] 68 ∧ But b W0 wr)) (fun v13 _ => wn - (intOf v13).toNat)
  case atStart => exact ⟨0, fnv0, rfl, by omega, ⟨rfl, by decide⟩, HK0.out, But.refl _ _⟩
  case round =>
    obtain ⟨i, z, rfl, hi, HX, HWR⟩ := hrel
    by_cases hlt : i < wn
    · have hti : x.words[i]? = some (x.words[i]'(by rw [← HWN.out]; exact hlt)) := List.getElem?_eq_getElem _
      generalize x.words[i]'(by rw [← HWN.out]; exact hlt) = t at hti
      have hat := HWA.out
      obtain ⟨ht1, g, o, ha, g0⟩ := hat i t hti
      clear hat
      replace g0 := below_keeps (HBW.out _ HWR.out.2) _ _ g0
      have hix := index_run1 Tryz.underlying46 size_u64 ha i hlt (cap := wc)
      have HC := hid (sum_word (x := t) HX.out.2 HWR.out.1)
      have HST : Hid (fnv z (dWord t) = fnv fnv0 ((x.words.take (i + 1)).flatMap dWord) ∧ fnv z (dWord t) < 18446744073709551616) := ⟨by rw [flat_take _ hti, fnv_append, ← HX.out.1], fnv_lt _ _ HX.out.2⟩
      clear ha hti ht1 c1 c2 c3
      unfold wordV at g0
      go_wp2_with fail
      refine HC.out.mono ?_
      rintro e w1 ⟨rfl, h1, h2⟩
      have HW1 := hid (And.intro h1 (HWR.out.2.trans h2))
      clear h1 h2
      go_wp2_with fail
      go_roundw
      case rel => exact ⟨i + 1, _, by go_num, hlt, HST.out, HW1.out⟩
      case measure => simp [intOf]; omega
    · obtain rfl : i = wn := by omega
      have HE : Hid (z = D1) := by rw [Hid, HD1.out, HX.out.1, HWN.out, List.take_length]
      have hv1 := HWR.out.2.blk HV0.out (by rw [HB.out]; omega)
      have c2 := hv1.cell 2 _ rfl
      have cl := hv1.lt
      have HWS := HWR
      rw [HE.out] at HWS
      clear hv1 c1 c3 HWR HX HE hlt
      obtain ⟨W1, rfl⟩ : ∃ W, W = wr := ⟨_, rfl⟩
      go_wp2_with fail
      go_loopw [23] (fun v23 wr => ∃ (i z : Nat), v23 = .int .i64 (i : Int) ∧ i ≤ tn ∧ Hid (z = fnv D1 ((x.texts.take i).flatMap dText) ∧ z < 18446744073709551616) ∧ Hid (Blk wr b [.int .u64 (z : Int)] 68 ∧ But b W0 wr)) (fun v23 _ => tn - (intOf v23).toNat)
      case atStart => exact ⟨0, D1, rfl, by omega, ⟨rfl, HD1L.out⟩, HWS.out⟩
      case round =>
        obtain ⟨i, z, rfl, hi, HX, HWR⟩ := hrel
        by_cases hlt : i < tn
        · have hti : x.texts[i]? = some (x.texts[i]'(by rw [← HTN.out]; exact hlt)) := List.getElem?_eq_getElem _
          generalize x.texts[i]'(by rw [← HTN.out]; exact hlt) = t at hti
          have hat := HTA.out
          obtain ⟨ht1, g, o, ha, g0⟩ := hat i t hti
          clear hat
          replace g0 := below_keeps (HBW.out _ HWR.out.2) _ _ g0
          have hix := index_run1 Tryz.underlying39 size_str ha i hlt (cap := tc)
          have htl : t.length ≤ 1099511627776 := by
            have h1 := twt_take _ _ _ hti
            have h2 := twt_take_le x.texts (i + 1)
            have h3 := HVW.out
            unfold vwt at h3
            omega
          have HC := hid (sum_text HX.out.2 HWR.out.1 htl)
          have HST : Hid (fnv z (dText t) = fnv D1 ((x.texts.take (i + 1)).flatMap dText) ∧ fnv z (dText t) < 18446744073709551616) := ⟨by rw [flat_take _ hti, fnv_append, ← HX.out.1], fnv_lt _ _ HX.out.2⟩
          clear ha hti htl ht1 c2
          unfold strV at g0 HC
          go_wp2_with fail
          refine HC.out.mono ?_
          rintro e w1 ⟨rfl, h1, h2⟩
          have HW1 := hid (And.intro h1 (HWR.out.2.trans h2))
          clear h1 h2
          go_wp2_with fail
          go_roundw
          case rel => exact ⟨i + 1, _, by go_num, hlt, HST.out, HW1.out⟩
          case measure => simp [intOf]; omega
        · obtain rfl : i = tn := by omega
          have HE : Hid (z = D2) := by rw [Hid, HD2.out, HX.out.1, HTN.out, List.take_length]
          have hv1 := HWR.out.2.blk HV0.out (by rw [HB.out]; omega)
          have c3 := hv1.cell 3 _ rfl
          have cl := hv1.lt
          have HWT := HWR
          rw [HE.out] at HWT
          clear hv1 c2 HWR HX HE hlt
          obtain ⟨W2, rfl⟩ : ∃ W, W = wr := ⟨_, rfl⟩
          go_wp2_with fail
          go_loopw [33] (fun v33 wr => ∃ (i z : Nat), v33 = .int .i64 (i : Int) ∧ i ≤ sn ∧ Hid (z = fnv D2 ((x.subs.take i).flatMap fun y => dWord (dMsg d y)) ∧ z < 18446744073709551616) ∧ Hid (Blk wr b [.int .u64 (z : Int)] 68 ∧ But b W0 wr)) (fun v33 _ => sn - (intOf v33).toNat)
          case atStart => exact ⟨0, D2, rfl, by omega, ⟨rfl, HD2L.out⟩, HWT.out⟩
          case round =>
            obtain ⟨i, z, rfl, hi, HX, HWR⟩ := hrel
            by_cases hlt : i < sn
            · have hti : x.subs[i]? = some (x.subs[i]'(by rw [← HSN.out]; exact hlt)) := List.getElem?_eq_getElem _
              generalize x.subs[i]'(by rw [← HSN.out]; exact hlt) = y at hti
              have hat := HSA.out
              obtain ⟨g, o, u1, u2, ha, g0, g1, hY⟩ := hat i y hti
              obtain ⟨q1, s1, t1, q2, s2, t2, e3⟩ := formM hY
              cases e3
              clear hat
              have hbw := HBW.out _ HWR.out.2
              replace g0 := below_keeps hbw _ _ g0
              replace g1 := below_keeps hbw _ _ g1
              have hgl := World.block_lt_of_cell? wr _ g0
              have hix := index_run Tryz.underlying101 size_msg ha i hlt (cap := sc)
              have HYW : Hid (mwt d y ≤ 1099511627776) := by
                have h1 := mem_sum_le (mwt d) x.subs y (List.mem_of_getElem? hti)
                have h2 := HVW.out
                unfold vwt at h2
                show _ ≤ _; omega
              have HST : Hid (fnv z (dWord (dMsg d y)) = fnv D2 ((x.subs.take (i + 1)).flatMap fun y => dWord (dMsg d y)) ∧ fnv z (dWord (dMsg d y)) < 18446744073709551616) := ⟨by rw [flat_take _ hti, fnv_append, ← HX.out.1], fnv_lt _ _ HX.out.2⟩
              have HYY := hid (hY.below hbw)
              clear ha hti hY hbw c3
              obtain ⟨w1, HW1⟩ : ∃ w1, Hid (w1 = wr.alloc (.cells #[.slice q1 s1 t1, .slice q2 s2 t2] 63)) := ⟨_, rfl⟩
              have hb1 : Below wr.heap.size wr w1 := by rw [HW1.out]; (repeat (first | with_reducible exact Below.refl _ _ | with_reducible refine Below.setCell ?_ (by first | omega | (simp; omega) | (simp; done)) _ | with_reducible refine Below.alloc ?_ (by first | omega | (simp; omega) | (simp; done)) _ | with_reducible refine below_drewN ?_ _ | with_reducible refine Below.drew ?_))
              have hM := HIH.out w1 _ y (HYY.out.below hb1) HYW.out
              have HM := hid hM
              have HB1 := hid hb1
              clear hM hb1
              go_wp2_with fail
              rw [← HW1.out]
              refine HM.out.mono ?_
              rintro e w2 ⟨rfl, hb2⟩
              have HB2 := hid (HB1.out.trans (hb2.mono HB1.out.size))
              have HC := hid (sum_word (x := dMsg d y) HX.out.2 (HWR.out.1.below HB2.out))
              generalize dMsg d y = D at *
              clear hb2
              go_wp2_with fail
              refine HC.out.mono ?_
              rintro e w3 ⟨rfl, h1, h2⟩
              have HW3 := hid (And.intro h1 ((HWR.out.2.below HB2.out).trans h2))
              clear h1 h2
              go_wp2_with fail
              go_roundw
              case rel => exact ⟨i + 1, _, by go_num, hlt, HST.out, HW3.out⟩
              case measure => simp [intOf]; omega
            · obtain rfl : i = sn := by omega
              have HE : Hid (z = R) := by rw [Hid, HRD.out, HX.out.1, HSN.out, List.take_length]
              have HBX := hid (HBW.out _ HWR.out.2)
              have k0 := HWR.out.1.cell 0 _ rfl
              have kl := HWR.out.1.lt
              clear c3
              go_wp2_with fail
              go_ret
              exact ⟨by rw [HE.out]; rfl, HBX.out⟩
theorem u64_num (n : Int) : IntKind.u64.wrap n = ((u64n n : Nat) : Int) := by
  rw [IntKind.wrap_u64]; unfold u64n; omega
set_option maxRecDepth 100000 in
set_option maxHeartbeats 4000000 in
theorem digest_message : ∀ (d : Nat), DigOk d := by
  intro d
  induction d with
  | zero => exact fun _ _ _ h _ => h.elim
  | succ d ih =>
    intro w v x h hw
    obtain ⟨vv, uv, rfl, hS, hT⟩ := h
    obtain ⟨htl, ta, tc, rfl, -, hta⟩ := hT.open
    obtain ⟨hsl, sa, sc, rfl, -, hsa⟩ := hS.open
    obtain ⟨tn, HTN⟩ : ∃ n, Hid (n = (M.unk x).length) := ⟨_, rfl⟩
    obtain ⟨sn, HSN⟩ : ∃ n, Hid (n = (M.vals x).length) := ⟨_, rfl⟩
    have HVW : Hid (1 + twt (M.unk x) + ((M.vals x).map (vwt (mwt d))).sum ≤ 1099511627776) := hw
    rw [← HTN.out] at htl ⊢
    rw [← HSN.out] at hsl ⊢
    have HTA := hid hta
    have HSA := hid hsa
    have HIH := hid ih
    obtain ⟨F, HF⟩ : ∃ F : Val (M d) → List UInt8, Hid (F = fun v => dWord (u64n v.num) ++ dWord (dVal d v)) := ⟨_, rfl⟩
    obtain ⟨G, HG⟩ : ∃ G : List UInt8 → List UInt8, Hid (G = fun t => dWord 0 ++ dText t) := ⟨_, rfl⟩
    obtain ⟨R, HR⟩ : ∃ R, Hid (R = dMsg (d + 1) x) := ⟨_, rfl⟩
    rw [← HR.out]
    obtain ⟨D1, HD1⟩ : ∃ D, Hid (D = fnv fnv0 ((M.vals x).flatMap F)) := ⟨_, rfl⟩
    have HD1L : Hid (D1 < 18446744073709551616) := by rw [HD1.out]; exact fnv_lt _ _ (by decide)
    have HRD : Hid (R = fnv D1 ((M.unk x).flatMap G)) := by
      rw [Hid, HR.out, HD1.out, HF.out, HG.out, ← fnv_append]
      unfold dMsg dVal
      rfl
    obtain ⟨vs, HVS⟩ : ∃ vs, Hid (vs = M.vals x) := ⟨_, rfl⟩
    obtain ⟨ts, HTS⟩ : ∃ ts, Hid (ts = M.unk x) := ⟨_, rfl⟩
    rw [← HVS.out] at HSN HVW HSA HD1
    rw [← HTS.out] at HTN HVW HTA HRD
    obtain ⟨b, HB⟩ : ∃ b, Hid (b = w.heap.size + 1) := ⟨_, rfl⟩
    obtain ⟨W0, HW0⟩ : ∃ W0, Hid (W0 = (w.alloc (.cells #[.slice sa sn sc, .slice ta tn tc] 63)).alloc (.cells #[.int .u64 14695981039346656037] 68)) := ⟨_, rfl⟩
    have hb0 : Below w.heap.size w W0 := by rw [HW0.out]; (repeat (first | with_reducible exact Below.refl _ _ | with_reducible refine Below.setCell ?_ (by first | omega | (simp; omega) | (simp; done)) _ | with_reducible refine Below.alloc ?_ (by first | omega | (simp; omega) | (simp; done)) _ | with_reducible refine below_drewN ?_ _ | with_reducible refine Below.drew ?_))
    have hv0 : Blk W0 w.heap.size [.slice sa sn sc, .slice ta tn tc] 63 := by rw [HW0.out]; exact (Blk.new w [.slice sa sn sc, .slice ta tn tc] _).alloc _
    have hk0 : Blk W0 b [.int .u64 (fnv0 : Nat)] 68 := by rw [HW0.out, HB.out]; exact Blk.new' _ [.int .u64 14695981039346656037] _ _ (by simp)
    have c0 := hv0.cell 0 _ rfl
    have cl := hv0.lt
    have HB0 := hid hb0
    have HK0 := hid hk0
    have HV0 := hid hv0
    have HBW : Hid (∀ wr, But b W0 wr → Below w.heap.size w wr) := fun wr h => HB0.out.trans (h.to_below (by rw [HB.out]; omega) HB0.out.size)
    clear hta hsa ih hT hS hw hb0 hk0 hv0 HR HVS HTS
    clear x
    go_enter Tryz.func18, Tryz.ntmps18
    go_wp2_with fail
    rw [← HW0.out, ← HB.out]
    go_loopw [11] (fun v11 wr => ∃ (i z : Nat), v11 = .int .i64 (i : Int) ∧ i ≤ sn ∧ Hid (z = fnv fnv0 ((vs.take i).flatMap F) ∧ z < 18446744073709551616) ∧ Hid (Blk wr b [.int .u64 (z : Int)] 68 ∧ But b W0 wr)) (fun v11 _ => sn - (intOf v11).toNat)
    case atStart => exact ⟨0, fnv0, rfl, by omega, ⟨rfl, by decide⟩, HK0.out, But.refl _ _⟩
    case round =>
      obtain ⟨i, z, rfl, hi, HX, HWR⟩ := hrel
      by_cases hlt : i < sn
      · have hti : vs[i]? = some (vs[i]'(by rw [← HSN.out]; exact hlt)) := List.getElem?_eq_getElem _
        generalize vs[i]'(by rw [← HSN.out]; exact hlt) = m at hti
        have hat := HSA.out
        obtain ⟨g, o, v1, v2, v3, ha, g0, g1, g2, g3, hM⟩ := hat i m hti
        obtain ⟨p1, i1, j1, p2, i2, j2, p3, i3, j3, rfl, rfl, rfl⟩ := formV hM
        clear hat
        have hbw := HBW.out _ HWR.out.2
        have hkr := below_keeps hbw
        replace g0 := hkr _ _ g0
        replace g1 := hkr _ _ g1
        replace g2 := hkr _ _ g2
        replace g3 := hkr _ _ g3
        have hgl := World.block_lt_of_cell? wr _ g0
        have hix := index_run Tryz.underlying61 size_val ha i hlt (cap := sc)
        have HMW : Hid (vwt (mwt d) m ≤ 1099511627776) := by
          have h1 := mem_sum_le (vwt (mwt d)) vs m (List.mem_of_getElem? hti)
          have h2 := HVW.out
          show _ ≤ _; omega
        have HST : Hid (fnv (fnv z (dWord (u64n m.num))) (dWord (dVal d m)) = fnv fnv0 ((vs.take (i + 1)).flatMap F) ∧ fnv (fnv z (dWord (u64n m.num))) (dWord (dVal d m)) < 18446744073709551616) := by
          refine ⟨?_, fnv_lt _ _ (fnv_lt _ _ HX.out.2)⟩
          rw [flat_take _ hti, fnv_append, ← HX.out.1, HF.out, ← fnv_append]
        have HMM := hid hM
        have HUN := hid (u64_num m.num)
        have HC := hid (fun W z hz hk => sum_word (w := W) (b := b) (h := z) (x := u64n m.num) hz hk)
        have HDV := hid fun W hb => digest_value_of (w := W) HIH.out (VMsg.below HMM.out hb) HMW.out
        obtain ⟨D, HD⟩ : ∃ D, Hid (D = dVal d m) := ⟨_, rfl⟩
        obtain ⟨U, HU⟩ : ∃ U, Hid (U = u64n m.num) := ⟨_, rfl⟩
        rw [← HD.out, ← HU.out] at HST
        rw [← HD.out] at HDV
        rw [← HU.out] at HUN HC
        clear ha hti hM hbw hkr c0 HD HU HMM
        generalize m.num = num at *
        have hun := HUN.out
        obtain ⟨X, HXX⟩ : ∃ X, Hid (X = wr.heap.size) := ⟨_, rfl⟩
        obtain ⟨w1, HW1⟩ : ∃ w1, Hid (w1 = wr.alloc (.cells #[.int .i64 num, .slice p1 i1 j1, .slice p2 i2 j2, .slice p3 i3 j3] 103)) := ⟨_, rfl⟩
        have hb1 : Below wr.heap.size wr w1 := by rw [HW1.out]; (repeat (first | with_reducible exact Below.refl _ _ | with_reducible refine Below.setCell ?_ (by first | omega | (simp; omega) | (simp; done)) _ | with_reducible refine Below.alloc ?_ (by first | omega | (simp; omega) | (simp; done)) _ | with_reducible refine below_drewN ?_ _ | with_reducible refine Below.drew ?_))
        have hx1 : Blk w1 X [.int .i64 num, .slice p1 i1 j1, .slice p2 i2 j2, .slice p3 i3 j3] 103 := by rw [HW1.out, HXX.out]; exact Blk.new wr [.int .i64 num, .slice p1 i1 j1, .slice p2 i2 j2, .slice p3 i3 j3] _
        have HB1 := hid hb1
        have HX1 := hid hx1
        have HXB : Hid (X ≠ b) := by
          have h1 := HWR.out.1.lt
          show X ≠ b
          rw [HXX.out]; omega
        clear hb1 hx1
        go_upto_region 5 with fail
        rw [← HW1.out, ← HXX.out]
        have x0 := HX1.out.cell 0 _ rfl
        have xl := HX1.out.lt
        clear g0 g1 g2 g3 hgl hix
        go_wp2_with fail
        refine (HC.out w1 z HX.out.2 (HWR.out.1.below HB1.out)).mono ?_
        rintro e w2 ⟨rfl, h1, h2⟩
        have HW2 := hid (And.intro h1 ((HWR.out.2.below HB1.out).trans h2))
        have HX2 := hid (h2.blk HX1.out HXB.out)
        have HB2 := hid (HBW.out _ HW2.out.2)
        clear h1 h2 x0 xl hun
        have x0 := HX2.out.cell 0 _ rfl
        have x1 := HX2.out.cell 1 _ rfl
        have x2 := HX2.out.cell 2 _ rfl
        have x3 := HX2.out.cell 3 _ rfl
        have xl := HX2.out.lt
        go_wp2_with fail
        refine (HDV.out w2 HB2.out).mono ?_
        rintro e w3 ⟨rfl, hb3⟩
        have HC2 := hid (sum_word (x := D) (fnv_lt (dWord U) z HX.out.2) (HW2.out.1.below hb3))
        have HB3 := hid (HW2.out.2.below hb3)
        clear hb3 x0 x1 x2 x3 xl
        go_wp2_with fail
        refine HC2.out.mono ?_
        rintro e w4 ⟨rfl, h1, h2⟩
        have HW4 := hid (And.intro h1 (HB3.out.trans h2))
        clear h1 h2
        go_wp2_with fail
        go_roundw
        case rel => exact ⟨i + 1, _, by go_num, hlt, HST.out, HW4.out⟩
        case measure => simp [intOf]; omega
      · obtain rfl : i = sn := by omega
        have HE : Hid (z = D1) := by rw [Hid, HD1.out, HX.out.1, HSN.out, List.take_length]
        have hv1 := HWR.out.2.blk HV0.out (by rw [HB.out]; omega)
        have c1 := hv1.cell 1 _ rfl
        have cl := hv1.lt
        have HWS := HWR
        rw [HE.out] at HWS
        clear hv1 c0 HWR HX HE hlt
        obtain ⟨W1, rfl⟩ : ∃ W, W = wr := ⟨_, rfl⟩
        go_wp2_with fail
        go_loopw [26] (fun v26 wr => ∃ (i z : Nat), v26 = .int .i64 (i : Int) ∧ i ≤ tn ∧ Hid (z = fnv D1 ((ts.take i).flatMap G) ∧ z < 18446744073709551616) ∧ Hid (Blk wr b [.int .u64 (z : Int)] 68 ∧ But b W0 wr)) (fun v26 _ => tn - (intOf v26).toNat)
        case atStart => exact ⟨0, D1, rfl, by omega, ⟨rfl, HD1L.out⟩, HWS.out⟩
        case round =>
          obtain ⟨i, z, rfl, hi, HX, HWR⟩ := hrel
          by_cases hlt : i < tn
          · have hti : ts[i]? = some (ts[i]'(by rw [← HTN.out]; exact hlt)) := List.getElem?_eq_getElem _
            generalize ts[i]'(by rw [← HTN.out]; exact hlt) = t at hti
            have hat := HTA.out
            obtain ⟨ht1, g, o, ha, g0⟩ := hat i t hti
            clear hat
            replace g0 := below_keeps (HBW.out _ HWR.out.2) _ _ g0
            have hix := index_run1 Tryz.underlying39 size_str ha i hlt (cap := tc)
            have htl : t.length ≤ 1099511627776 := by
              have h1 := twt_take _ _ _ hti
              have h2 := twt_take_le ts (i + 1)
              have h3 := HVW.out
              omega
            have HC := hid (sum_word (x := 0) HX.out.2 HWR.out.1)
            have HC2 := hid fun W hk => sum_text (w := W) (b := b) (fnv_lt (dWord 0) z HX.out.2) hk htl
            have HST : Hid (fnv (fnv z (dWord 0)) (dText t) = fnv D1 ((ts.take (i + 1)).flatMap G) ∧ fnv (fnv z (dWord 0)) (dText t) < 18446744073709551616) := by
              refine ⟨?_, fnv_lt _ _ (fnv_lt _ _ HX.out.2)⟩
              rw [flat_take _ hti, fnv_append, ← HX.out.1, HG.out, ← fnv_append]
            clear ha hti htl ht1 c1
            unfold strV at g0 HC2
            go_wp2_with fail
            refine HC.out.mono ?_
            rintro e w1 ⟨rfl, h1, h2⟩
            have HW1 := hid (And.intro h1 (HWR.out.2.trans h2))
            clear h1 h2
            go_wp2_with fail
            refine (HC2.out w1 HW1.out.1).mono ?_
            rintro e w2 ⟨rfl, h1, h2⟩
            have HW2 := hid (And.intro h1 (HW1.out.2.trans h2))
            clear h1 h2
            go_wp2_with fail
            go_roundw
            case rel => exact ⟨i + 1, _, by go_num, hlt, HST.out, HW2.out⟩
            case measure => simp [intOf]; omega
          · obtain rfl : i = tn := by omega
            have HE : Hid (z = R) := by rw [Hid, HRD.out, HX.out.1, HTN.out, List.take_length]
            have HBX := hid (HBW.out _ HWR.out.2)
            have k0 := HWR.out.1.cell 0 _ rfl
            have kl := HWR.out.1.lt
            clear c1
            go_wp2_with fail
            go_ret
            exact ⟨by rw [HE.out]; rfl, HBX.out⟩
theorem digest_value {d : Nat} {w : World} {v : Value} {x : Val (M d)} (h : ValAt (MsgAt d) w v x) (hw : vwt (mwt d) x ≤ 1099511627776) :
    Calls Tryz.prog 38 #[v] w fun e w' => e = .returned (.int .u64 (dVal d x : Nat)) ∧ Below w.heap.size w w' := digest_value_of (digest_message d) h hw
end Go.Proofs.YtbcpeckmnmhfhaaGreat
namespace Go.Proofs.YtbcpeckmnmhfhaaGreat
open Go.RowKit
structure Lin (α : Type) where
  num : Int
  dig : Nat
  sub : Option α
structure Shd (α : Type) where
  dig : Nat
  unk : Nat
  lines : List (Lin α)
def Sh : Nat → Type
  | 0 => Empty
  | d + 1 => Shd (Sh d)
def subF (f : Fld) : Bool := decide (f.kind = 17) && !f.rep
/-- the sheet of a meaning -/
def mkSh (s : List Mes) : (d : Nat) → Int → M d → Sh d
  | 0, _, x => Empty.elim x
  | d + 1, root, x => (⟨dMsg (d + 1) x, dUnk (M.unk x), (M.vals x).map fun v =>
      ⟨v.num, dVal d v, if subF ((s.getD root.toNat .zero).fields.getD (fieldAt (s.getD root.toNat .zero).fields v.num).toNat .zero) = true then
        v.subs.head?.map (mkSh s d ((s.getD root.toNat .zero).fields.getD (fieldAt (s.getD root.toNat .zero).fields v.num).toNat .zero).of) else none⟩⟩ : Shd (Sh d))
/-- a sheet behind a pointer, or none -/
def PtrP {α : Type} (P : World → Value → α → Prop) (w : World) (v : Value) (o : Option α) : Prop := match o with
  | none => v = .pointer none
  | some y => P w v y
def LinP {α : Type} (P : World → Value → α → Prop) (w : World) (r : List Value) (l : Lin α) : Prop := ∃ p, r = [.int .i64 l.num, .int .u64 l.dig, p] ∧ PtrP P w p l.sub
def ShAt : (d : Nat) → World → Value → Sh d → Prop
  | 0, _, _, _ => False
  | d + 1, w, v, x => ∃ b lv, v = .pointer (some ⟨b, 0, none⟩) ∧ Blk w b [.int .u64 (Shd.dig x : Nat), .int .u64 (Shd.unk x : Nat), lv] 58 ∧ RowsAt (LinP (ShAt d)) 3 w lv (Shd.lines x)
/-- the document's sheet -/
def OptP {α : Type} (P : World → Value → α → Prop) (w : World) (r : List Value) (o : Option α) : Prop := ∃ u, r = [u] ∧ match o with
  | none => u = .slice none 0 0
  | some y => RowsAt (fun w r y => P w (.agg r.toArray) y) 5 w u [y]
def RShAt : (d : Nat) → World → Value → Sh d → Prop
  | 0, _, _, _ => False
  | d + 1, w, v, x => ∃ nv dv sv, v = .agg #[.int .u64 (Shd.dig x : Nat), .int .u64 (Shd.unk x : Nat), nv, dv, sv] ∧ IntsAt w nv ((Shd.lines x).map Lin.num) ∧ WordsAt w dv ((Shd.lines x).map Lin.dig) ∧
      RowsAt (OptP (RShAt d)) 1 w sv ((Shd.lines x).map Lin.sub)
theorem ShAt.below : ∀ {d : Nat} {w w' : World} {v : Value} {x : Sh d}, ShAt d w v x → Below w.heap.size w w' → ShAt d w' v x
  | 0, _, _, _, _, h, _ => h.elim
  | d + 1, w, w', v, x, h, hb => by
    obtain ⟨b, lv, rfl, h1, h2⟩ := h
    refine ⟨b, lv, rfl, h1.below hb, h2.keep (below_keeps hb) fun r l hl => ?_⟩
    obtain ⟨p, rfl, hp⟩ := hl
    refine ⟨p, rfl, ?_⟩
    unfold PtrP at hp ⊢
    cases e : l.sub with
    | none => rw [e] at hp; exact hp
    | some y => rw [e] at hp; exact ShAt.below hp hb
theorem RShAt.keep : ∀ {d : Nat} {w w' : World} {v : Value} {x : Sh d}, RShAt d w v x → (∀ p u, w.cell? p = some u → w'.cell? p = some u) → RShAt d w' v x
  | 0, _, _, _, _, h, _ => h.elim
  | d + 1, w, w', v, x, h, hk => by
    obtain ⟨nv, dv, sv, rfl, h1, h2, h3⟩ := h
    refine ⟨nv, dv, sv, rfl, h1.keep hk, h2.keep hk, h3.keep hk fun r o ho => ?_⟩
    obtain ⟨u, rfl, hu⟩ := ho
    refine ⟨u, rfl, ?_⟩
    cases o with
    | none => exact hu
    | some y => exact RowsAt.keep hu hk fun r y hy => RShAt.keep hy hk
end Go.Proofs.YtbcpeckmnmhfhaaGreat
