/- darningref27.word, text: dWord, dText. Texts of at most 2^40 bytes. -/
import Derived.Test.YtbcpeckmnmhfhaaGreatZ20
import Derived.Test.YtbcpeckmnmhfhaaGreatZ38
import Derived.Test.YtbcpeckmnmhfhaaGreatZ39
import Derived.Test.YtbcpeckmnmhfhaaGreatZ41
import Derived.Deep.CutBlock
import Derived.Deep.CutRange
import Derived.Deep.RegionHeld3
namespace Go.Proofs.YtbcpeckmnmhfhaaGreat
open Go.RowKit
set_option maxRecDepth 100000 in
set_option maxHeartbeats 4000000 in
theorem ref27_word (x : Nat) (hx : x < 2 ^ 64) (w : World) :
    Calls Tryz.prog 30 #[.int .u64 x] w fun e w' => ∃ v', e = .returned v' ∧ Own w' w.heap.size v' (dWord x) ∧ Below w.heap.size w w' := by
  have HL := hid (ref01_Little_8 x hx w)
  obtain ⟨Q, HQ⟩ : ∃ Q : Ending → World → Prop, Hid (Q = fun e w' => ∃ v', e = .returned v' ∧ Own w' w.heap.size v' (dWord x) ∧ Below w.heap.size w w') := ⟨_, rfl⟩
  rw [← HQ.out]
  clear hx
  go_enter Tryz.func30, Tryz.ntmps30
  go_wp2_with fail
  refine HL.out.mono ?_
  rintro e w1 ⟨v, rfl, hO, hb⟩
  have HE : Hid (Q (.returned v) w1) := by rw [HQ.out]; exact ⟨v, rfl, hO, hb⟩
  clear hO hb
  go_wp2_with fail
  exact HE.out
set_option maxRecDepth 100000 in
set_option maxHeartbeats 4000000 in
theorem ref27_text (t : List UInt8) (ht : t.length ≤ 1099511627776) (w : World) :
    Calls Tryz.prog 32 #[strV t] w fun e w' => ∃ v', e = .returned v' ∧ Own w' w.heap.size v' (dText t) ∧ Below w.heap.size w w' := by
  have HT := hid ht
  have hsb : (⟨t.toArray⟩ : ByteArray).size = t.length := by simp [ByteArray.size]
  have HW := hid (ref27_word t.length (by omega) w)
  obtain ⟨Q, HQ⟩ : ∃ Q : Ending → World → Prop, Hid (Q = fun e w' => ∃ v', e = .returned v' ∧ Own w' w.heap.size v' (dText t) ∧ Below w.heap.size w w') := ⟨_, rfl⟩
  rw [← HQ.out]
  unfold strV
  have e1 : IntKind.u64.wrap (t.length : Int) = (t.length : Int) := by rw [IntKind.wrap_u64]; omega
  obtain ⟨n, HN⟩ : ∃ n, Hid (n = t.length) := ⟨_, rfl⟩
  rw [← HN.out] at HW hsb e1
  obtain ⟨T, HTT⟩ : ∃ T, Hid (T = (⟨t.toArray⟩ : ByteArray)) := ⟨_, rfl⟩
  rw [← HTT.out] at hsb ⊢
  clear ht
  go_enter Tryz.func32, Tryz.ntmps32
  go_wp2_with fail
  refine HW.out.mono ?_
  rintro e w1 ⟨v1, rfl, hO, hb1⟩
  obtain ⟨a1, c1, rfl⟩ := hO.form
  obtain ⟨k, HKK⟩ : ∃ k, Hid (k = (dWord n).length) := ⟨_, rfl⟩
  have hk8 : (dWord n).length = 8 := little_len 8 n
  obtain ⟨v2, w2, hr, hO2, hg, -⟩ := own_append_str hO t (by have := HT.out; omega) hb1.size
  rw [← HTT.out, ← HKK.out] at hr
  rw [← HKK.out]
  have HE : Hid (Q (.returned v2) w2) := by
    rw [HQ.out]
    refine ⟨v2, rfl, ?_, own_grown hO hb1 hg⟩
    unfold dText
    rw [← HN.out]
    exact hO2
  obtain ⟨a2, c2, rfl⟩ := hO2.form
  obtain ⟨k2, HK2⟩ : ∃ k, Hid (k = (dWord n ++ t).length) := ⟨_, rfl⟩
  rw [← HK2.out] at hr HE
  clear hO hb1 hO2 hg hk8
  go_wp2_with (at_builtin; refine wpList_append2_eq rfl _ _ _ _ rfl _ _ rfl rfl hr ?_)
  exact HE.out
theorem dText_len (t : List UInt8) : (dText t).length = 8 + t.length := by
  unfold dText dWord
  rw [List.length_append, little_len]
theorem texts_len : ∀ l : List (List UInt8), (l.flatMap dText).length ≤ 8 * twt l
  | [] => by simp
  | t :: r => by
    have h1 := texts_len r
    have h2 : twt (t :: r) = (1 + t.length) + twt r := by unfold twt; rw [List.map_cons, List.sum_cons]
    rw [List.flatMap_cons, List.length_append, dText_len, h2]
    omega
theorem flat_take_le {α β : Type} (f : α → List β) (l : List α) (k : Nat) : ((l.take k).flatMap f).length ≤ (l.flatMap f).length := by
  conv => rhs; rw [← List.take_append_drop k l]
  rw [List.flatMap_append, List.length_append]
  omega
set_option maxRecDepth 100000 in
set_option maxHeartbeats 4000000 in
theorem ref27_Unknown {w : World} {v : Value} {l : List (List UInt8)} (h : StrsAt w v l) (hw : twt l ≤ 1099511627776) :
    Calls Tryz.prog 33 #[v] w fun e w' => e = .returned (.int .u64 (dUnk l : Nat)) ∧ Below w.heap.size w w' := by
  obtain ⟨hlen, a, cap, rfl, -, hat⟩ := h.open
  obtain ⟨n, HN⟩ : ∃ n, Hid (n = l.length) := ⟨_, rfl⟩
  rw [← HN.out] at hlen ⊢
  have HAT := hid hat
  have HW := hid hw
  obtain ⟨R, HR⟩ : ∃ R, Hid (R = dUnk l) := ⟨_, rfl⟩
  rw [← HR.out]
  clear h hat hw
  go_enter Tryz.func33, Tryz.ntmps33
  go_wp2_with fail
  go_loopw [3, 4] (fun v3 v4 wr => ∃ (i : Nat) (oa : Option Addr) (on oc : Nat), v3 = .slice oa on oc ∧ v4 = .int .i64 (i : Int) ∧ i ≤ n ∧ Hid (Own wr w.heap.size (.slice oa on oc) ((l.take i).flatMap dText) ∧ Below w.heap.size w wr)) (fun _ v4 _ => n - (intOf v4).toNat)
  case atStart => exact ⟨0, none, 0, 0, rfl, rfl, by omega, own_nil _ _, Below.refl _ _⟩
  case round =>
    obtain ⟨i, oa, on, oc, rfl, rfl, hi, HJ⟩ := hrel
    by_cases hlt : i < n
    · have hti : l[i]? = some (l[i]'(by rw [← HN.out]; exact hlt)) := List.getElem?_eq_getElem _
      generalize l[i]'(by rw [← HN.out]; exact hlt) = t at hti
      obtain ⟨ht1, g, o, ha, g0⟩ := HAT.out i t hti
      replace g0 := below_keeps HJ.out.2 _ _ g0
      have hix := index_run1 Tryz.underlying39 size_str ha i hlt (cap := cap)
      have htl : t.length ≤ 1099511627776 := by
        have h1 := twt_take _ _ _ hti
        have h2 := twt_take_le l (i + 1)
        have h3 := HW.out
        omega
      have HC := hid (ref27_text t htl wr)
      have HST := hid (flat_take dText hti)
      have HTL := hid htl
      clear ha hti htl ht1
      unfold strV at g0 HC
      go_wp2_with fail
      refine HC.out.mono ?_
      rintro e w1 ⟨v1, rfl, hO, hb1⟩
      obtain ⟨a1, c1, rfl⟩ := hO.form
      obtain ⟨k1, HK1⟩ : ∃ k, Hid (k = (dText t).length) := ⟨_, rfl⟩
      have hby := hO.bytes (by rw [dText_len]; have := HTL.out; omega)
      rw [← HK1.out] at hby ⊢
      have hb := HJ.out.2.trans (hb1.mono HJ.out.2.size)
      obtain ⟨v2, w2, hr, hO2, hg, -⟩ := own_append (HJ.out.1.below_of hb1) hby (by
        have h1 := flat_take_le dText l (i + 1)
        rw [HST.out, List.length_append] at h1
        have h2 := texts_len l
        have h3 := HW.out
        omega) hb.size
      have hb2 := own_grown (HJ.out.1.below_of hb1) hb hg
      obtain ⟨a2, c2, rfl⟩ := hO2.form
      obtain ⟨k2, HK2⟩ : ∃ k, Hid (k = ((l.take i).flatMap dText ++ dText t).length) := ⟨_, rfl⟩
      rw [← HK2.out] at hr hO2
      rw [← HST.out] at hO2
      have HJ2 := hid (And.intro hO2 hb2)
      clear hO hb1 hby hb hO2 hg hb2
      go_wp2_with (at_builtin; refine wpList_append_eq rfl _ _ _ rfl _ _ rfl rfl hr ?_)
      go_roundw
      case rel => exact ⟨i + 1, _, _, _, rfl, by go_num, hlt, HJ2.out⟩
      case measure => simp [intOf]; omega
    · obtain rfl : i = n := by omega
      have hO := HJ.out.1
      rw [HN.out, List.take_length] at hO
      have HS := hid (ref27_Sum (hO.bytes (by have := texts_len l; have := HW.out; omega)))
      have HB := hid HJ.out.2
      have HRE : Hid (fnv fnv0 (l.flatMap dText) = R) := by rw [Hid, HR.out]; rfl
      rw [HRE.out] at HS
      clear hO
      go_wp2_with fail
      refine HS.out.mono ?_
      rintro e w1 ⟨rfl, rfl⟩
      go_wp2_with fail
      go_ret
      exact ⟨rfl, HB.out⟩
theorem size_rmsgD (w : World) : (sizeOf 41).run Tryz.prog w = .ok 2 w := by kernel_rfl
theorem size_rvalD (w : World) : (sizeOf 79).run Tryz.prog w = .ok 4 w := by kernel_rfl
theorem words_len {α : Type} (f : α → Nat) : ∀ l : List α, (l.flatMap fun x => dWord (f x)).length = 8 * l.length
  | [] => by simp
  | x :: r => by
    rw [List.flatMap_cons, List.length_append, words_len f r, List.length_cons]
    unfold dWord
    rw [little_len]; omega
theorem dValL_len {d : Nat} (D : M d → Nat) (x : Val (M d)) : (dValL D x).length ≤ 8 * vwt (mwt d) x := by
  unfold dValL vwt
  rw [List.length_append, List.length_append, words_len (fun x => x), words_len]
  have h1 := texts_len x.texts
  have h2 := sub_count x.subs d rfl
  omega
/-- the contract of darningref27.Message at messages at most d deep -/
def RDigOk (d : Nat) : Prop := ∀ (w : World) (v : Value) (x : M d), MsgAt d w v x → mwt d x ≤ 1099511627776 →
  Calls Tryz.prog 13 #[v] w fun e w' => e = .returned (.int .u64 (dMsg d x : Nat)) ∧ Below w.heap.size w w'
set_option maxRecDepth 100000 in
set_option maxHeartbeats 4000000 in
theorem ref27_Value_of {d : Nat} (ih : RDigOk d) {w : World} {v : Value} {x : Val (M d)} (h : ValAt (MsgAt d) w v x) (hw : vwt (mwt d) x ≤ 1099511627776) :
    Calls Tryz.prog 31 #[v] w fun e w' => e = .returned (.int .u64 (dVal d x : Nat)) ∧ Below w.heap.size w w' := by
  obtain ⟨wv, tv, sv, rfl, hnum, hWd, hT, hS⟩ := h
  have HL64 : Hid (∀ y ∈ x.words, y < 2 ^ 64) := hWd.2
  obtain ⟨hwl, wa, wc, rfl, -, hwa⟩ := hWd.open
  obtain ⟨htl, ta, tc, rfl, -, hta⟩ := hT.open
  obtain ⟨hsl, sa, sc, rfl, -, hsa⟩ := hS.open
  obtain ⟨wn, HWN⟩ : ∃ n, Hid (n = x.words.length) := ⟨_, rfl⟩
  obtain ⟨tn, HTN⟩ : ∃ n, Hid (n = x.texts.length) := ⟨_, rfl⟩
  obtain ⟨sn, HSN⟩ : ∃ n, Hid (n = x.subs.length) := ⟨_, rfl⟩
  have HVW : Hid (vwt (mwt d) x ≤ 1099511627776) := hw
  have HVL : Hid ((dValL (dMsg d) x).length ≤ 8796093022208) := by have := dValL_len (dMsg d) x; show _ ≤ _; omega
  rw [← HWN.out] at hwl ⊢
  rw [← HTN.out] at htl ⊢
  rw [← HSN.out] at hsl ⊢
  have HWA := hid hwa
  have HTA := hid hta
  have HSA := hid hsa
  have HIH := hid ih
  obtain ⟨R, HR⟩ : ∃ R, Hid (R = dVal d x) := ⟨_, rfl⟩
  rw [← HR.out]
  generalize x.num = num at *
  obtain ⟨X, HX⟩ : ∃ b, Hid (b = w.heap.size) := ⟨_, rfl⟩
  obtain ⟨W0, HW0⟩ : ∃ W0, Hid (W0 = w.alloc (.cells #[.int .i64 num, .slice wa wn wc, .slice ta tn tc, .slice sa sn sc] 79)) := ⟨_, rfl⟩
  have hb0 : Below w.heap.size w W0 := by rw [HW0.out]; (repeat (first | with_reducible exact Below.refl _ _ | with_reducible refine Below.setCell ?_ (by first | omega | (simp; omega) | (simp; done)) _ | with_reducible refine Below.alloc ?_ (by first | omega | (simp; omega) | (simp; done)) _ | with_reducible refine below_drewN ?_ _ | with_reducible refine Below.drew ?_))
  have hv0 : Blk W0 X [.int .i64 num, .slice wa wn wc, .slice ta tn tc, .slice sa sn sc] 79 := by rw [HW0.out, HX.out]; exact Blk.new w [.int .i64 num, .slice wa wn wc, .slice ta tn tc, .slice sa sn sc] _
  have HB0 := hid hb0
  have HV0 := hid hv0
  obtain ⟨L1, HL1⟩ : ∃ L, Hid (L = x.words.flatMap dWord) := ⟨_, rfl⟩
  obtain ⟨L2, HL2⟩ : ∃ L, Hid (L = x.texts.flatMap dText) := ⟨_, rfl⟩
  obtain ⟨L3, HL3⟩ : ∃ L, Hid (L = x.subs.flatMap fun y => dWord (dMsg d y)) := ⟨_, rfl⟩
  have HLL : Hid (dValL (dMsg d) x = L1 ++ (L2 ++ L3)) := by rw [Hid, HL1.out, HL2.out, HL3.out]; rfl
  have HLN : Hid (L1.length + L2.length + L3.length ≤ 8796093022208) := by
    have h1 := HVL.out
    rw [HLL.out, List.length_append, List.length_append] at h1
    show _ ≤ _; omega
  have HBW : Hid (∀ wr, Below W0.heap.size W0 wr → Below w.heap.size w wr) := fun wr h => HB0.out.trans (h.mono HB0.out.size)
  clear hwa hta hsa ih hWd hT hS hw hb0 hv0
  go_enter Tryz.func31, Tryz.ntmps31
  go_upto_region 1 with fail
  rw [← HW0.out, ← HX.out]
  have cl := HV0.out.lt
  have c1 := HV0.out.cell 1 _ rfl
  go_wp2_with fail
  go_loopw [3, 4] (fun v3 v4 wr => ∃ (i : Nat) (oa : Option Addr) (on oc : Nat), v3 = .slice oa on oc ∧ v4 = .int .i64 (i : Int) ∧ i ≤ wn ∧ Hid (Own wr W0.heap.size (.slice oa on oc) ((x.words.take i).flatMap dWord) ∧ Below W0.heap.size W0 wr)) (fun _ v4 _ => wn - (intOf v4).toNat)
  case atStart => exact ⟨0, none, 0, 0, rfl, rfl, by omega, own_nil _ _, Below.refl _ _⟩
  case round =>
    obtain ⟨i, oa, on, oc, rfl, rfl, hi, HJ⟩ := hrel
    have hv := HV0.out.below HJ.out.2
    have c1 := hv.cell 1 _ rfl
    have cl := hv.lt
    by_cases hlt : i < wn
    · have hti : x.words[i]? = some (x.words[i]'(by rw [← HWN.out]; exact hlt)) := List.getElem?_eq_getElem _
      generalize x.words[i]'(by rw [← HWN.out]; exact hlt) = t at hti
      obtain ⟨ht1, g, o, ha, g0⟩ := HWA.out i t hti
      replace g0 := below_keeps (HBW.out _ HJ.out.2) _ _ g0
      have hix := index_run1 Tryz.underlying46 size_u64 ha i hlt (cap := wc)
      have HC := hid (ref27_word t ht1 wr)
      have HST := hid (flat_take dWord hti)
      clear ha hti ht1 hv
      unfold wordV at g0
      go_wp2_with fail
      refine HC.out.mono ?_
      rintro e w1 ⟨v1, rfl, hO, hb1⟩
      obtain ⟨a1, q1, rfl⟩ := hO.form
      obtain ⟨k1, HK1⟩ : ∃ k, Hid (k = (dWord t).length) := ⟨_, rfl⟩
      have hby := hO.bytes (by unfold dWord; rw [little_len]; omega)
      rw [← HK1.out] at hby ⊢
      have hb := HJ.out.2.trans (hb1.mono HJ.out.2.size)
      obtain ⟨v2, w2, hr, hO2, hg, -⟩ := own_append (HJ.out.1.below_of hb1) hby (by
        have h1 := flat_take_le dWord x.words (i + 1)
        rw [HST.out, List.length_append, ← HL1.out] at h1
        have h3 := HLN.out
        omega) hb.size
      have hb2 := own_grown (HJ.out.1.below_of hb1) hb hg
      obtain ⟨a2, q2, rfl⟩ := hO2.form
      obtain ⟨k2, HK2⟩ : ∃ k, Hid (k = ((x.words.take i).flatMap dWord ++ dWord t).length) := ⟨_, rfl⟩
      rw [← HK2.out] at hr hO2
      rw [← HST.out] at hO2
      have HJ2 := hid (And.intro hO2 hb2)
      clear hO hb1 hby hb hO2 hg hb2 c1 cl
      go_wp2_with (at_builtin; refine wpList_append_eq rfl _ _ _ rfl _ _ rfl rfl hr ?_)
      go_roundw
      case rel => exact ⟨i + 1, _, _, _, rfl, by go_num, hlt, HJ2.out⟩
      case measure => simp [intOf]; omega
    · obtain rfl : i = wn := by omega
      have HO1 : Hid (Own wr W0.heap.size (.slice oa on oc) L1 ∧ Below W0.heap.size W0 wr) := by
        have h := HJ.out
        rw [HWN.out, List.take_length, ← HL1.out] at h
        exact h
      have HVR := hid hv
      have c2 := hv.cell 2 _ rfl
      clear hv HJ hlt
      obtain ⟨W1, rfl⟩ : ∃ W, W = wr := ⟨_, rfl⟩
      go_wp2_with fail
      go_loopw [3, 5] (fun v3 v5 wr => ∃ (j : Nat) (oa : Option Addr) (on oc : Nat), v3 = .slice oa on oc ∧ v5 = .int .i64 (j : Int) ∧ j ≤ tn ∧ Hid (Own wr W0.heap.size (.slice oa on oc) (L1 ++ (x.texts.take j).flatMap dText) ∧ Below W0.heap.size W0 wr)) (fun _ v5 _ => tn - (intOf v5).toNat)
      case atStart => exact ⟨0, oa, on, oc, rfl, rfl, by omega, by simpa using HO1.out.1, HO1.out.2⟩
      case round =>
        obtain ⟨j, oa, on, oc, rfl, rfl, hj, HJ⟩ := hrel
        have hv := HV0.out.below HJ.out.2
        have c2 := hv.cell 2 _ rfl
        have cl := hv.lt
        by_cases hlj : j < tn
        · have hti : x.texts[j]? = some (x.texts[j]'(by rw [← HTN.out]; exact hlj)) := List.getElem?_eq_getElem _
          generalize x.texts[j]'(by rw [← HTN.out]; exact hlj) = t at hti
          obtain ⟨-, g, o, ha, g0⟩ := HTA.out j t hti
          replace g0 := below_keeps (HBW.out _ HJ.out.2) _ _ g0
          have hix := index_run1 Tryz.underlying39 size_str ha j hlj (cap := tc)
          have htl : t.length ≤ 1099511627776 := by
            have h1 := twt_take _ _ _ hti
            have h2 := twt_take_le x.texts (j + 1)
            have h3 := HVW.out
            unfold vwt at h3
            omega
          have HC := hid (ref27_text t htl wr)
          have HST := hid (flat_take dText hti)
          have HTL := hid htl
          clear ha hti htl hv
          unfold strV at g0 HC
          go_wp2_with fail
          refine HC.out.mono ?_
          rintro e w1 ⟨v1, rfl, hO, hb1⟩
          obtain ⟨a1, q1, rfl⟩ := hO.form
          obtain ⟨k1, HK1⟩ : ∃ k, Hid (k = (dText t).length) := ⟨_, rfl⟩
          have hby := hO.bytes (by rw [dText_len]; have := HTL.out; omega)
          rw [← HK1.out] at hby ⊢
          have hb := HJ.out.2.trans (hb1.mono HJ.out.2.size)
          obtain ⟨v2, w2, hr, hO2, hg, -⟩ := own_append (HJ.out.1.below_of hb1) hby (by
            have h1 := flat_take_le dText x.texts (j + 1)
            rw [HST.out, List.length_append, ← HL2.out] at h1
            have h3 := HLN.out
            rw [List.length_append]
            omega) hb.size
          have hb2 := own_grown (HJ.out.1.below_of hb1) hb hg
          obtain ⟨a2, q2, rfl⟩ := hO2.form
          rw [List.append_assoc, ← HST.out] at hO2 hr
          obtain ⟨k2, HK2⟩ : ∃ k, Hid (k = (L1 ++ (x.texts.take (j + 1)).flatMap dText).length) := ⟨_, rfl⟩
          rw [← HK2.out] at hr hO2
          have HJ2 := hid (And.intro hO2 hb2)
          clear hO hb1 hby hb hO2 hg hb2 c2 cl
          go_wp2_with (at_builtin; refine wpList_append_eq rfl _ _ _ rfl _ _ rfl rfl hr ?_)
          go_roundw
          case rel => exact ⟨j + 1, _, _, _, rfl, by go_num, hlj, HJ2.out⟩
          case measure => simp [intOf]; omega
        · obtain rfl : j = tn := by omega
          have HO2 : Hid (Own wr W0.heap.size (.slice oa on oc) (L1 ++ L2) ∧ Below W0.heap.size W0 wr) := by
            have h := HJ.out
            rw [HTN.out, List.take_length, ← HL2.out] at h
            exact h
          have c3 := hv.cell 3 _ rfl
          clear hv HJ hlj
          obtain ⟨W2, rfl⟩ : ∃ W, W = wr := ⟨_, rfl⟩
          go_wp2_with fail
          go_loopw [3, 6] (fun v3 v6 wr => ∃ (k : Nat) (oa : Option Addr) (on oc : Nat), v3 = .slice oa on oc ∧ v6 = .int .i64 (k : Int) ∧ k ≤ sn ∧ Hid (Own wr W0.heap.size (.slice oa on oc) ((L1 ++ L2) ++ (x.subs.take k).flatMap fun y => dWord (dMsg d y)) ∧ Below W0.heap.size W0 wr)) (fun _ v6 _ => sn - (intOf v6).toNat)
          case atStart => exact ⟨0, oa, on, oc, rfl, rfl, by omega, by simpa using HO2.out.1, HO2.out.2⟩
          case round =>
            obtain ⟨k, oa, on, oc, rfl, rfl, hk, HJ⟩ := hrel
            have hv := HV0.out.below HJ.out.2
            have c3 := hv.cell 3 _ rfl
            have cl := hv.lt
            by_cases hlk : k < sn
            · have hti : x.subs[k]? = some (x.subs[k]'(by rw [← HSN.out]; exact hlk)) := List.getElem?_eq_getElem _
              generalize x.subs[k]'(by rw [← HSN.out]; exact hlk) = y at hti
              obtain ⟨g, o, u1, u2, ha, g0, g1, hY⟩ := HSA.out k y hti
              obtain ⟨q1, s1, t1, q2, s2, t2, e3⟩ := formM hY
              cases e3
              have hbw := HBW.out _ HJ.out.2
              replace g0 := below_keeps hbw _ _ g0
              replace g1 := below_keeps hbw _ _ g1
              have hgl := World.block_lt_of_cell? wr _ g0
              have hix := index_run Tryz.underlying77 size_rmsgD ha k hlk (cap := sc)
              have HYW : Hid (mwt d y ≤ 1099511627776) := by
                have h1 := mem_sum_le (mwt d) x.subs y (List.mem_of_getElem? hti)
                have h2 := HVW.out
                unfold vwt at h2
                show _ ≤ _; omega
              have HST := hid (flat_take (fun y => dWord (dMsg d y)) hti)
              have HC := hid (HIH.out wr _ y (hY.below hbw) HYW.out)
              have HDL := hid (dMsg_lt d y)
              clear ha hti hY hbw hv
              obtain ⟨D, HD⟩ : ∃ D, Hid (D = dMsg d y) := ⟨_, rfl⟩
              rw [← HD.out] at HC HDL
              go_wp2_with fail
              refine HC.out.mono ?_
              rintro e w1 ⟨rfl, hb1⟩
              have HB1 := hid hb1
              have HWD := hid (ref27_word D (by have := HDL.out; omega) w1)
              clear hb1
              go_wp2_with fail
              refine HWD.out.mono ?_
              rintro e w2 ⟨v1, rfl, hO, hb2⟩
              obtain ⟨a1, r1, rfl⟩ := hO.form
              obtain ⟨k1, HK1⟩ : ∃ k, Hid (k = (dWord D).length) := ⟨_, rfl⟩
              have hby := hO.bytes (by unfold dWord; rw [little_len]; omega)
              rw [← HK1.out] at hby ⊢
              have hb12 := HB1.out.trans (hb2.mono HB1.out.size)
              have hb := HJ.out.2.trans (hb12.mono HJ.out.2.size)
              obtain ⟨v2, w3, hr, hO2, hg, -⟩ := own_append (HJ.out.1.below_of hb12) hby (by
                have h1 := flat_take_le (fun y => dWord (dMsg d y)) x.subs (k + 1)
                rw [HST.out, List.length_append, ← HL3.out, ← HD.out] at h1
                have h3 := HLN.out
                rw [List.length_append, List.length_append]
                omega) hb.size
              have hb3 := own_grown (HJ.out.1.below_of hb12) hb hg
              obtain ⟨a2, r2, rfl⟩ := hO2.form
              have hst := HST.out
              simp only [← HD.out] at hst
              rw [List.append_assoc (L1 ++ L2), ← hst] at hO2 hr
              obtain ⟨k2, HK2⟩ : ∃ z, Hid (z = ((L1 ++ L2) ++ (x.subs.take (k + 1)).flatMap fun y => dWord (dMsg d y)).length) := ⟨_, rfl⟩
              rw [← HK2.out] at hr hO2
              have HJ2 := hid (And.intro hO2 hb3)
              clear hst hO hb2 hby hb hO2 hg hb3 hb12 c3 cl
              go_wp2_with (at_builtin; refine wpList_append_eq rfl _ _ _ rfl _ _ rfl rfl hr ?_)
              go_roundw
              case rel => exact ⟨k + 1, _, _, _, rfl, by go_num, hlk, HJ2.out⟩
              case measure => simp [intOf]; omega
            · obtain rfl : k = sn := by omega
              have hO := HJ.out.1
              rw [HSN.out, List.take_length, ← HL3.out, List.append_assoc, ← HLL.out] at hO
              have HS := hid (ref27_Sum (hO.bytes (by have := HVL.out; omega)))
              have HB := hid (HBW.out _ HJ.out.2)
              have HRE : Hid (fnv fnv0 (dValL (dMsg d) x) = R) := by rw [Hid, HR.out]; rfl
              rw [HRE.out] at HS
              clear hO hv
              go_wp2_with fail
              refine HS.out.mono ?_
              rintro e w1 ⟨rfl, rfl⟩
              go_wp2_with fail
              go_ret
              exact ⟨rfl, HB.out⟩
theorem vals_len {d : Nat} : ∀ l : List (Val (M d)), (l.flatMap fun v => dWord (u64n v.num) ++ dWord (dVal d v)).length = 16 * l.length
  | [] => by simp
  | x :: r => by
    rw [List.flatMap_cons, List.length_append, List.length_append, vals_len r, List.length_cons]
    unfold dWord
    rw [little_len, little_len]; omega
theorem unks_len : ∀ l : List (List UInt8), (l.flatMap fun t => dWord 0 ++ dText t).length ≤ 16 * twt l
  | [] => by simp
  | t :: r => by
    have h1 := unks_len r
    have h2 : twt (t :: r) = (1 + t.length) + twt r := by unfold twt; rw [List.map_cons, List.sum_cons]
    have h3 : (dWord 0).length = 8 := little_len 8 0
    rw [List.flatMap_cons, List.length_append, List.length_append, dText_len, h2, h3]
    omega
theorem vwt_len {α : Type} (f : α → Nat) : ∀ l : List (Val α), l.length ≤ (l.map (vwt f)).sum
  | [] => by simp
  | v :: r => by
    have h1 := vwt_len f r
    have h2 : 1 ≤ vwt f v := by unfold vwt; omega
    rw [List.length_cons, List.map_cons, List.sum_cons]
    omega
set_option maxRecDepth 100000 in
set_option maxHeartbeats 8000000 in
theorem ref27_Message_step {d : Nat} (ih : RDigOk d) : RDigOk (d + 1) := by
  intro w v x h hw
  obtain ⟨vv, uv, rfl, hS, hT⟩ := h
  obtain ⟨htl, ta, tc, rfl, -, hta⟩ := hT.open
  obtain ⟨hsl, sa, sc, rfl, -, hsa⟩ := hS.open
  obtain ⟨tn, HTN⟩ : ∃ n, Hid (n = (M.unk x).length) := ⟨_, rfl⟩
  obtain ⟨sn, HSN⟩ : ∃ n, Hid (n = (M.vals x).length) := ⟨_, rfl⟩
  have HVW : Hid (1 + twt (M.unk x) + ((M.vals x).map (vwt (mwt d))).sum ≤ 1099511627776) := hw
  rw [← HTN.out] at htl ⊢
  rw [← HSN.out] at hsl ⊢
  have HTA := hid hta
  have HSA := hid hsa
  have HIH := hid ih
  obtain ⟨F, HF⟩ : ∃ F : Val (M d) → List UInt8, Hid (F = fun v => dWord (u64n v.num) ++ dWord (dVal d v)) := ⟨_, rfl⟩
  obtain ⟨G, HG⟩ : ∃ G : List UInt8 → List UInt8, Hid (G = fun t => dWord 0 ++ dText t) := ⟨_, rfl⟩
  obtain ⟨R, HR⟩ : ∃ R, Hid (R = dMsg (d + 1) x) := ⟨_, rfl⟩
  rw [← HR.out]
  obtain ⟨L1, HL1⟩ : ∃ L, Hid (L = (M.vals x).flatMap F) := ⟨_, rfl⟩
  obtain ⟨L2, HL2⟩ : ∃ L, Hid (L = (M.unk x).flatMap G) := ⟨_, rfl⟩
  have HRD : Hid (R = fnv fnv0 (L1 ++ L2)) := by
    rw [Hid, HR.out, HL1.out, HL2.out, HF.out, HG.out]
    unfold dMsg dVal
    rfl
  have HLN : Hid (L1.length + L2.length ≤ 35184372088832) := by
    have h1 := vals_len (M.vals x)
    have h2 := unks_len (M.unk x)
    have h3 := vwt_len (mwt d) (M.vals x)
    rw [← HF.out, ← HL1.out] at h1
    rw [← HG.out, ← HL2.out] at h2
    have h4 := HVW.out
    show _ ≤ _
    omega
  obtain ⟨vs, HVS⟩ : ∃ vs, Hid (vs = M.vals x) := ⟨_, rfl⟩
  obtain ⟨ts, HTS⟩ : ∃ ts, Hid (ts = M.unk x) := ⟨_, rfl⟩
  rw [← HVS.out] at HSN HVW HSA HL1
  rw [← HTS.out] at HTN HVW HTA HL2
  obtain ⟨X, HX⟩ : ∃ b, Hid (b = w.heap.size) := ⟨_, rfl⟩
  obtain ⟨W0, HW0⟩ : ∃ W0, Hid (W0 = w.alloc (.cells #[.slice sa sn sc, .slice ta tn tc] 41)) := ⟨_, rfl⟩
  have hb0 : Below w.heap.size w W0 := by rw [HW0.out]; (repeat (first | with_reducible exact Below.refl _ _ | with_reducible refine Below.setCell ?_ (by first | omega | (simp; omega) | (simp; done)) _ | with_reducible refine Below.alloc ?_ (by first | omega | (simp; omega) | (simp; done)) _ | with_reducible refine below_drewN ?_ _ | with_reducible refine Below.drew ?_))
  have hv0 : Blk W0 X [.slice sa sn sc, .slice ta tn tc] 41 := by rw [HW0.out, HX.out]; exact Blk.new w [.slice sa sn sc, .slice ta tn tc] _
  have HB0 := hid hb0
  have HV0 := hid hv0
  have HBW : Hid (∀ wr, Below W0.heap.size W0 wr → Below w.heap.size w wr) := fun wr h => HB0.out.trans (h.mono HB0.out.size)
  clear hta hsa ih hT hS hw hb0 hv0 HR HVS HTS
  clear x
  go_enter Tryz.func13, Tryz.ntmps13
  go_upto_region 1 with fail
  rw [← HW0.out, ← HX.out]
  have cl := HV0.out.lt
  have c0 := HV0.out.cell 0 _ rfl
  go_wp2_with fail
  go_loopw [3, 4] (fun v3 v4 wr => ∃ (i : Nat) (oa : Option Addr) (on oc : Nat), v3 = .slice oa on oc ∧ v4 = .int .i64 (i : Int) ∧ i ≤ sn ∧ Hid (Own wr W0.heap.size (.slice oa on oc) ((vs.take i).flatMap F) ∧ Below W0.heap.size W0 wr)) (fun _ v4 _ => sn - (intOf v4).toNat)
  case atStart => exact ⟨0, none, 0, 0, rfl, rfl, by omega, own_nil _ _, Below.refl _ _⟩
  case round =>
    obtain ⟨i, oa, on, oc, rfl, rfl, hi, HJ⟩ := hrel
    have hv := HV0.out.below HJ.out.2
    have c0 := hv.cell 0 _ rfl
    have cl := hv.lt
    by_cases hlt : i < sn
    · have hti : vs[i]? = some (vs[i]'(by rw [← HSN.out]; exact hlt)) := List.getElem?_eq_getElem _
      generalize vs[i]'(by rw [← HSN.out]; exact hlt) = m at hti
      obtain ⟨g, o, v1, v2, v3, ha, g0, g1, g2, g3, hM⟩ := HSA.out i m hti
      obtain ⟨p1, i1, j1, p2, i2, j2, p3, i3, j3, rfl, rfl, rfl⟩ := formV hM
      have hbw := HBW.out _ HJ.out.2
      have hkr := below_keeps hbw
      have HGC := hid (And.intro g0 (And.intro g1 (And.intro g2 g3)))
      replace g0 := hkr _ _ g0
      have hgl := World.block_lt_of_cell? wr _ g0
      have hix := index_run Tryz.underlying38 size_rvalD ha i hlt (cap := sc)
      have HMW : Hid (vwt (mwt d) m ≤ 1099511627776) := by
        have h1 := mem_sum_le (vwt (mwt d)) vs m (List.mem_of_getElem? hti)
        have h2 := HVW.out
        show _ ≤ _; omega
      have HST := hid (flat_take F hti)
      have HFM : Hid (F m = dWord (u64n m.num) ++ dWord (dVal d m)) := by rw [HF.out]; rfl
      have HDV := hid fun W hb => ref27_Value_of (w := W) HIH.out (VMsg.below hM hb) HMW.out
      have hun := u64_num m.num
      have hul : u64n m.num < 2 ^ 64 := by unfold u64n; omega
      have HC := hid (ref27_word (u64n m.num) hul wr)
      have HDL := hid (dVal_lt d m)
      obtain ⟨D, HD⟩ : ∃ D, Hid (D = dVal d m) := ⟨_, rfl⟩
      obtain ⟨U, HU⟩ : ∃ U, Hid (U = u64n m.num) := ⟨_, rfl⟩
      rw [← HD.out] at HDV HDL HFM
      rw [← HU.out] at HC HFM hun
      clear ha hti hM hkr g1 g2 g3 hul hv
      generalize m.num = num at *
      go_wp2_with fail
      refine HC.out.mono ?_
      rintro e w1 ⟨v1, rfl, hO, hb1⟩
      obtain ⟨a1, r1, rfl⟩ := hO.form
      obtain ⟨k1, HK1⟩ : ∃ k, Hid (k = (dWord U).length) := ⟨_, rfl⟩
      have hby := hO.bytes (by unfold dWord; rw [little_len]; omega)
      rw [← HK1.out] at hby ⊢
      have hb := HJ.out.2.trans (hb1.mono HJ.out.2.size)
      have HTOT : Hid (((vs.take i).flatMap F).length + 16 ≤ 35184372088832) := by
        have h1 := flat_take_le F vs (i + 1)
        rw [HST.out, List.length_append, ← HL1.out, HFM.out, List.length_append] at h1
        have h3 := HLN.out
        unfold dWord at h1
        rw [little_len, little_len] at h1
        show _ ≤ _; omega
      obtain ⟨v2, w2, hr, hO2, hg, -⟩ := own_append (HJ.out.1.below_of hb1) hby (by have := HTOT.out; unfold dWord; rw [little_len]; omega) hb.size
      have hb2 := own_grown (HJ.out.1.below_of hb1) hb hg
      obtain ⟨a2, r2, rfl⟩ := hO2.form
      obtain ⟨k2, HK2⟩ : ∃ k, Hid (k = ((vs.take i).flatMap F ++ dWord U).length) := ⟨_, rfl⟩
      rw [← HK2.out] at hr hO2
      have HO2 := hid (And.intro hO2 hb2)
      have HG1 := hid (And.intro hb1 hg)
      clear hO hb1 hby hb hO2 hg hb2 g0 hgl c0 cl hbw
      have hbw2 := HBW.out _ HO2.out.2
      have hk2 := below_keeps hbw2
      have g0 := hk2 _ _ HGC.out.1
      have g1 := hk2 _ _ HGC.out.2.1
      have g2 := hk2 _ _ HGC.out.2.2.1
      have g3 := hk2 _ _ HGC.out.2.2.2
      have hgl := World.block_lt_of_cell? w2 _ g0
      have hv2 := HV0.out.below HO2.out.2
      have c0 := hv2.cell 0 _ rfl
      have cl := hv2.lt
      have HD2 := hid (HDV.out w2 hbw2)
      clear hk2 hv2
      go_wp2_with (at_builtin; refine wpList_append_eq rfl _ _ _ rfl _ _ rfl rfl hr ?_)
      refine HD2.out.mono ?_
      rintro e w4 ⟨rfl, hb4⟩
      have HB4 := hid hb4
      have HWD := hid (ref27_word D (by have := HDL.out; omega) w4)
      clear hb4 g0 g1 g2 g3 hgl c0 cl hr
      go_wp2_with fail
      refine HWD.out.mono ?_
      rintro e w5 ⟨v5, rfl, hO5, hb5⟩
      obtain ⟨a5, r5, rfl⟩ := hO5.form
      obtain ⟨k5, HK5⟩ : ∃ k, Hid (k = (dWord D).length) := ⟨_, rfl⟩
      have hby := hO5.bytes (by unfold dWord; rw [little_len]; omega)
      rw [← HK5.out] at hby ⊢
      have hb25 := HB4.out.trans (hb5.mono HB4.out.size)
      have hb := HO2.out.2.trans (hb25.mono HO2.out.2.size)
      obtain ⟨v6, w6, hr6, hO6, hg6, -⟩ := own_append (HO2.out.1.below_of hb25) hby (by have := HTOT.out; rw [List.length_append]; unfold dWord; rw [little_len, little_len]; omega) hb.size
      have hb6 := own_grown (HO2.out.1.below_of hb25) hb hg6
      obtain ⟨a6, r6, rfl⟩ := hO6.form
      rw [List.append_assoc, ← HFM.out, ← HST.out] at hO6 hr6
      obtain ⟨k6, HK6⟩ : ∃ k, Hid (k = ((vs.take (i + 1)).flatMap F).length) := ⟨_, rfl⟩
      rw [← HK6.out] at hr6 hO6
      have HJ2 := hid (And.intro hO6 hb6)
      clear hO5 hb5 hby hb hO6 hg6 hb6 hb25
      go_wp2_with (at_builtin; refine wpList_append_eq rfl _ _ _ rfl _ _ rfl rfl hr6 ?_)
      go_roundw
      case rel => exact ⟨i + 1, _, _, _, rfl, by go_num, hlt, HJ2.out⟩
      case measure => simp [intOf]; omega
    · obtain rfl : i = sn := by omega
      have HO1 : Hid (Own wr W0.heap.size (.slice oa on oc) L1 ∧ Below W0.heap.size W0 wr) := by
        have h := HJ.out
        rw [HSN.out, List.take_length, ← HL1.out] at h
        exact h
      have c1 := hv.cell 1 _ rfl
      clear hv HJ hlt
      obtain ⟨W1, rfl⟩ : ∃ W, W = wr := ⟨_, rfl⟩
      go_wp2_with fail
      go_loopw [3, 5] (fun v3 v5 wr => ∃ (j : Nat) (oa : Option Addr) (on oc : Nat), v3 = .slice oa on oc ∧ v5 = .int .i64 (j : Int) ∧ j ≤ tn ∧ Hid (Own wr W0.heap.size (.slice oa on oc) (L1 ++ (ts.take j).flatMap G) ∧ Below W0.heap.size W0 wr)) (fun _ v5 _ => tn - (intOf v5).toNat)
      case atStart => exact ⟨0, oa, on, oc, rfl, rfl, by omega, by simpa using HO1.out.1, HO1.out.2⟩
      case round =>
        obtain ⟨j, oa, on, oc, rfl, rfl, hj, HJ⟩ := hrel
        have hv := HV0.out.below HJ.out.2
        have c1 := hv.cell 1 _ rfl
        have cl := hv.lt
        by_cases hlj : j < tn
        · have hti : ts[j]? = some (ts[j]'(by rw [← HTN.out]; exact hlj)) := List.getElem?_eq_getElem _
          generalize ts[j]'(by rw [← HTN.out]; exact hlj) = t at hti
          obtain ⟨-, g, o, ha, g0⟩ := HTA.out j t hti
          have HG0 := hid g0
          replace g0 := below_keeps (HBW.out _ HJ.out.2) _ _ g0
          have hgl := World.block_lt_of_cell? wr _ g0
          have hix := index_run1 Tryz.underlying39 size_str ha j hlj (cap := tc)
          have htl : t.length ≤ 1099511627776 := by
            have h1 := twt_take _ _ _ hti
            have h2 := twt_take_le ts (j + 1)
            have h3 := HVW.out
            omega
          have HST := hid (flat_take G hti)
          have HGM : Hid (G t = dWord 0 ++ dText t) := by rw [HG.out]; rfl
          have HTL := hid htl
          have hww : Calls Tryz.prog 30 #[.int .u64 0] wr.drew fun e w' => ∃ v', e = .returned v' ∧ Own w' wr.drew.heap.size v' (dWord 0) ∧ Below wr.drew.heap.size wr.drew w' := ref27_word 0 (by decide) wr.drew
          have HWW := hid hww
          have HD0 : Hid (Below W0.heap.size W0 wr.drew) := HJ.out.2.drew
          have HOD : Hid (Own wr.drew W0.heap.size (.slice oa on oc) (L1 ++ (ts.take j).flatMap G)) := HJ.out.1.below_of (Below.refl wr.heap.size wr).drew
          have HQ : Hid (∀ W, Below W0.heap.size W0 W → W.cell? ⟨X, 1, none⟩ = some (.slice ta tn tc) ∧ W.cell? ⟨g, o + j, none⟩ = some (strV t)) := fun W hW => ⟨(HV0.out.below hW).cell 1 _ rfl, below_keeps (HBW.out _ hW) _ _ HG0.out⟩
          have HTX := hid (ref27_text t HTL.out)
          have HLB : Hid ((L1 ++ (ts.take j).flatMap G).length + 16 + t.length ≤ 35184372088832) := by
            have h1 := flat_take_le G ts (j + 1)
            rw [HST.out, List.length_append, ← HL2.out, HGM.out, List.length_append, dText_len] at h1
            have h0 : (dWord 0).length = 8 := little_len 8 0
            rw [h0] at h1
            have h3 := HLN.out
            show _ ≤ _
            rw [List.length_append]
            omega
          clear ha hti htl hv hww HG0
          unfold strV at g0 HQ HTX
          obtain ⟨T, HTT⟩ : ∃ T, Hid (T = (⟨t.toArray⟩ : ByteArray)) := ⟨_, rfl⟩
          rw [← HTT.out] at g0 HQ HTX
          have q0 := HQ.out _ HD0.out
          go_wp2_with fail
          go_region_held3 (fun w' => w'.cell? ⟨X, 1, none⟩ = some (.slice ta tn tc) ∧ w'.cell? ⟨g, o + j, none⟩ = some (.string T)) (first | (with_reducible exact q0) | (with_reducible exact q1) | (with_reducible exact q2) | (with_reducible exact q3) | (with_reducible exact q4) | go_keep) (first
            | (go_at_call 30; (with_reducible refine HWW.out.mono ?_); rintro e k1 ⟨v1, rfl, hO1, hk1⟩; obtain ⟨b1, z1, rfl⟩ := hO1.form; have HK1 := hid (HD0.out.trans (hk1.mono HD0.out.size)); have q1 := HQ.out _ HK1.out; obtain ⟨y1, HY1⟩ : ∃ n, Hid (n = (dWord 0).length) := ⟨_, rfl⟩; have hby := hO1.bytes (by rw [show (dWord 0).length = 8 from little_len 8 0]; omega); obtain ⟨v2, k2, hr1, hO2, hg1, -⟩ := own_append (HOD.out.below_of hk1) hby (by have := HLB.out; rw [show (dWord 0).length = 8 from little_len 8 0]; omega) HK1.out.size; have HK2 := hid (own_grown (HOD.out.below_of hk1) HK1.out hg1); obtain ⟨b2, z2, rfl⟩ := hO2.form; obtain ⟨y2, HY2⟩ : ∃ n, Hid (n = ((L1 ++ (ts.take j).flatMap G) ++ dWord 0).length) := ⟨_, rfl⟩; rw [← HY1.out, ← HY2.out] at hr1; rw [← HY2.out] at hO2; rw [← HY1.out]; have q2 := HQ.out _ HK2.out; have HO2 := hid hO2; have HT2 := hid (HTX.out k2); clear hO1 hk1 hby hO2 hg1)
            | (refine step_append_eq (o := ⟨some 41, _, _, _, _, _⟩) rfl _ _ _ rfl _ _ rfl rfl hr1 ?_)
            | (go_at_call 32; (with_reducible refine HT2.out.mono ?_); rintro e k3 ⟨v3, rfl, hO3, hk3⟩; obtain ⟨b3, z3, rfl⟩ := hO3.form; have HK3 := hid (HK2.out.trans (hk3.mono HK2.out.size)); have q3 := HQ.out _ HK3.out; obtain ⟨y3, HY3⟩ : ∃ n, Hid (n = (dText t).length) := ⟨_, rfl⟩; have hby := hO3.bytes (by rw [dText_len]; have := HTL.out; omega); obtain ⟨v4, k4, hr2, hO4, hg2, -⟩ := own_append (HO2.out.below_of hk3) hby (by have := HLB.out; rw [List.length_append, dText_len, show (dWord 0).length = 8 from little_len 8 0]; omega) HK3.out.size; have HK4 := hid (own_grown (HO2.out.below_of hk3) HK3.out hg2); obtain ⟨b4, z4, rfl⟩ := hO4.form; rw [List.append_assoc (L1 ++ (ts.take j).flatMap G), ← HGM.out, List.append_assoc L1, ← HST.out] at hO4 hr2; obtain ⟨y4, HY4⟩ : ∃ n, Hid (n = (L1 ++ (ts.take (j + 1)).flatMap G).length) := ⟨_, rfl⟩; rw [← HY3.out, ← HY4.out] at hr2; rw [← HY4.out] at hO4; rw [← HY3.out]; have q4 := HQ.out _ HK4.out; have HO4 := hid (And.intro hO4 HK4.out); clear hO3 hk3 hby hO4 hg2)
            | (refine step_append_eq (o := ⟨some 48, _, _, _, _, _⟩) rfl _ _ _ rfl _ _ rfl rfl hr2 ?_))
          go_wp2_with fail
          go_roundw
          case rel => exact ⟨j + 1, _, _, _, rfl, by go_num, hlj, HO4.out⟩
          case measure => simp [intOf]; omega
        · obtain rfl : j = tn := by omega
          have hO := HJ.out.1
          rw [HTN.out, List.take_length, ← HL2.out] at hO
          have HS := hid (ref27_Sum (hO.bytes (by rw [List.length_append]; have := HLN.out; omega)))
          have HB := hid (HBW.out _ HJ.out.2)
          rw [← HRD.out] at HS
          clear hO hv
          go_wp2_with fail
          refine HS.out.mono ?_
          rintro e w1 ⟨rfl, rfl⟩
          go_wp2_with fail
          go_ret
          exact ⟨rfl, HB.out⟩
theorem ref27_Message : ∀ (d : Nat), RDigOk d
  | 0 => fun _ _ _ h _ => h.elim
  | d + 1 => ref27_Message_step (ref27_Message d)
theorem ref27_Value {d : Nat} {w : World} {v : Value} {x : Val (M d)} (h : ValAt (MsgAt d) w v x) (hw : vwt (mwt d) x ≤ 1099511627776) :
    Calls Tryz.prog 31 #[v] w fun e w' => e = .returned (.int .u64 (dVal d x : Nat)) ∧ Below w.heap.size w w' := ref27_Value_of (ref27_Message d) h hw
end Go.Proofs.YtbcpeckmnmhfhaaGreat
