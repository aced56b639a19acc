/- frames.Join, darningref34.Join: fjoin. -/
import Derived.Test.YtgephhmkaonahaaRef34
import Derived.Deep.AppendLies
import Derived.Deep.RegionHeld3
import Derived.Deep.DeepCutAuto
namespace Go.Proofs.Ytgephhmkaonahaa
open Go.RowKit

def fjoin (ls : List (List UInt8)) : List UInt8 := ls.flatMap fun b => vput b.length ++ b

theorem fjoin_take (ls : List (List UInt8)) (k : Nat) (hk : k < ls.length) : fjoin (ls.take (k + 1)) = fjoin (ls.take k) ++ (vput (ls.getD k []).length ++ ls.getD k []) := by
  have e : ls.getD k [] = ls[k] := by simp [List.getD, hk]
  rw [e, List.take_succ_eq_append_getElem hk]
  unfold fjoin
  rw [List.flatMap_append]
  simp
theorem fjoin_take_le (ls : List (List UInt8)) (k : Nat) : (fjoin (ls.take k)).length ≤ (fjoin ls).length := by
  have : fjoin ls = fjoin (ls.take k) ++ fjoin (ls.drop k) := by
    unfold fjoin
    rw [← List.flatMap_append, List.take_append_drop]
  rw [this, List.length_append]; omega

set_option maxRecDepth 100000 in
set_option maxHeartbeats 4000000 in
theorem frames_Join {w : World} {v : Value} {ls : List (List UInt8)} (h : BytesL w v ls) (hT : (fjoin ls).length ≤ 1099511627776) :
    Calls Try.prog 13 #[v] w fun e w' => ∃ v', e = .returned v' ∧ Own w' w.heap.size v' (fjoin ls) ∧ Below w.heap.size w w' := by
  obtain ⟨hlen, a, cap, rfl, -, hat⟩ := h.open
  obtain ⟨n, HN⟩ : ∃ n, Hid (n = ls.length) := ⟨_, rfl⟩
  rw [← HN.out] at hlen hat ⊢
  have HAT := hid hat
  have HT := hid hT
  clear hat h hT
  go_enter Try.func13, Try.ntmps13
  go_wp2_with fail
  go_loopw [3, 8] (fun v3 v8 wr => ∃ k : Nat, k ≤ n ∧ v8 = .int .i64 k ∧ Hid (Below w.heap.size w wr ∧ Own wr w.heap.size v3 (fjoin (ls.take k)))) (fun _ v8 _ => n - (intOf v8).toNat)
  case atStart => exact ⟨0, by omega, rfl, Below.refl _ _, own_nil _ _⟩
  case round =>
    obtain ⟨k, hk, rfl, HB⟩ := hrel
    by_cases hlt : k < n
    · have hat := HAT.out
      obtain ⟨b, o, xv, ha, cj, hbx⟩ := hat k hlt
      clear hat
      have hix := index_run1 under_rows size_rows ha k hlt (cap := cap)
      have cj' := below_keeps HB.out.1 _ _ cj
      have hbl : b < wr.heap.size := World.block_lt_of_cell? wr _ cj'
      obtain ⟨hxl, xa, xc, rfl, -, -, -, -⟩ := hbx.open
      have hst := fjoin_take ls k (by rw [← HN.out]; exact hlt)
      have hle1 := fjoin_take_le ls (k + 1)
      rw [hst] at hle1
      simp only [List.length_append] at hle1
      obtain ⟨xl, HXL⟩ : ∃ xl, Hid (xl = ls.getD k []) := ⟨_, rfl⟩
      rw [← HXL.out] at hst hle1 hbx hxl cj' cj
      have HST := hid hst
      have HBX := hid hbx
      obtain ⟨xn, HXN⟩ : ∃ xn, Hid (xn = xl.length) := ⟨_, rfl⟩
      rw [← HXN.out] at hle1 hxl cj' HST HBX
      have HLE := hid hle1
      have hbo := HB.out.2.bytes (by have := HT.out; omega)
      have HP := hid (varint_Put hbo (by have := HT.out; omega) xn (by omega))
      clear ha cj hst hbx hbo hle1
      go_wp2_with fail
      refine HP.out.mono ?_
      rintro e w1 ⟨v1, rfl, hO1, hb1⟩
      have hO1' := hO1.mono HB.out.1.size
      have hBw1 := HB.out.1.trans (hb1.mono HB.out.1.size)
      obtain ⟨v2, w2, hr2, hO2, hg2, -⟩ := own_append hO1' (HBX.out.keep (below_keeps hBw1)) (by rw [List.length_append, ← HXN.out]; have := HT.out; have := HLE.out; omega) hBw1.size
      have HR2 := hid hr2
      have HO2 := hid hO2
      have HB2 := hid (own_grown hO1' hBw1 hg2)
      clear hO1 hO1' hBw1 hr2 hO2 hg2 hb1
      go_wp2_with (at_builtin; refine wpList_append_eq rfl _ _ _ rfl _ _ rfl rfl HR2.out ?_)
      go_roundw
      case rel =>
        refine ⟨k + 1, hlt, by go_num, HB2.out, ?_⟩
        rw [HST.out, ← List.append_assoc]
        exact HO2.out
      case measure => simp [intOf]; omega
    · obtain rfl : k = n := by omega
      have hO := HB.out.2
      rw [List.take_of_length_le (by rw [HN.out]; exact Nat.le_refl _)] at hO
      have HO := hid hO
      clear hO
      go_wp2_with fail
      go_ret
      exact ⟨_, rfl, HO.out, HB.out.1⟩

set_option maxRecDepth 100000 in
set_option maxHeartbeats 4000000 in
theorem ref34_Join {w : World} {v : Value} {ls : List (List UInt8)} (h : BytesL w v ls) (hT : (fjoin ls).length ≤ 1099511627776) :
    Calls Try.prog 14 #[v] w fun e w' => ∃ v', e = .returned v' ∧ Own w' w.heap.size v' (fjoin ls) ∧ Below w.heap.size w w' := by
  obtain ⟨hlen, a, cap, rfl, -, hat⟩ := h.open
  obtain ⟨n, HN⟩ : ∃ n, Hid (n = ls.length) := ⟨_, rfl⟩
  rw [← HN.out] at hlen hat ⊢
  have HAT := hid hat
  have HT := hid hT
  clear hat h hT
  go_enter Try.func14, Try.ntmps14
  go_wp2_with fail
  go_loopw [3, 4] (fun v3 v4 wr => ∃ k : Nat, k ≤ n ∧ v4 = .int .i64 k ∧ Hid (Below w.heap.size w wr ∧ Own wr w.heap.size v3 (fjoin (ls.take k)))) (fun _ v4 _ => n - (intOf v4).toNat)
  case atStart => exact ⟨0, by omega, rfl, Below.refl _ _, own_nil _ _⟩
  case round =>
    obtain ⟨k, hk, rfl, HB⟩ := hrel
    by_cases hlt : k < n
    · have hat := HAT.out
      obtain ⟨b, o, xv, ha, cj, hbx⟩ := hat k hlt
      clear hat
      have hix := index_run1 under_rows size_rows ha k hlt (cap := cap)
      have cj' := below_keeps HB.out.1 _ _ cj
      have hbl : b < wr.heap.size := World.block_lt_of_cell? wr _ cj'
      obtain ⟨hxl, xa, xc, rfl, -, -, -, -⟩ := hbx.open
      have hst := fjoin_take ls k (by rw [← HN.out]; exact hlt)
      have hle1 := fjoin_take_le ls (k + 1)
      rw [hst] at hle1
      simp only [List.length_append] at hle1
      obtain ⟨xl, HXL⟩ : ∃ xl, Hid (xl = ls.getD k []) := ⟨_, rfl⟩
      rw [← HXL.out] at hst hle1 hbx hxl cj' cj
      have HST := hid hst
      have HBX := hid hbx
      obtain ⟨xn, HXN⟩ : ∃ xn, Hid (xn = xl.length) := ⟨_, rfl⟩
      rw [← HXN.out] at hle1 hxl cj' HST HBX
      have HLE := hid hle1
      have CJ0 := hid cj
      rw [← HXN.out] at CJ0
      have c0 : wr.drew.cell? ⟨b, o + k, none⟩ = some (.slice xa xn xc) := cj'
      obtain ⟨oa, oc, ho3⟩ := HB.out.2.form
      obtain ⟨on, HON⟩ : ∃ on, Hid (on = (fjoin (ls.take k)).length) := ⟨_, rfl⟩
      rw [← HON.out] at ho3
      subst ho3
      have HO0 : Hid (Own wr.drew w.heap.size (.slice oa on oc) (fjoin (ls.take k))) := HB.out.2
      have wxn : IntKind.u64.wrap (xn : Int) = xn := IntWalk.u64_in _ (by omega)
      have HX64 : Hid (xn < 2 ^ 64) := by show xn < 2 ^ 64; omega
      clear ha cj hst hbx hle1
      go_wp2_with fail
      go_region_held3 (fun w' => w'.cell? ⟨b, o + k, none⟩ = some (.slice xa xn xc)) (first | (with_reducible exact c0) | (with_reducible exact c1) | (with_reducible exact c2) | (with_reducible exact c3) | go_keep) (first | (go_at_call 40; (with_reducible refine (ref02_Put xn _ HX64.out).mono ?_); rintro e w1 ⟨v1, rfl, hO1, hb1⟩; have c1 := below_keeps hb1 _ _ c0; have hBw1 := HB.out.1.drew.trans (hb1.mono HB.out.1.size); obtain ⟨v2, w2, hr2, hO2, hg2, -⟩ := own_append (HO0.out.below_of hb1) (hO1.bytes (by have := HLE.out; have := HT.out; omega)) (by have := HLE.out; have := HT.out; omega) hBw1.size; have hBw2 := own_grown (HO0.out.below_of hb1) hBw1 hg2; have c2 := below_keeps hBw2 _ _ CJ0.out; obtain ⟨v3, w3, hr3, hO3, hg3, -⟩ := own_append hO2 (HBX.out.keep (below_keeps hBw2)) (by rw [List.length_append, ← HXN.out]; have := HLE.out; have := HT.out; omega) hBw2.size; have hBw3 := own_grown hO2 hBw2 hg3; have c3 := below_keeps hBw3 _ _ CJ0.out; have HR2 := hid hr2; have HR3 := hid hr3; have HO3 := hid hO3; have HB3 := hid hBw3; clear hr2 hr3 hO1 hO2 hO3 hg2 hg3 hb1 hBw1 hBw2 hBw3) | (refine step_append_eq rfl (.tmp 11) (.tmp 18) _ rfl _ _ rfl rfl HR2.out ?_) | (refine step_append_eq rfl (.tmp 19) (.tmp 23) _ rfl _ _ rfl rfl HR3.out ?_))
      go_wp2_with fail
      go_roundw
      case rel =>
        refine ⟨k + 1, hlt, by go_num, HB3.out, ?_⟩
        rw [HST.out, ← List.append_assoc]
        exact HO3.out
      case measure => simp [intOf]; omega
    · obtain rfl : k = n := by omega
      have hO := HB.out.2
      rw [List.take_of_length_le (by rw [HN.out]; exact Nat.le_refl _)] at hO
      have HO := hid hO
      clear hO
      go_wp2_with fail
      go_ret
      exact ⟨_, rfl, HO.out, HB.out.1⟩

end Go.Proofs.Ytgephhmkaonahaa
