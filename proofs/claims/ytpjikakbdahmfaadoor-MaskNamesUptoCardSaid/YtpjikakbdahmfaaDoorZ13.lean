/- darninglaw12.PathSplits returns true. The list's weight is at most 2^38. darninglaw07.Few returns a bool, whatever the schema. darninglaw13.MaskNames: true. Reading a list of strings from an argument's data; its weight is at most the reading's bulk. Reading a schema from an argument's data. -/
import Derived.Test.YtpjikakbdahmfaaDoorRows
import Derived.Test.YtpjikakbdahmfaaDoorZ02
import Derived.Test.YtpjikakbdahmfaaDoorZ04
import Derived.Test.YtpjikakbdahmfaaDoorZ07
import Derived.Test.YtpjikakbdahmfaaDoorZ11
import Derived.Test.YtpjikakbdahmfaaDoorZ12
import Derived.Deep.Slices
import Derived.SizedLaws
import Derived.ProofKit
namespace Go.Proofs.YtpjikakbdahmfaaDoor
open Go.RowKit

theorem twt_snoc (l : List (List UInt8)) (k : Nat) (t : List UInt8) (h : l[k]? = some t) : twt (l.take (k + 1)) = twt (l.take k) + (1 + t.length) := sum_take _ l k t h

set_option maxRecDepth 100000 in
set_option maxHeartbeats 4000000 in
theorem law12_Long {w : World} {v : Value} {l : List (List UInt8)} (h : StrsAt w v l) (hw : twt l ≤ 1099511627776) :
    Calls Tryd.prog 20 #[v] w fun e w' => e = .returned (.bool (decide (6000 < twt l))) ∧ w = w' := by
  obtain ⟨hl, a, c, rfl, -, hat⟩ := h.open
  obtain ⟨n, HN⟩ : ∃ n, Hid (n = l.length) := ⟨_, rfl⟩
  rw [← HN.out] at hl ⊢
  obtain ⟨y, HY⟩ : ∃ y, Hid (y = twt l) := ⟨_, rfl⟩
  have HAT := hid hat
  have hy : y ≤ 1099511627776 := by rw [HY.out]; exact hw
  rw [← HY.out]
  clear hat h hw
  go_enter Tryd.func20, Tryd.ntmps20
  go_wp2_with fail
  go_loopw [3, 4] (fun v3 v4 wr => ∃ z i : Nat, v3 = .int .i64 z ∧ v4 = .int .i64 i ∧ i ≤ n ∧ z ≤ 1099511627776 ∧ Hid (z = twt (l.take i)) ∧ w = wr) (fun _ v4 _ => n - (intOf v4).toNat)
  case atStart => exact ⟨0, 0, rfl, rfl, by omega, by omega, rfl, rfl⟩
  case round =>
    obtain ⟨z, i, rfl, rfl, hi, hz, HZ, rfl⟩ := hrel
    by_cases h1 : i < n
    · have hxi : l[i]? = some (l[i]'(by rw [← HN.out]; exact h1)) := List.getElem?_eq_getElem _
      generalize l[i]'(by rw [← HN.out]; exact h1) = x at hxi
      obtain ⟨hxl, b, o, ha, g0⟩ := HAT.out i x hxi
      have hix := index_run1 Tryd.underlying43 size_strp ha i h1 (cap := c)
      have hbl : b < w.heap.size := World.block_lt_of_cell? w _ g0
      have HST : Hid (z + x.length + 1 = twt (l.take (i + 1)) ∧ z + x.length + 1 ≤ 1099511627776) := by
        have h2 := twt_snoc l i x hxi
        have h3 := twt_take' l (i + 1)
        have h4 := HZ.out
        have h5 := HY.out
        exact ⟨by omega, by omega⟩
      unfold strV at g0
      have hsb : (⟨x.toArray⟩ : ByteArray).size = x.length := str_size x
      obtain ⟨xs, HXS⟩ : ∃ xs : ByteArray, Hid (xs = ⟨x.toArray⟩) := ⟨_, rfl⟩
      obtain ⟨xl, HXL⟩ : ∃ xl, Hid (xl = x.length) := ⟨_, rfl⟩
      rw [← HXS.out] at g0 hsb
      rw [← HXL.out] at hsb HST hxl
      have hzb := HST.out.2
      clear hxi ha
      go_wp2_with fail
      go_roundw
      case rel => exact ⟨z + xl + 1, i + 1, by first | go_num | (rw [hsb]; go_num), by go_num, h1, HST.out.2, HST.out.1, by first | trivial | rfl⟩
      case measure => simp [intOf]; omega
    · obtain rfl : i = n := by omega
      have HZY : Hid (z = y) := by
        have := HZ.out
        rw [HN.out, List.take_length] at this
        rw [Hid, this, HY.out]
      by_cases hb : 6000 < z
      · have HD : Hid (decide (6000 < y) = true) := by rw [Hid, ← HZY.out]; exact decide_eq_true hb
        go_wp2_with fail
        go_ret
        exact ⟨by rw [HD.out]; first | done | rfl | (simp; done) | (simp; omega), rfl⟩
      · have HD : Hid (decide (6000 < y) = false) := by rw [Hid, ← HZY.out]; exact decide_eq_false hb
        go_wp2_with fail
        go_ret
        exact ⟨by rw [HD.out]; first | done | rfl | (simp; done) | (simp; omega), rfl⟩

/-- l[:j] of strings -/
theorem StrsAt.h {w : World} {a : Option Addr} {n cap : Nat} {l : List (List UInt8)} (h : StrsAt w (.slice a n cap) l) (hn : n = l.length) (j : Nat) (hj : j ≤ n) :
    ∃ a' c', (∀ W, (Instr.slice 43 (.slice a n cap) none (some (.int .i64 (j : Int))) none).run Tryd.prog W = .ok (.slice a' j c') W) ∧ StrsAt w (.slice a' j c') (l.take j) := by
  subst hn
  have hcap : l.length ≤ cap := by obtain ⟨⟨_, _, a', cap', hv, h3, _⟩, _⟩ := h; cases hv; exact h3
  refine ⟨_, _, fun W => slice_h_run under_strl size_strp a _ cap j (by omega) W, ?_⟩
  have hs := Seg.sub h.1 0 j (by omega) hj
  refine ⟨?_, fun t ht => h.2 t (List.mem_of_mem_take ht)⟩
  rw [List.length_take, Nat.min_eq_left (by omega), List.map_take]
  simpa [sliced] using hs

theorem twt_sdot : ∀ p : List UInt8, twt (sdot p) ≤ p.length + 1
  | [] => by simp [sdot, twt]
  | c :: r => by
    have ih := twt_sdot r
    obtain ⟨h, t, e⟩ := sdot_cons r
    rw [sdot]
    split
    · unfold twt at ih ⊢
      simp at ih ⊢
      omega
    · rw [e] at ih ⊢
      unfold twt at ih ⊢
      simp at ih ⊢
      omega

theorem own_if {w : World} {base : Nat} {v : Value} {p : List UInt8} {ok : Bool} (h : StrsOwn w base v (if ok = true then sdot p else [])) (hp : p.length ≤ 549755813888) : StrsAt w v (if ok = true then sdot p else []) := by
  cases ok with
  | true => exact sdot_strs (base := base) h hp
  | false => exact h.strs (by simp) (by simp)

end Go.Proofs.YtpjikakbdahmfaaDoor

namespace Go.Proofs.YtpjikakbdahmfaaDoor
open Go.RowKit

set_option maxRecDepth 100000 in
set_option maxHeartbeats 4000000 in
theorem law07_Few {w : World} {v : Value} {s : List Mes} (hS : SchemaAt w v s) :
    Calls Tryd.prog 19 #[v] w fun e w' => (∃ b, e = .returned (.bool b)) ∧ Below w.heap.size w w' := by
  obtain ⟨hlen, a, cap, rfl, hat⟩ := hS.open
  obtain ⟨n, HN⟩ : ∃ n, Hid (n = s.length) := ⟨_, rfl⟩
  rw [← HN.out] at hat hlen ⊢
  have HAT := hid hat
  clear hat hS
  go_enter Tryd.func19, Tryd.ntmps19
  go_wp2_with fail
  go_loopw [3, 4, 5] (fun v3 v4 _ wr => ∃ (z : Int) (i : Nat), v3 = .int .i64 z ∧ i ≤ n ∧ v4 = .int .i64 i ∧ Hid (Below w.heap.size w wr)) (fun _ v4 _ _ => n - (intOf v4).toNat)
  case atStart => exact ⟨0, 0, rfl, by omega, rfl, Below.refl _ _⟩
  case round =>
    obtain ⟨z, i, rfl, hi, rfl, HB⟩ := hrel
    by_cases hlt : i < n
    · have hat := HAT.out
      obtain ⟨b, o, fv, ha, hnm, c0, c1, hfs⟩ := hat i hlt
      obtain ⟨fl, fa, fcap, rfl, hft⟩ := hfs.open
      clear hat hfs
      obtain ⟨fn, HFN⟩ : ∃ fn, Hid (fn = (s.getD i .zero).fields.length) := ⟨_, rfl⟩
      obtain ⟨nm, HNM⟩ : ∃ nm, Hid (nm = (s.getD i .zero).name) := ⟨_, rfl⟩
      rw [← HFN.out] at fl c1 hft
      rw [← HNM.out] at hnm c0
      have HFT := hid hft
      clear hft
      have hkr := below_keeps HB.out
      replace c0 := hkr _ _ c0
      replace c1 := hkr _ _ c1
      clear hkr
      have hix := index_run Tryd.underlying42 size_mes ha i hlt (cap := cap)
      have hbl : b < wr.heap.size := World.block_lt_of_cell? wr _ c0
      clear ha
      go_wp2_with fail
      go_quiet (fail)
      go_wp2_with fail
      obtain ⟨wo, HWO⟩ : ∃ wo, Hid (wo = wr.drewN nq) := ⟨_, rfl⟩
      rw [← HWO.out]
      have HBO : Hid (Below w.heap.size w wo) := by rw [HWO.out]; exact below_drewN HB.out _
      replace c1 : wo.cell? ⟨b, o + i * 2 + 1, none⟩ = some (.slice fa fn fcap) := by rw [HWO.out]; exact c1
      clear c0 hbl
      have HC1 := hid c1
      clear c1
      go_loopw [3, 5] (fun v3 v5 wq => ∃ (z : Int) (k : Nat), v3 = .int .i64 z ∧ k ≤ fn ∧ v5 = .int .i64 k ∧ Hid (Below wo.heap.size wo wq)) (fun _ v5 _ => fn - (intOf v5).toNat)
      case atStart => exact ⟨_, 0, rfl, by omega, rfl, Below.refl _ _⟩
      case round =>
        obtain ⟨z2, k, rfl, hk, rfl, HBQ⟩ := hrel
        have c1 := below_keeps HBQ.out _ _ HC1.out
        have hbl : b < wr.heap.size := World.block_lt_of_cell? wr _ c1
        by_cases hlk : k < fn
        · have hft := HFT.out
          obtain ⟨b2, o2, ha2, hok, g0, -⟩ := hft k hlk
          clear hft
          have hkr := below_keeps (HBO.out.trans (HBQ.out.mono HBO.out.size))
          replace g0 := hkr _ _ g0
          clear hkr
          obtain ⟨fx, HFX⟩ : ∃ fx, Hid (fx = (s.getD i .zero).fields.getD k .zero) := ⟨_, rfl⟩
          rw [← HFX.out] at hok g0
          have hsz := hok.name
          have hix2 := index_run Tryd.underlying56 size_fld ha2 k hlk (cap := fcap)
          have hbl2 : b2 < wr.heap.size := World.block_lt_of_cell? wr _ g0
          clear ha2 hok
          go_wp2_with fail
          go_roundw
          case rel => exact ⟨_, k + 1, rfl, hlk, by go_num, HBQ⟩
          case measure => simp [intOf]; omega
        · go_wp2_with fail
          go_roundw
          case rel => exact ⟨_, i + 1, rfl, hlt, by go_num, HBO.out.trans (HBQ.out.mono HBO.out.size)⟩
          case measure => simp [intOf]; omega
    · go_wp2_with fail
      go_ret
      exact ⟨⟨_, rfl⟩, HB.out⟩

end Go.Proofs.YtpjikakbdahmfaaDoor

namespace Go.Proofs.YtpjikakbdahmfaaDoor
open Go.RowKit

theorem makeC_bad {s : List Mes} {root : Int} {paths : List (List UInt8)} {c : Nat} {o : List (List Int)} (h : makeC s root paths = (c, o)) (hc : c ≠ 0) : o = [] := by
  unfold makeC at h
  split at h
  · cases h; rfl
  · split at h
    · cases h; rfl
    · split at h
      · cases h; exact absurd rfl hc
      · cases h; rfl
theorem makeC_light {s : List Mes} {root : Int} {paths : List (List UInt8)} {o : List (List Int)} (h : makeC s root paths = (0, o)) : o.length ≤ 200 ∧ ∀ x ∈ o, x.length ≤ 65 := by
  unfold makeC at h
  split at h
  · rename_i hn
    exact absurd (congrArg Prod.fst h) hn
  · split at h
    · cases h
    · rename_i hlen
      split at h
      · rename_i ws hws
        cases h
        obtain ⟨h1, h2⟩ := waysOf_light hws
        exact ⟨by have := mOf_len ws; omega, fun x hx => h2 x (((mOf_mask ws).2 x).1 hx).1⟩
      · cases h
theorem path_short {p : List UInt8} (h : pathOk p = true) : p.length ≤ 4000 := by
  unfold pathOk at h
  simp only [Bool.and_eq_true, decide_eq_true_eq] at h
  have h1 : ∀ t ∈ sdot p, t.length ≤ 60 := by
    intro t ht
    have h2 := List.all_eq_true.1 h.2 t ht
    unfold nameOk at h2
    simp [ByteArray.size] at h2
    exact h2.2.2
  have h3 := twt_le _ h1
  have h4 := sjoin_len (sdot p)
  rw [sjoin_sdot] at h4
  omega
theorem resolveW_short {s : List Mes} {root : Int} {p : List UInt8} {w : List Int} (h : resolveW s root p = some w) : p.length ≤ 4000 := by
  unfold resolveW at h
  split at h
  · rename_i hp; exact path_short hp
  · cases h
theorem makeC_short {s : List Mes} {root : Int} {l : List (List UInt8)} {o : List (List Int)} (h : makeC s root l = (0, o)) : ∀ p ∈ l, p.length ≤ 4000 := by
  unfold makeC at h
  split at h
  · rename_i hn
    exact absurd (congrArg Prod.fst h) hn
  · split at h
    · cases h
    · split at h
      · rename_i ws hws
        intro p hp
        obtain ⟨i, hi, e⟩ := List.getElem_of_mem hp
        obtain ⟨w, -, h2⟩ := waysOf_get hws i p (by rw [List.getElem?_eq_getElem hi, e])
        exact resolveW_short h2
      · cases h

theorem resolveC_some {s : List Mes} {root : Int} {p : List UInt8} {w : List Int} (h : resolveC s root p = (0, w)) : resolveW s root p = some w := by
  unfold resolveC at h
  split at h
  · rename_i hn
    exact absurd (congrArg Prod.fst h) hn
  · split at h
    · rename_i l hl
      rw [hl]
      exact congrArg some (congrArg Prod.snd h)
    · cases h

theorem makeC_code (s : List Mes) (root : Int) (paths : List (List UInt8)) : (makeC s root paths).1 ≤ 255 := by
  unfold makeC
  split
  · unfold maskArgs; split
    · decide
    · split <;> decide
  · split
    · decide
    · split <;> simp

set_option maxRecDepth 100000 in
set_option maxHeartbeats 8000000 in
theorem law13_MaskNames {w : World} {sv pv : Value} {s : List Mes} {paths : List (List UInt8)} (hS : SchemaAt w sv s) (root : Int) (hP : StrsAt w pv paths) (hpw : twt paths ≤ 1099511627776) (hpl : ∀ p ∈ paths, p.length ≤ 1099511627776) :
    Calls Tryd.prog 5 #[sv, .int .i64 root, pv] w (LawPost w) := by
  have HS := hid hS
  have HP := hid hP
  have HPW := hid hpw
  have HPL := hid hpl
  obtain ⟨-, sa, sc, rfl, -⟩ := hS.open
  obtain ⟨m, HM⟩ : ∃ m, Hid (m = s.length) := ⟨_, rfl⟩
  rw [← HM.out] at HS ⊢
  obtain ⟨hn, pa, pc, rfl, -, hpat⟩ := hP.open
  obtain ⟨n, HN⟩ : ∃ n, Hid (n = paths.length) := ⟨_, rfl⟩
  rw [← HN.out] at HP hn ⊢
  have HPAT := hid hpat
  obtain ⟨Q, HQ⟩ : ∃ Q : Ending → World → Prop, Hid (Q = LawPost w) := ⟨_, rfl⟩
  rw [← HQ.out]
  have HTRUE : Hid (∀ w', Below w.heap.size w w' → Q (.returned (.bool true)) w') := fun w' hb => by rw [HQ.out]; exact ⟨rfl, hb⟩
  clear hS hP hpw hpl hpat
  go_enter Tryd.func5, Tryd.ntmps5
  go_wp2_with fail
  refine (law13_alive _).mono ?_
  rintro e w1 ⟨rfl, hb⟩
  have HB1 := hid hb
  clear hb
  go_wp2_with fail
  refine (law07_Few (HS.out.below HB1.out)).mono ?_
  rintro e w2 ⟨⟨b1, rfl⟩, hb⟩
  have HB2 : Hid (Below w.heap.size w w2) := below_step HB1.out hb HB1.out.size
  clear hb
  cases b1 with
  | false =>
    go_wp2_with fail
    exact HTRUE.out _ HB2.out
  | true =>
    go_wp2_with fail
    refine (law12_Long (HP.out.keep (below_keeps HB2.out)) HPW.out).mono ?_
    rintro e w2' ⟨rfl, rfl⟩
    by_cases hlong : 6000 < twt paths
    · rw [decide_eq_true hlong]
      clear hlong
      go_wp2_with fail
      exact HTRUE.out _ HB2.out
    · rw [decide_eq_false hlong]
      clear hlong
      have HMK := hid (mask_Make (HS.out.below HB2.out) root (HP.out.keep (below_keeps HB2.out)) HPL.out)
      obtain ⟨c, o, HMC⟩ : ∃ c o, Hid (makeC s root paths = (c, o)) := ⟨_, _, rfl⟩
      have hc255 : c ≤ 255 := by have := makeC_code s root paths; rw [HMC.out] at this; exact this
      rw [HMC.out] at HMK
      go_wp2_with fail
      refine HMK.out.mono ?_
      rintro e w3 ⟨v3, rfl, hN3, hb3⟩
      have HB3 : Hid (Below w.heap.size w w3) := below_step HB2.out hb3 HB2.out.size
      have hW3 := hN3.here
      have HW3 := hid hW3
      obtain ⟨-, oa, oc, rfl, -, -⟩ := hW3.open
      unfold maskV
      by_cases hc : c = 0
      · subst hc
        obtain ⟨l, hl1, hl2, hl3, hl4, hl5⟩ := names_law HMC.out
        obtain ⟨hlo1, hlo2⟩ := makeC_light HMC.out
        have hlshort := makeC_short hl2
        obtain ⟨on, HON⟩ : ∃ on, Hid (on = o.length) := ⟨_, rfl⟩
        have HL1 := hid hl1
        have HL2 := hid hl2
        have HL3 : Hid (l.length = on) := by rw [Hid, HON.out]; exact hl3
        have HL4 : Hid (on ≤ n) := by show on ≤ n; rw [HON.out, HN.out, ← hl3]; exact hl4
        have HL5 := hid hl5
        have HO := hid (And.intro hlo1 hlo2)
        have HSH := hid hlshort
        simp only at hN3 hW3 HW3
        rw [← HON.out] at HW3 ⊢
        clear hl1 hl2 hl3 hl4 hl5 hlo1 hlo2 hlshort hN3 hW3 hb3
        obtain ⟨wB, HWB⟩ : ∃ wB, Hid (wB = w3.alloc (.cells #[.slice oa on oc] 27)) := ⟨_, rfl⟩
        have hb4 : Below w3.heap.size w3 wB := by rw [HWB.out]; (repeat (first | with_reducible exact Below.refl _ _ | with_reducible refine Below.setCell ?_ (by first | omega | (simp; omega) | (simp; done)) _ | with_reducible refine Below.alloc ?_ (by first | omega | (simp; omega) | (simp; done)) _ | with_reducible refine below_drewN ?_ _ | with_reducible refine Below.drew ?_))
        have HB4 : Hid (Below w.heap.size w wB) := below_step HB3.out hb4 HB3.out.size
        have hbx : Blk wB w3.heap.size [.slice oa on oc] 27 := by rw [HWB.out]; exact Blk.new w3 [.slice oa on oc] _
        have HBX := hid hbx
        have c0 := hbx.cell 0 _ rfl
        have HW4 := hid (HW3.out.below hb4)
        have hLO : LightW o := ⟨by have := HO.out.1; omega, fun x hx => by have := HO.out.2 x hx; omega⟩
        have h5 := mask_Paths (HS.out.below HB4.out) root HW4.out hLO (fun x hx => by have := HO.out.2 x hx; omega)
        unfold maskV at h5
        rw [HL1.out] at h5
        have HPT := hid h5
        clear hb4 hbx hLO h5
        go_wp2_with fail
        rw [← HWB.out]
        refine HPT.out.mono ?_
        rintro e w5 ⟨v5, rfl, hO5', hb5⟩
        have hO5 : StrsOwn w5 wB.heap.size v5 l := hO5'
        clear hO5'
        have HB5 : Hid (Below w.heap.size w w5) := below_step HB4.out hb5 HB4.out.size
        have hst := StrsOwn.strs hO5 (by have := HL3.out; have := HO.out.1; have := HON.out; omega) (fun t ht => by have := HSH.out t ht; omega)
        have HM6 := hid (mask_Make (HS.out.below HB5.out) root hst (fun t ht => by have := HSH.out t ht; omega))
        rw [HL2.out] at HM6
        obtain ⟨la, lc, hle⟩ := hO5.form
        rw [HL3.out] at hle
        subst hle
        have HBX5 := hid (HBX.out.below hb5)
        have HW5 := hid (HW4.out.below hb5)
        clear hO5 hb5 hst c0
        go_wp2_with fail
        refine HM6.out.mono ?_
        rintro e w6 ⟨v6, rfl, hN6, hb6⟩
        have HB6 : Hid (Below w.heap.size w w6) := below_step HB5.out hb6 HB5.out.size
        have hW6 := hN6.here
        obtain ⟨-, ga, gc, rfl, -, -⟩ := hW6.open
        simp only at hW6
        rw [← HON.out] at hW6 ⊢
        have HW6 := hid hW6
        have HBX6 := hid (HBX5.out.below hb6)
        have HW56 := hid (HW5.out.below hb6)
        obtain ⟨wC, HWC⟩ : ∃ wC, Hid (wC = w6.alloc (.cells #[.slice ga on gc] 27)) := ⟨_, rfl⟩
        have hb7 : Below w6.heap.size w6 wC := by rw [HWC.out]; (repeat (first | with_reducible exact Below.refl _ _ | with_reducible refine Below.setCell ?_ (by first | omega | (simp; omega) | (simp; done)) _ | with_reducible refine Below.alloc ?_ (by first | omega | (simp; omega) | (simp; done)) _ | with_reducible refine below_drewN ?_ _ | with_reducible refine Below.drew ?_))
        have HB7 : Hid (Below w.heap.size w wC) := below_step HB6.out hb7 HB6.out.size
        have k0 := HBX6.out.cell 0 _ rfl
        have hlt0 := HBX6.out.lt
        have HBX7 := hid (HBX6.out.below hb7)
        have HW7 := hid (HW56.out.below hb7)
        have hsm := ref13_Same (HW6.out.below hb7) HW7.out
        rw [decide_eq_true rfl] at hsm
        have HSM := hid hsm
        have hon := HL4.out
        unfold maskV
        have j1 : ((on : Int) != (on : Int)) = false := by simp
        have j2 : (on != on) = false := by simp
        have j3 : decide ((n : Int) < (on : Int)) = false := decide_eq_false (by omega)
        have j4 : decide (n < on) = false := decide_eq_false (by omega)
        clear hN6 hb6 hW6 hb7 hsm hon
        go_wp2_with fail
        rw [← HWC.out]
        clear j1 j2 j3 j4
        refine HSM.out.mono ?_
        rintro e w8 ⟨rfl, hd⟩
        have HB8 : Hid (Below w.heap.size w w8) := below_step HB7.out hd.below HB7.out.size
        have HBX8 := hid (HBX7.out.below hd.below)
        have HW8 := hid (HW7.out.below hd.below)
        clear hd k0 hlt0
        go_wp2_with fail
        go_loopw [13] (fun v13 wr => ∃ i : Nat, v13 = .int .i64 i ∧ i ≤ n ∧ Hid (Below w8.heap.size w8 wr)) (fun v13 _ => n - (intOf v13).toNat)
        case atStart => exact ⟨0, rfl, by omega, Below.refl _ _⟩
        case round =>
          obtain ⟨i, rfl, hi, HI⟩ := hrel
          have HBW : Hid (Below w.heap.size w wr) := below_step HB8.out HI.out HB8.out.size
          by_cases hlt : i < n ∧ i < 20
          · obtain ⟨hlt1, hlt2⟩ := hlt
            obtain ⟨p, hp⟩ : ∃ p, paths[i]? = some p := ⟨_, List.getElem?_eq_getElem (by rw [← HN.out]; exact hlt1)⟩
            obtain ⟨-, b, o', ha, g0⟩ := HPAT.out i p hp
            have hix := index_run1 Tryd.underlying43 size_strp ha i hlt1 (cap := pc)
            replace g0 := below_keeps HBW.out _ _ g0
            obtain ⟨wy, hr1, hr2⟩ := HL5.out i p hp
            have h9 := mask_Resolve (HS.out.below HBW.out) root p (HPL.out p (List.mem_of_getElem? hp))
            rw [hr1] at h9
            unfold strV at g0 h9
            obtain ⟨PS, HPS⟩ : ∃ PS, Hid (PS = (⟨p.toArray⟩ : ByteArray)) := ⟨_, rfl⟩
            rw [← HPS.out] at g0 h9
            have H9 := hid h9
            have HR1 := hid hr1
            have HR2 := hid hr2
            have HWYL : Hid (wy.length ≤ 65 ∧ ∀ x ∈ wy, i64ok x) := And.intro (resolveW_len (resolveC_some hr1)) (resolveW_ok HS.out (resolveC_some hr1))
            clear hp ha h9 hr1 hr2
            go_wp2_with fail
            refine H9.out.mono ?_
            rintro e w10 ⟨v10, rfl, hO10', hb10⟩
            have hO10 : IntsOwn w10 wr.heap.size v10 wy := hO10'
            have hI10 := hO10.ints (by have := HWYL.out.1; omega) HWYL.out.2
            obtain ⟨ra, rc, hre⟩ := hO10.form
            subst hre
            have k0 := ((HBX8.out.below HI.out).below hb10).cell 0 _ rfl
            have h11 := mask_Has ((HW8.out.below HI.out).below hb10) hI10
            unfold maskV at h11
            rw [HR2.out] at h11
            have H11 := hid h11
            have HI10 : Hid (Below w8.heap.size w8 w10) := below_step HI.out hb10 HI.out.size
            clear hO10' hO10 hI10 hb10 h11
            go_wp2_with fail
            refine H11.out.mono ?_
            rintro e w11 ⟨rfl, hb11⟩
            have HI11 : Hid (Below w8.heap.size w8 w11) := below_step HI10.out hb11 HI10.out.size
            clear hb11
            go_wp2_with fail
            go_roundw
            case rel => exact ⟨i + 1, by go_num, hlt1, HI11.out⟩
            case measure => simp [intOf]; omega
          · by_cases h1 : i < n
            · have e1 : decide ((i : Int) < 20) = false := decide_eq_false (by omega)
              clear hlt
              go_wp2_with fail
              exact HTRUE.out _ HBW.out
            · have e1 : decide ((i : Int) < (n : Int)) = false := decide_eq_false (by omega)
              clear hlt
              go_wp2_with fail
              exact HTRUE.out _ HBW.out
      · have HOE : Hid (o = []) := makeC_bad HMC.out hc
        have hc0 : 0 < c := by omega
        have e1 : ((c : Int) != 0) = true := by simp; exact hc
        have e2 : ((c : Int) == 0) = false := by simp; exact hc
        simp only [HOE.out, List.length_nil]
        clear hN3 hW3 hb3 hc HW3
        go_wp2_with fail
        exact HTRUE.out _ (HB3.out.alloc HB3.out.size _)

end Go.Proofs.YtpjikakbdahmfaaDoor

namespace Go.Proofs.YtpjikakbdahmfaaDoor
open Go.RowKit Go.Deep

/-- every part of a datum is within the form's reach -/
def Light {H : Type} (P : Program) (t : TypeId) (d : DataW H) : Prop := ∀ n ∈ d.weights P t, n ≤ reachBytes
theorem light_slice {H : Type} {P : Program} {t e : TypeId} (ht : P.underlying t = some (.slice e)) {es sp : List (DataW H)} (h : Light P t (.slice es sp)) :
    (es.length + sp.length) * P.bytesOf e ≤ reachBytes ∧ (∀ d ∈ es, Light P e d) ∧ (∀ d ∈ sp, Light P e d) := by
  have all : ∀ (l : List (DataW H)) (d : DataW H), d ∈ l → ∀ n ∈ d.weights P e, n ∈ DataW.weightsAll P e l := by
    intro l
    induction l with
    | nil => intro d hd; simp at hd
    | cons x r ih =>
      intro d hd n hn
      rw [DataW.weightsAll]
      rcases List.mem_cons.1 hd with rfl | hd
      · exact List.mem_append_left _ hn
      · exact List.mem_append_right _ (ih d hd n hn)
  refine ⟨h _ (by simp [DataW.weights, ht]), fun d hd n hn => h n ?_, fun d hd n hn => h n ?_⟩
  · simp only [DataW.weights, ht]
    exact List.mem_cons_of_mem _ (List.mem_append_left _ (all _ d hd n hn))
  · simp only [DataW.weights, ht]
    exact List.mem_cons_of_mem _ (List.mem_append_right _ (all _ d hd n hn))
theorem light_struct {H : Type} {P : Program} {t : TypeId} {fs : Array Field} (ht : P.underlying t = some (.struct fs)) {ds : List (DataW H)} (h : Light P t (.agg ds)) :
    ∀ (i : Nat) (f : Field) (d : DataW H), fs[i]? = some f → ds[i]? = some d → Light P f.type d := by
  have each : ∀ (ts : List TypeId) (l : List (DataW H)) (i : Nat) (u : TypeId) (d : DataW H), ts[i]? = some u → l[i]? = some d → ∀ n ∈ d.weights P u, n ∈ DataW.weightsEach P ts l := by
    intro ts
    induction ts with
    | nil => intro l i u d hu; simp at hu
    | cons a r ih =>
      intro l i u d hu hd n hn
      cases l with
      | nil => simp at hd
      | cons x l =>
        rw [DataW.weightsEach]
        cases i with
        | zero => simp at hu hd; subst hu; subst hd; exact List.mem_append_left _ hn
        | succ i => exact List.mem_append_right _ (ih l i u d (by simpa using hu) (by simpa using hd) n hn)
  intro i f d hf hd n hn
  refine h n ?_
  simp only [DataW.weights, ht]
  exact each _ _ i f.type d (by simp; exact ⟨f, by simpa using hf, rfl⟩) hd n hn
theorem light_arg {H : Type} {P : Program} {ts : List TypeId} {ds : List (DataW H)} (h : (DataW.weightsEach P ts ds).all (· ≤ reachBytes) = true) {j : Nat} {t : TypeId} {d : DataW H} (ht : ts[j]? = some t) (hd : ds[j]? = some d) : Light P t d := by
  intro n hn
  have := List.all_eq_true.1 h _ (DataW.weights_mem_each ht hd n hn)
  simpa using this
theorem flat_one {α : Type} (n : Nat) (css : Nat → List α) (f : Nat → α) (h : ∀ i, i < n → css i = [f i]) : (List.range n).flatMap css = (List.range n).map f := by
  induction n with
  | zero => rfl
  | succ n ih =>
    rw [List.range_succ, List.flatMap_append, List.map_append, ih (fun i hi => h i (by omega))]
    simp [h n (by omega)]
theorem cells_str : Tryd.prog.cellsOf 9 = 1 := by kernel_rfl
/-- a slice of whatever elements, as cells -/
theorem seg_of_trod2 {H : Type} {enc : TypeId × Value → H} {P : Program} {w : World} {t e : TypeId} {size : Nat} (ht : P.underlying t = some (.slice e)) (hce : P.cellsOf e = size) (hbytes : 1 ≤ P.bytesOf e)
    {v : Value} {d : DataW H} {p : List MemPlace} (hv : ∃ a n c, v = .slice a n c) (h : DataW.Trod enc P w 0 (fun _ => true) true t v d p) (hL : Light P t d) :
    ∃ (n fuel : Nat) (css : Nat → List Value) (D : Nat → DataW H) (Pl : Nat → List MemPlace), Seg w v size n ((List.range n).flatMap css) ∧ (∀ i, i < n → (css i).length = size ∧ DataW.trod enc P w 0 (fun _ => true) true fuel e (css i) = some (D i, Pl i) ∧ Light P e (D i)) ∧ (d = .nil ∧ n = 0 ∨ ∃ sp, d = .slice ((List.range n).map D) sp) := by
  obtain ⟨a0, n0, c0, rfl⟩ := hv
  obtain ⟨fuel, h⟩ := h
  rcases open_slice ht h with ⟨hcs, hx⟩ | ⟨a, len, cap, m, n, D, Pl, hcs, -, hl, hm, hmm, hx, hel⟩
  · simp [Value.cells] at hcs
    obtain ⟨rfl, rfl, rfl⟩ := hcs
    exact ⟨0, 0, fun _ => [], fun _ => .nil, fun _ => [], ⟨by simp, by simp, none, 0, rfl, Nat.le_refl _, by omega, fun _ => rfl, fun j u hu => by simp at hu⟩, fun i hi => absurd hi (by omega), .inl ⟨by cases hx; rfl, rfl⟩⟩
  · simp [Value.cells] at hcs
    obtain ⟨rfl, rfl, rfl⟩ := hcs
    simp only [if_true] at hmm
    subst hmm
    simp only [Prod.mk.injEq] at hx
    obtain ⟨rfl, -⟩ := hx
    obtain ⟨hb, hle, -⟩ := light_slice ht hL
    simp only [List.length_map, List.length_range] at hb
    have hn47 : n0 ≤ 140737488355328 := by
      have h1 : reachBytes < 2 ^ 47 := reachBytes_lt
      have h2 : n0 * 1 ≤ (n0 + (m - n0)) * P.bytesOf e := Nat.mul_le_mul (by omega) hbytes
      omega
    obtain ⟨css, hcss⟩ := choose_lt (α := List Value) (n := n0) (p := fun i cs => w.cells? 0 (a.add (i * P.cellsOf e)) (P.cellsOf e) = some cs ∧ DataW.trod enc P w 0 (fun _ => true) true n e cs = some (D i, Pl i)) (fun i hi => hel i (by omega))
    have hlen : ∀ i, i < n0 → (css i).length = size := fun i hi => by rw [← hce]; exact (World.cells?_some (hcss i hi).1).2.1
    have flat : ∀ (k : Nat), k ≤ n0 → ((List.range k).flatMap css).length = k * size := by
      intro k
      induction k with
      | zero => intro _; simp
      | succ k ih =>
        intro hk
        rw [List.range_succ, List.flatMap_append, List.length_append, ih (by omega)]
        simp [hlen k (by omega), Nat.succ_mul]
    refine ⟨n0, n, css, D, Pl, ⟨flat n0 (Nat.le_refl _), hn47, some a, m, rfl, hl, by unfold maxLen at hm; omega, by simp, ?_⟩, fun i hi => ⟨hlen i hi, (hcss i hi).2, hle _ (List.mem_map.2 ⟨i, List.mem_range.2 hi, rfl⟩)⟩, .inr ⟨_, rfl⟩⟩
    intro j u hu
    -- the cell at place j lies in element j / size
    have get : ∀ (k : Nat), k ≤ n0 → ∀ j u, ((List.range k).flatMap css)[j]? = some u → ∃ i q, i < k ∧ q < size ∧ j = i * size + q ∧ (css i)[q]? = some u := by
      intro k
      induction k with
      | zero => intro _ j u hu; simp at hu
      | succ k ih =>
        intro hk j u hu
        rw [List.range_succ, List.flatMap_append] at hu
        by_cases hj : j < k * size
        · rw [List.getElem?_append_left (by rw [flat k (by omega)]; exact hj)] at hu
          obtain ⟨i, q, h1, h2, h3, h4⟩ := ih (by omega) j u hu
          exact ⟨i, q, by omega, h2, h3, h4⟩
        · rw [List.getElem?_append_right (by rw [flat k (by omega)]; omega), flat k (by omega)] at hu
          simp at hu
          have hq : j - k * size < size := by
            have := (List.getElem?_eq_some_iff.1 hu).1
            rw [hlen k (by omega)] at this; exact this
          exact ⟨k, j - k * size, by omega, hq, by omega, hu⟩
    obtain ⟨i, q, h1, h2, rfl, h4⟩ := get n0 (Nat.le_refl _) j u hu
    obtain ⟨-, -, hc⟩ := World.cells?_some (hcss i h1).1
    have hcell := hc q (by rw [hce]; exact h2)
    rw [h4, hce, add_add] at hcell
    have hspot : a.spot = none := by
      have h0 := (World.cells?_some (hcss 0 (by omega)).1).2.2 0 (by rw [hce]; omega)
      have h5 : (css 0)[0]? = some ((css 0)[0]'(by rw [hlen 0 (by omega)]; omega)) := List.getElem?_eq_getElem _
      rw [h5] at h0
      simpa [Addr.add] using World.cell?_spot h0
    obtain ⟨b, o, sp⟩ := a
    have : sp = none := hspot
    subst this
    rw [addr_add] at hcell
    exact ⟨b, o, rfl, hcell⟩
theorem bulk_one {H : Type} (d : DataW H) : 1 ≤ Rows.uptoBulk d := by
  cases d with
  | lit l => cases l <;> simp [Rows.uptoBulk]
  | nil => simp [Rows.uptoBulk]
  | ptr d => simp [Rows.uptoBulk]
  | slice elems spare => simp [Rows.uptoBulk]
  | agg parts => simp [Rows.uptoBulk]
  | iface t d => simp [Rows.uptoBulk]
  | map entries => simp [Rows.uptoBulk]
  | held h => simp [Rows.uptoBulk]
theorem bulkAll_sum {H : Type} : ∀ l : List (DataW H), Rows.uptoBulkAll l = (l.map Rows.uptoBulk).sum
  | [] => by simp [Rows.uptoBulkAll]
  | x :: r => by simp [Rows.uptoBulkAll, bulkAll_sum r]
theorem bulk_part {H : Type} {d : DataW H} {l : List (DataW H)} (h : d ∈ l) : Rows.uptoBulk d ≤ Rows.uptoBulkAll l := by
  rw [bulkAll_sum]; exact mem_sum_le _ l d h
theorem sum_range_le {f g : Nat → Nat} : ∀ n, (∀ i, i < n → f i ≤ g i) → ((List.range n).map f).sum ≤ ((List.range n).map g).sum
  | 0, _ => by simp
  | n + 1, h => by
    have h1 := sum_range_le n fun i hi => h i (by omega)
    have h2 := h n (by omega)
    rw [List.range_succ, List.map_append, List.map_append, List.sum_append, List.sum_append]
    simp
    omega
/-- the elements' weights, all together -/
theorem bulk_elems {H : Type} {n : Nat} {D : Nat → DataW H} {d : DataW H} {f : Nat → Nat} (hd : d = .nil ∧ n = 0 ∨ ∃ sp, d = .slice ((List.range n).map D) sp) (hf : ∀ i, i < n → f i ≤ Rows.uptoBulk (D i)) : ((List.range n).map f).sum + 1 ≤ Rows.uptoBulk d := by
  rcases hd with ⟨rfl, rfl⟩ | ⟨sp, rfl⟩
  · simp [Rows.uptoBulk]
  · have h := sum_range_le n hf
    simp only [Rows.uptoBulk, bulkAll_sum, List.map_map]
    have e : (List.range n).map (Rows.uptoBulk ∘ D) = (List.range n).map fun i => Rows.uptoBulk (D i) := rfl
    rw [e]
    omega
theorem bulk_elem {H : Type} {n : Nat} {D : Nat → DataW H} {d : DataW H} (hd : d = .nil ∧ n = 0 ∨ ∃ sp, d = .slice ((List.range n).map D) sp) {i : Nat} (hi : i < n) : Rows.uptoBulk (D i) + 1 ≤ Rows.uptoBulk d := by
  rcases hd with ⟨rfl, rfl⟩ | ⟨sp, rfl⟩
  · omega
  · have h := bulk_part (List.mem_map.2 ⟨i, List.mem_range.2 hi, rfl⟩ : D i ∈ (List.range n).map D)
    simp only [Rows.uptoBulk]
    omega
theorem bytes_str : Tryd.prog.bytesOf 9 = 16 := by kernel_rfl
theorem strs_of_trod {H : Type} {enc : TypeId × Value → H} {w : World} {v : Value} {d : DataW H} {p : List MemPlace} (hv : ∃ a n c, v = .slice a n c) (h : DataW.Trod enc Tryd.prog w 0 (fun _ => true) true 43 v d p) (hL : Light Tryd.prog 43 d) :
    ∃ l, StrsAt w v l ∧ twt l + 1 ≤ Rows.uptoBulk d := by
  obtain ⟨n, fuel, css, D, Pl, hs, hel, hd⟩ := seg_of_trod2 Tryd.underlying43 cells_str (by rw [bytes_str]; omega) hv h hL
  obtain ⟨c, hc⟩ := choose_lt (α := List UInt8) (n := n) (p := fun i c => css i = [strV c] ∧ c.length ≤ 140737488355328 ∧ 1 + c.length ≤ Rows.uptoBulk (D i)) (fun i hi => by
    obtain ⟨h1, h2, h3⟩ := hel i hi
    obtain ⟨s, hs, hx, -⟩ := DataW.trod_string Tryd.underlying9 h2
    simp only [Prod.mk.injEq] at hx
    have hlen : s.data.toList.length ≤ 140737488355328 := by
      have h4 := h3
      rw [hx.1] at h4
      have h5 := h4 s.data.toList.length (by simp [DataW.weights])
      have h6 : reachBytes < 2 ^ 47 := reachBytes_lt
      omega
    refine ⟨s.data.toList, ?_, hlen, ?_⟩
    · rw [hs]; simp [strV]
    · rw [hx.1]; simp [Rows.uptoBulk]; omega)
  refine ⟨(List.range n).map c, ⟨?_, ?_⟩, ?_⟩
  · rw [List.length_map, List.length_range, List.map_map, ← flat_one n css (strV ∘ c) (fun i hi => (hc i hi).1)]
    exact hs
  · intro t ht
    obtain ⟨i, hi, rfl⟩ := List.mem_map.1 ht
    exact (hc i (List.mem_range.1 hi)).2.1
  · have := bulk_elems (f := fun i => 1 + (c i).length) hd fun i hi => (hc i hi).2.2
    unfold twt
    rw [List.map_map]
    exact this
/-- a slice's value, of its cells -/
theorem trod_slice_form {H : Type} {enc : TypeId × Value → H} {P : Program} {w : World} {t e : TypeId} {fuel : Nat} {u : Value} {x : DataW H × List MemPlace} (ht : P.underlying t = some (.slice e)) (h : DataW.trod enc P w 0 (fun _ => true) true fuel t [u] = some x) : ∃ a n c, u = .slice a n c := by
  rcases open_slice ht h with ⟨hcs, -⟩ | ⟨a, len, cap, m, n, D, Pl, hcs, -⟩
  · exact ⟨_, _, _, by simpa using hcs⟩
  · exact ⟨_, _, _, by simpa using hcs⟩

/-- a slice of rows -/
theorem rows_of_trod {H α : Type} {enc : TypeId × Value → H} {w : World} {t e : TypeId} {k : Nat} (P : World → List Value → α → Prop) (wt : α → Nat) (ht : Tryd.prog.underlying t = some (.slice e)) (hce : Tryd.prog.cellsOf e = k) (hby : 1 ≤ Tryd.prog.bytesOf e)
    {v : Value} {d : DataW H} {p : List MemPlace} (hv : ∃ a n c, v = .slice a n c) (h : DataW.Trod enc Tryd.prog w 0 (fun _ => true) true t v d p) (hL : Light Tryd.prog t d) (B : Nat) (hB : Rows.uptoBulk d ≤ B + 1)
    (hel : ∀ (fuel : Nat) (cs : List Value) (d : DataW H) (p : List MemPlace), DataW.trod enc Tryd.prog w 0 (fun _ => true) true fuel e cs = some (d, p) → Light Tryd.prog e d → Rows.uptoBulk d ≤ B → ∃ x : α, P w cs x ∧ wt x ≤ Rows.uptoBulk d) :
    ∃ l : List α, RowsAt P k w v l ∧ (l.map wt).sum + 1 ≤ Rows.uptoBulk d := by
  obtain ⟨n, fuel, css, D, Pl, hs, hx, hd⟩ := seg_of_trod2 ht hce hby hv h hL
  have h1' : ∀ i, i < n → ∃ x : α, P w (css i) x ∧ wt x ≤ Rows.uptoBulk (D i) := fun i hi => by
    obtain ⟨h1, h2, h3⟩ := hx i hi
    exact hel fuel _ _ _ h2 h3 (by have := bulk_elem hd hi; omega)
  by_cases h0 : n = 0
  · subst h0
    refine ⟨[], ⟨[], rfl, by simp, by simpa using hs, by simp⟩, ?_⟩
    simpa using bulk_one d
  obtain ⟨x0, -⟩ := h1' 0 (by omega)
  haveI : Inhabited α := ⟨x0⟩
  obtain ⟨c, hc⟩ := choose_lt (α := α) (n := n) (p := fun i c => P w (css i) c ∧ wt c ≤ Rows.uptoBulk (D i)) (fun i hi => by
    obtain ⟨h1, h2, h3⟩ := hx i hi
    exact hel fuel _ _ _ h2 h3 (by have := bulk_elem hd hi; omega))
  refine ⟨(List.range n).map c, ⟨(List.range n).map css, by simp, ?_, ?_, ?_⟩, ?_⟩
  · intro r hr
    obtain ⟨i, hi, rfl⟩ := List.mem_map.1 hr
    exact (hx i (List.mem_range.1 hi)).1
  · rw [List.length_map, List.length_range, ← List.flatMap_def]
    exact hs
  · intro i r x hr hxx
    simp only [List.getElem?_map] at hr hxx
    rcases Nat.lt_or_ge i n with hi | hi
    · simp [hi] at hr hxx
      subst hr
      subst hxx
      exact (hc i hi).1
    · simp [hi] at hr
  · have := bulk_elems (f := fun i => wt (c i)) hd fun i hi => (hc i hi).2
    rw [List.map_map]
    exact this

end Go.Proofs.YtpjikakbdahmfaaDoor

namespace Go.Proofs.YtpjikakbdahmfaaDoor
open Go.RowKit Go.Deep

/-- a slice of whatever elements, as cells -/
theorem seg_of_trod {H : Type} {enc : TypeId × Value → H} {P : Program} {w : World} {t e : TypeId} {size : Nat} (ht : P.underlying t = some (.slice e)) (hce : P.cellsOf e = size) (hbytes : 1 ≤ P.bytesOf e)
    {v : Value} {d : DataW H} {p : List MemPlace} (hv : ∃ a n c, v = .slice a n c) (h : DataW.Trod enc P w 0 (fun _ => true) true t v d p) (hL : Light P t d) :
    ∃ (n fuel : Nat) (css : Nat → List Value) (D : Nat → DataW H) (Pl : Nat → List MemPlace), Seg w v size n ((List.range n).flatMap css) ∧ (∀ i, i < n → (css i).length = size ∧ DataW.trod enc P w 0 (fun _ => true) true fuel e (css i) = some (D i, Pl i) ∧ Light P e (D i)) := by
  obtain ⟨a0, n0, c0, rfl⟩ := hv
  obtain ⟨fuel, h⟩ := h
  rcases open_slice ht h with ⟨hcs, -⟩ | ⟨a, len, cap, m, n, D, Pl, hcs, -, hl, hm, hmm, hx, hel⟩
  · simp [Value.cells] at hcs
    obtain ⟨rfl, rfl, rfl⟩ := hcs
    exact ⟨0, 0, fun _ => [], fun _ => .nil, fun _ => [], ⟨by simp, by simp, none, 0, rfl, Nat.le_refl _, by omega, fun _ => rfl, fun j u hu => by simp at hu⟩, fun i hi => absurd hi (by omega)⟩
  · simp [Value.cells] at hcs
    obtain ⟨rfl, rfl, rfl⟩ := hcs
    simp only [if_true] at hmm
    subst hmm
    simp only [Prod.mk.injEq] at hx
    obtain ⟨rfl, -⟩ := hx
    obtain ⟨hb, hle, -⟩ := light_slice ht hL
    simp only [List.length_map, List.length_range] at hb
    have hn47 : n0 ≤ 140737488355328 := by
      have h1 : reachBytes < 2 ^ 47 := reachBytes_lt
      have h2 : n0 * 1 ≤ (n0 + (m - n0)) * P.bytesOf e := Nat.mul_le_mul (by omega) hbytes
      omega
    obtain ⟨css, hcss⟩ := choose_lt (α := List Value) (n := n0) (p := fun i cs => w.cells? 0 (a.add (i * P.cellsOf e)) (P.cellsOf e) = some cs ∧ DataW.trod enc P w 0 (fun _ => true) true n e cs = some (D i, Pl i)) (fun i hi => hel i (by omega))
    have hlen : ∀ i, i < n0 → (css i).length = size := fun i hi => by rw [← hce]; exact (World.cells?_some (hcss i hi).1).2.1
    have flat : ∀ (k : Nat), k ≤ n0 → ((List.range k).flatMap css).length = k * size := by
      intro k
      induction k with
      | zero => intro _; simp
      | succ k ih =>
        intro hk
        rw [List.range_succ, List.flatMap_append, List.length_append, ih (by omega)]
        simp [hlen k (by omega), Nat.succ_mul]
    refine ⟨n0, n, css, D, Pl, ⟨flat n0 (Nat.le_refl _), hn47, some a, m, rfl, hl, by unfold maxLen at hm; omega, by simp, ?_⟩, fun i hi => ⟨hlen i hi, (hcss i hi).2, hle _ (List.mem_map.2 ⟨i, List.mem_range.2 hi, rfl⟩)⟩⟩
    intro j u hu
    -- the cell at place j lies in element j / size
    have get : ∀ (k : Nat), k ≤ n0 → ∀ j u, ((List.range k).flatMap css)[j]? = some u → ∃ i q, i < k ∧ q < size ∧ j = i * size + q ∧ (css i)[q]? = some u := by
      intro k
      induction k with
      | zero => intro _ j u hu; simp at hu
      | succ k ih =>
        intro hk j u hu
        rw [List.range_succ, List.flatMap_append] at hu
        by_cases hj : j < k * size
        · rw [List.getElem?_append_left (by rw [flat k (by omega)]; exact hj)] at hu
          obtain ⟨i, q, h1, h2, h3, h4⟩ := ih (by omega) j u hu
          exact ⟨i, q, by omega, h2, h3, h4⟩
        · rw [List.getElem?_append_right (by rw [flat k (by omega)]; omega), flat k (by omega)] at hu
          simp at hu
          have hq : j - k * size < size := by
            have := (List.getElem?_eq_some_iff.1 hu).1
            rw [hlen k (by omega)] at this; exact this
          exact ⟨k, j - k * size, by omega, hq, by omega, hu⟩
    obtain ⟨i, q, h1, h2, rfl, h4⟩ := get n0 (Nat.le_refl _) j u hu
    obtain ⟨-, -, hc⟩ := World.cells?_some (hcss i h1).1
    have hcell := hc q (by rw [hce]; exact h2)
    rw [h4, hce, add_add] at hcell
    have hspot : a.spot = none := by
      have h0 := (World.cells?_some (hcss 0 (by omega)).1).2.2 0 (by rw [hce]; omega)
      have h5 : (css 0)[0]? = some ((css 0)[0]'(by rw [hlen 0 (by omega)]; omega)) := List.getElem?_eq_getElem _
      rw [h5] at h0
      simpa [Addr.add] using World.cell?_spot h0
    obtain ⟨b, o, sp⟩ := a
    have : sp = none := hspot
    subst this
    rw [addr_add] at hcell
    exact ⟨b, o, rfl, hcell⟩

theorem getD_range {α : Type} (n : Nat) (f : Nat → α) (z : α) (j : Nat) (hj : j < n) : ((List.range n).map f).getD j z = f j := by simp [List.getD, hj]
theorem flatMap_congr' {α β : Type} {l : List α} {f g : α → List β} (h : ∀ a ∈ l, f a = g a) : l.flatMap f = l.flatMap g := by
  induction l with
  | nil => rfl
  | cons a r ih =>
    rw [List.flatMap_cons, List.flatMap_cons, h a (by simp), ih fun x hx => h x (by simp [hx])]

theorem bytes_fld : Tryd.prog.bytesOf 55 = 48 := by kernel_rfl
theorem cells_fld : Tryd.prog.cellsOf 55 = 6 := by kernel_rfl
theorem bytes_mes : Tryd.prog.bytesOf 58 = 40 := by kernel_rfl
theorem cells_mes : Tryd.prog.cellsOf 58 = 2 := by kernel_rfl
theorem cells_int : Tryd.prog.cellsOf 3 = 1 := by kernel_rfl
theorem cells_bool : Tryd.prog.cellsOf 4 = 1 := by kernel_rfl
theorem cells_flds : Tryd.prog.cellsOf 56 = 1 := by kernel_rfl

theorem i64_bd {x : Int} (h : (Lit.int .i64 x).wf = true) : -9223372036854775808 ≤ x ∧ x ≤ 9223372036854775807 := by
  simpa [Lit.wf, IntKind.min, IntKind.max, IntKind.signed, IntKind.bits] using h

set_option maxRecDepth 100000 in
/-- the cells of a field -/
theorem fld_of_trod {H : Type} {enc : TypeId × Value → H} {w : World} {fuel : Nat} {cs : List Value} {d : DataW H} {p : List MemPlace} (h : DataW.trod enc Tryd.prog w 0 (fun _ => true) true fuel 55 cs = some (d, p)) (hL : Light Tryd.prog 55 d) :
    ∃ f : Fld, f.Ok ∧ cs = f.cells := by
  obtain ⟨xs, n, -, hx, hl, hlen, hf⟩ := DataW.trod_struct Tryd.underlying55 h
  simp only [Prod.mk.injEq] at hx
  obtain ⟨rfl, -⟩ := hx
  have hsub := light_struct Tryd.underlying55 hL
  rw [cells_fld] at hl
  match cs, hl, xs, hlen with
  | [c0, c1, c2, c3, c4, c5], _, [x0, x1, x2, x3, x4, x5], _ =>
    have g0 : DataW.trod enc Tryd.prog w 0 (fun _ => true) true n 9 [c0] = some x0 := by have := hf 0 _ rfl; simpa [cells_str] using this
    have g1 : DataW.trod enc Tryd.prog w 0 (fun _ => true) true n 3 [c1] = some x1 := by have := hf 1 _ rfl; simpa [cells_int] using this
    have g2 : DataW.trod enc Tryd.prog w 0 (fun _ => true) true n 3 [c2] = some x2 := by have := hf 2 _ rfl; simpa [cells_int] using this
    have g3 : DataW.trod enc Tryd.prog w 0 (fun _ => true) true n 4 [c3] = some x3 := by have := hf 3 _ rfl; simpa [cells_bool] using this
    have g4 : DataW.trod enc Tryd.prog w 0 (fun _ => true) true n 4 [c4] = some x4 := by have := hf 4 _ rfl; simpa [cells_bool] using this
    have g5 : DataW.trod enc Tryd.prog w 0 (fun _ => true) true n 3 [c5] = some x5 := by have := hf 5 _ rfl; simpa [cells_int] using this
    obtain ⟨s, e0, r0, -⟩ := DataW.trod_string Tryd.underlying9 g0
    obtain ⟨n1, e1, -, w1⟩ := DataW.trod_int Tryd.underlying3 g1
    obtain ⟨n2, e2, -, w2⟩ := DataW.trod_int Tryd.underlying3 g2
    obtain ⟨b3, e3, -⟩ := DataW.trod_bool Tryd.underlying4 g3
    obtain ⟨b4, e4, -⟩ := DataW.trod_bool Tryd.underlying4 g4
    obtain ⟨n5, e5, -, w5⟩ := DataW.trod_int Tryd.underlying3 g5
    have hs : s.size ≤ 140737488355328 := by
      have h1 := hsub 0 _ _ rfl rfl
      rw [r0] at h1
      have h2 := h1 s.data.toList.length (by simp [DataW.weights])
      have h3 : reachBytes < 2 ^ 47 := reachBytes_lt
      simp at h2
      have h4 : s.data.size = s.size := rfl
      omega
    simp only [List.cons.injEq, and_true] at e0 e1 e2 e3 e4 e5
    refine ⟨⟨s, n1, n2, b3, b4, n5⟩, ⟨hs, i64_bd w1, i64_bd w2, i64_bd w5⟩, ?_⟩
    simp [Fld.cells, e0, e1, e2, e3, e4, e5]

theorem fields_of_trod {H : Type} {enc : TypeId × Value → H} {w : World} {v : Value} {d : DataW H} {p : List MemPlace} (hv : ∃ a n c, v = .slice a n c) (h : DataW.Trod enc Tryd.prog w 0 (fun _ => true) true 56 v d p) (hL : Light Tryd.prog 56 d) :
    ∃ fs, FieldsAt w v fs := by
  obtain ⟨n, fuel, css, D, Pl, hs, hel⟩ := seg_of_trod Tryd.underlying56 cells_fld (by rw [bytes_fld]; omega) hv h hL
  haveI : Inhabited Fld := ⟨.zero⟩
  obtain ⟨f, hf⟩ := choose_lt (α := Fld) (n := n) (p := fun i f => f.Ok ∧ css i = f.cells) (fun i hi => by
    obtain ⟨h1, h2, h3⟩ := hel i hi
    exact fld_of_trod h2 h3)
  refine ⟨(List.range n).map f, ?_, fun g hg => ?_⟩
  · rw [List.length_map, List.length_range]
    have : ((List.range n).map f).flatMap Fld.cells = (List.range n).flatMap css := by
      rw [List.flatMap_map]
      exact flatMap_congr' (fun i hi => ((hf i (List.mem_range.1 hi)).2).symm)
    rw [this]
    exact hs
  · obtain ⟨i, hi, rfl⟩ := List.mem_map.1 hg
    exact (hf i (List.mem_range.1 hi)).1

set_option maxRecDepth 100000 in
theorem schema_of_trod {H : Type} {enc : TypeId × Value → H} {w : World} {v : Value} {d : DataW H} {p : List MemPlace} (hv : ∃ a n c, v = .slice a n c) (h : DataW.Trod enc Tryd.prog w 0 (fun _ => true) true 42 v d p) (hL : Light Tryd.prog 42 d) :
    ∃ s, SchemaAt w v s := by
  obtain ⟨n, fuel, css, D, Pl, hs, hel⟩ := seg_of_trod Tryd.underlying42 cells_mes (by rw [bytes_mes]; omega) hv h hL
  haveI : Inhabited (Mes × Value) := ⟨(.zero, undef)⟩
  obtain ⟨m, hm⟩ := choose_lt (α := Mes × Value) (n := n) (p := fun i m => m.1.name.size ≤ 140737488355328 ∧ css i = mesCells m ∧ FieldsAt w m.2 m.1.fields) (fun i hi => by
    obtain ⟨h1, h2, h3⟩ := hel i hi
    obtain ⟨xs, k, -, hx, hl, hlen, hf⟩ := DataW.trod_struct Tryd.underlying58 h2
    simp only [Prod.mk.injEq] at hx
    obtain ⟨hx, -⟩ := hx
    rw [hx] at h3
    have hsub := light_struct Tryd.underlying58 h3
    match hcs : css i, h1, xs, hlen with
    | [c0, c1], _, [x0, x1], _ =>
      rw [hcs] at hf
      have g0 : DataW.trod enc Tryd.prog w 0 (fun _ => true) true k 9 [c0] = some x0 := by have := hf 0 _ rfl; simpa [cells_str] using this
      have g1 : DataW.trod enc Tryd.prog w 0 (fun _ => true) true k 56 [c1] = some x1 := by have := hf 1 _ rfl; simpa [cells_flds] using this
      obtain ⟨s, e0, r0, -⟩ := DataW.trod_string Tryd.underlying9 g0
      have hs : s.size ≤ 140737488355328 := by
        have h1 := hsub 0 _ _ rfl rfl
        rw [r0] at h1
        have h2 := h1 s.data.toList.length (by simp [DataW.weights])
        have h3 : reachBytes < 2 ^ 47 := reachBytes_lt
        simp at h2
        have h4 : s.data.size = s.size := rfl
        omega
      obtain ⟨a, q, c, rfl⟩ := trod_slice_form Tryd.underlying56 g1
      obtain ⟨fs, hfs⟩ := fields_of_trod ⟨a, q, c, rfl⟩ ⟨k, by simpa [Value.cells] using g1⟩ (hsub 1 _ _ rfl rfl)
      simp only [List.cons.injEq, and_true] at e0
      exact ⟨(⟨s, fs⟩, .slice a q c), hs, by simp [mesCells, e0], hfs⟩)
  refine ⟨(List.range n).map fun i => (m i).1, (List.range n).map fun i => (m i).2, by simp, ?_, fun x hx => ?_, fun i hi => ?_⟩
  · rw [List.length_map, List.length_range]
    have : (((List.range n).map fun i => (m i).1).zip ((List.range n).map fun i => (m i).2)).flatMap mesCells = (List.range n).flatMap css := by
      rw [List.zip_map', List.flatMap_map]
      exact flatMap_congr' (fun i hi => ((hm i (List.mem_range.1 hi)).2.1).symm)
    rw [this]
    exact hs
  · obtain ⟨i, hi, rfl⟩ := List.mem_map.1 hx
    exact (hm i (List.mem_range.1 hi)).1
  · rw [List.length_map, List.length_range] at hi
    rw [getD_range n _ undef i hi, getD_range n _ Mes.zero i hi]
    exact (hm i hi).2.2


end Go.Proofs.YtpjikakbdahmfaaDoor
