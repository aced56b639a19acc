/- tree.Same of any two meanings: sameB. tree.Depth of any meaning whose weight is at most 2^40: depthM. Literals: a block of the call's own, read as words, fields, a schema, values. No condition. darninglaw16.alive returns true. No condition. -/
import Derived.Test.YtbhiddafbpingaaGreatZ05
import Derived.Test.YtbhiddafbpingaaGreatZ09
import Derived.Test.YtbhiddafbpingaaGreatZ17
import Derived.Test.YtbhiddafbpingaaGreatZ19
import Derived.Test.YtbhiddafbpingaaGreatZ20
import Derived.Test.YtbhiddafbpingaaGreatZ31
import Derived.Test.YtbhiddafbpingaaGreatZ33
namespace Go.Proofs.YtbhiddafbpingaaGreat
open Go.RowKit
/-- the contract of tree.Same -/
def SameOk (a b : Nat) : Prop := ∀ (w : World) (v u : Value) (x : M a) (y : M b), MsgAt a w v x → MsgAt b w u y →
  Calls Tryz.prog 28 #[v, u] w fun e w' => e = .returned (.bool (sameB a b x y)) ∧ Below w.heap.size w w'
set_option maxRecDepth 100000 in
set_option maxHeartbeats 4000000 in
theorem tree_same_of {a b : Nat} (ih : SameOk a b) {w : World} {v u : Value} {x : Val (M a)} {y : Val (M b)} (h : ValAt (MsgAt a) w v x) (hu : ValAt (MsgAt b) w u y) :
    Calls Tryz.prog 56 #[v, u] w fun e w' => e = .returned (.bool (sameV (sameB a b) x y)) ∧ Below w.heap.size w w' := by
  obtain ⟨wv, tv, sv, rfl, hnum, hW, hT, hS⟩ := h
  obtain ⟨wv2, tv2, sv2, rfl, hnum2, hW2, hT2, hS2⟩ := hu
  obtain ⟨-, wa, wc, e1, -, -⟩ := hW.open
  obtain ⟨-, ta, tc, e2, -, -⟩ := hT.open
  obtain ⟨-, sa, sc, e3, -, -⟩ := hS.open
  obtain ⟨-, wa2, wc2, e4, -, -⟩ := hW2.open
  obtain ⟨-, ta2, tc2, e5, -, -⟩ := hT2.open
  obtain ⟨-, sa2, sc2, e6, -, -⟩ := hS2.open
  have HQ := hid fun W (hB0 : Below w.heap.size w W) => equal_u64 (hW.keep (below_keeps hB0)) (hW2.keep (below_keeps hB0))
  have HT := hid fun W (hB0 : Below w.heap.size w W) => equal_str (hT.keep (below_keeps hB0)) (hT2.keep (below_keeps hB0))
  have HS := hid fun W (hB0 : Below w.heap.size w W) => equalFunc_msg (hS.keep (below_keeps hB0) fun _ _ h => MsgAt.below h hB0) (hS2.keep (below_keeps hB0) fun _ _ h => MsgAt.below h hB0) 28 (sameB a b) (fun args w => by simp [go_sem])
    fun p _ q _ pv qv wr hp hq hb => ih wr pv qv p q (hp.below hb) (hq.below hb)
  obtain ⟨R, HR⟩ : ∃ R, Hid (R = sameV (sameB a b) x y) := ⟨_, rfl⟩
  rw [← HR.out]
  obtain ⟨q1, HQ1⟩ : ∃ q, Hid (q = decide (x.words = y.words)) := ⟨_, rfl⟩
  obtain ⟨q2, HQ2⟩ : ∃ q, Hid (q = decide (x.texts = y.texts)) := ⟨_, rfl⟩
  obtain ⟨q3, HQ3⟩ : ∃ q, Hid (q = all2 (sameB a b) x.subs y.subs) := ⟨_, rfl⟩
  rw [← HQ1.out] at HQ
  rw [← HQ2.out] at HT
  rw [← HQ3.out] at HS
  have hR : R = (decide (x.num = y.num) && q1 && q2 && q3) := by
    rw [HR.out, sameV, HQ1.out, HQ2.out, HQ3.out, Bool.decide_and, Bool.decide_and]
    simp [Bool.and_assoc]
  subst e1
  subst e2
  subst e3
  subst e4
  subst e5
  subst e6
  generalize x.words.length = n1 at *
  generalize x.texts.length = n2 at *
  generalize x.subs.length = n3 at *
  generalize y.words.length = m1 at *
  generalize y.texts.length = m2 at *
  generalize y.subs.length = m3 at *
  generalize x.num = xn at *
  generalize y.num = yn at *
  clear hW hT hS hW2 hT2 hS2 ih HQ1 HQ2 HQ3 HR
  clear x y
  by_cases hn : xn = yn
  · subst hn
    cases q1 with
    | false =>
      have hr : R = false := by rw [hR]; simp
      clear hR
      subst hr
      go_enter Tryz.func56, Tryz.ntmps56
      go_wp2_with fail
      refine (HQ.out _ (by (repeat (first | with_reducible exact Below.refl _ _ | with_reducible refine Below.setCell ?_ (by first | omega | (simp; omega) | (simp; done)) _ | with_reducible refine Below.alloc ?_ (by first | omega | (simp; omega) | (simp; done)) _ | with_reducible refine below_drewN ?_ _ | with_reducible refine Below.drew ?_)))).mono ?_
      rintro e w1 ⟨rfl, kw, rfl⟩
      go_wp2_with fail
      go_ret
      exact ⟨rfl, by (repeat (first | with_reducible exact Below.refl _ _ | with_reducible refine Below.setCell ?_ (by first | omega | (simp; omega) | (simp; done)) _ | with_reducible refine Below.alloc ?_ (by first | omega | (simp; omega) | (simp; done)) _ | with_reducible refine below_drewN ?_ _ | with_reducible refine Below.drew ?_))⟩
    | true =>
      cases q2 with
      | false =>
        have hr : R = false := by rw [hR]; simp
        clear hR
        subst hr
        go_enter Tryz.func56, Tryz.ntmps56
        go_wp2_with fail
        refine (HQ.out _ (by (repeat (first | with_reducible exact Below.refl _ _ | with_reducible refine Below.setCell ?_ (by first | omega | (simp; omega) | (simp; done)) _ | with_reducible refine Below.alloc ?_ (by first | omega | (simp; omega) | (simp; done)) _ | with_reducible refine below_drewN ?_ _ | with_reducible refine Below.drew ?_)))).mono ?_
        rintro e w1 ⟨rfl, kw, rfl⟩
        go_wp2_with fail
        refine (HT.out _ (by (repeat (first | with_reducible exact Below.refl _ _ | with_reducible refine Below.setCell ?_ (by first | omega | (simp; omega) | (simp; done)) _ | with_reducible refine Below.alloc ?_ (by first | omega | (simp; omega) | (simp; done)) _ | with_reducible refine below_drewN ?_ _ | with_reducible refine Below.drew ?_)))).mono ?_
        rintro e w1 ⟨rfl, kw, rfl⟩
        go_wp2_with fail
        go_ret
        exact ⟨rfl, by (repeat (first | with_reducible exact Below.refl _ _ | with_reducible refine Below.setCell ?_ (by first | omega | (simp; omega) | (simp; done)) _ | with_reducible refine Below.alloc ?_ (by first | omega | (simp; omega) | (simp; done)) _ | with_reducible refine below_drewN ?_ _ | with_reducible refine Below.drew ?_))⟩
      | true =>
        have hr : R = q3 := by rw [hR]; simp
        clear hR
        subst hr
        go_enter Tryz.func56, Tryz.ntmps56
        go_wp2_with fail
        refine (HQ.out _ (by (repeat (first | with_reducible exact Below.refl _ _ | with_reducible refine Below.setCell ?_ (by first | omega | (simp; omega) | (simp; done)) _ | with_reducible refine Below.alloc ?_ (by first | omega | (simp; omega) | (simp; done)) _ | with_reducible refine below_drewN ?_ _ | with_reducible refine Below.drew ?_)))).mono ?_
        rintro e w1 ⟨rfl, kw, rfl⟩
        go_wp2_with fail
        refine (HT.out _ (by (repeat (first | with_reducible exact Below.refl _ _ | with_reducible refine Below.setCell ?_ (by first | omega | (simp; omega) | (simp; done)) _ | with_reducible refine Below.alloc ?_ (by first | omega | (simp; omega) | (simp; done)) _ | with_reducible refine below_drewN ?_ _ | with_reducible refine Below.drew ?_)))).mono ?_
        rintro e w1 ⟨rfl, kw, rfl⟩
        go_wp2_with fail
        refine (HS.out _ (by (repeat (first | with_reducible exact Below.refl _ _ | with_reducible refine Below.setCell ?_ (by first | omega | (simp; omega) | (simp; done)) _ | with_reducible refine Below.alloc ?_ (by first | omega | (simp; omega) | (simp; done)) _ | with_reducible refine below_drewN ?_ _ | with_reducible refine Below.drew ?_)))).mono ?_
        rintro e w1 ⟨rfl, hb⟩
        go_wp2_with fail
        go_ret
        exact ⟨rfl, below_step (w1 := _) (by (repeat (first | with_reducible exact Below.refl _ _ | with_reducible refine Below.setCell ?_ (by first | omega | (simp; omega) | (simp; done)) _ | with_reducible refine Below.alloc ?_ (by first | omega | (simp; omega) | (simp; done)) _ | with_reducible refine below_drewN ?_ _ | with_reducible refine Below.drew ?_))) hb (by simp; omega)⟩
  · have hr : R = false := by rw [hR, decide_eq_false hn]; simp
    clear hR
    subst hr
    have e1 : ((xn : Int) == yn) = false := by simpa using hn
    go_enter Tryz.func56, Tryz.ntmps56
    go_wp2_with fail
    go_ret
    exact ⟨rfl, by (repeat (first | with_reducible exact Below.refl _ _ | with_reducible refine Below.setCell ?_ (by first | omega | (simp; omega) | (simp; done)) _ | with_reducible refine Below.alloc ?_ (by first | omega | (simp; omega) | (simp; done)) _ | with_reducible refine below_drewN ?_ _ | with_reducible refine Below.drew ?_))⟩
set_option maxRecDepth 100000 in
set_option maxHeartbeats 4000000 in
theorem tree_Same : ∀ (a b : Nat), SameOk a b := by
  intro a
  induction a with
  | zero => exact fun _ _ _ _ _ _ h _ => h.elim
  | succ a ih =>
    intro b
    cases b with
    | zero => exact fun _ _ _ _ _ _ h => h.elim
    | succ b =>
    intro w v u x y h hu
    obtain ⟨vv, uv, rfl, hV, hU⟩ := h
    obtain ⟨vv2, uv2, rfl, hV2, hU2⟩ := hu
    obtain ⟨-, va, vc, e1, -, -⟩ := hV.open
    obtain ⟨-, ua, uc, e2, -, -⟩ := hU.open
    obtain ⟨-, va2, vc2, e3, -, -⟩ := hV2.open
    obtain ⟨-, ua2, uc2, e4, -, -⟩ := hU2.open
    have HT := hid fun W (hB0 : Below w.heap.size w W) => equal_str (hU.keep (below_keeps hB0)) (hU2.keep (below_keeps hB0))
    have HS := hid fun W (hB0 : Below w.heap.size w W) => equalFunc_val (hV.keep (below_keeps hB0) fun _ _ h => MsgAt.below h hB0) (hV2.keep (below_keeps hB0) fun _ _ h => MsgAt.below h hB0) 56 (sameV (sameB a b)) (fun args w => by simp [go_sem])
      fun p _ q _ pv qv wr hp hq hb => tree_same_of (ih b) (VMsg.below hp hb) (VMsg.below hq hb)
    obtain ⟨R, HR⟩ : ∃ R, Hid (R = sameB (a + 1) (b + 1) x y) := ⟨_, rfl⟩
    rw [← HR.out]
    obtain ⟨q1, HQ1⟩ : ∃ q, Hid (q = decide (M.unk x = M.unk y)) := ⟨_, rfl⟩
    obtain ⟨q2, HQ2⟩ : ∃ q, Hid (q = all2 (sameV (sameB a b)) (M.vals x) (M.vals y)) := ⟨_, rfl⟩
    rw [← HQ1.out] at HT
    rw [← HQ2.out] at HS
    have hR : R = (q1 && q2) := by rw [HR.out, HQ1.out, HQ2.out]; rfl
    subst e1
    subst e2
    subst e3
    subst e4
    generalize (M.vals x).length = n1 at *
    generalize (M.unk x).length = n2 at *
    generalize (M.vals y).length = m1 at *
    generalize (M.unk y).length = m2 at *
    clear hV hU hV2 hU2 ih HQ1 HQ2 HR
    clear x y
    cases q1 with
    | false =>
      have hr : R = false := by rw [hR]; simp
      clear hR
      subst hr
      go_enter Tryz.func28, Tryz.ntmps28
      go_wp2_with fail
      refine (HT.out _ (by (repeat (first | with_reducible exact Below.refl _ _ | with_reducible refine Below.setCell ?_ (by first | omega | (simp; omega) | (simp; done)) _ | with_reducible refine Below.alloc ?_ (by first | omega | (simp; omega) | (simp; done)) _ | with_reducible refine below_drewN ?_ _ | with_reducible refine Below.drew ?_)))).mono ?_
      rintro e w1 ⟨rfl, kw, rfl⟩
      go_wp2_with fail
      go_ret
      exact ⟨rfl, by (repeat (first | with_reducible exact Below.refl _ _ | with_reducible refine Below.setCell ?_ (by first | omega | (simp; omega) | (simp; done)) _ | with_reducible refine Below.alloc ?_ (by first | omega | (simp; omega) | (simp; done)) _ | with_reducible refine below_drewN ?_ _ | with_reducible refine Below.drew ?_))⟩
    | true =>
      have hr : R = q2 := by rw [hR]; simp
      clear hR
      subst hr
      go_enter Tryz.func28, Tryz.ntmps28
      go_wp2_with fail
      refine (HT.out _ (by (repeat (first | with_reducible exact Below.refl _ _ | with_reducible refine Below.setCell ?_ (by first | omega | (simp; omega) | (simp; done)) _ | with_reducible refine Below.alloc ?_ (by first | omega | (simp; omega) | (simp; done)) _ | with_reducible refine below_drewN ?_ _ | with_reducible refine Below.drew ?_)))).mono ?_
      rintro e w1 ⟨rfl, kw, rfl⟩
      go_wp2_with fail
      refine (HS.out _ (by (repeat (first | with_reducible exact Below.refl _ _ | with_reducible refine Below.setCell ?_ (by first | omega | (simp; omega) | (simp; done)) _ | with_reducible refine Below.alloc ?_ (by first | omega | (simp; omega) | (simp; done)) _ | with_reducible refine below_drewN ?_ _ | with_reducible refine Below.drew ?_)))).mono ?_
      rintro e w1 ⟨rfl, hb⟩
      go_wp2_with fail
      go_ret
      exact ⟨rfl, below_step (w1 := _) (by (repeat (first | with_reducible exact Below.refl _ _ | with_reducible refine Below.setCell ?_ (by first | omega | (simp; omega) | (simp; done)) _ | with_reducible refine Below.alloc ?_ (by first | omega | (simp; omega) | (simp; done)) _ | with_reducible refine below_drewN ?_ _ | with_reducible refine Below.drew ?_))) hb (by simp; omega)⟩
end Go.Proofs.YtbhiddafbpingaaGreat
namespace Go.Proofs.YtbhiddafbpingaaGreat
open Go.RowKit
/-- the contract of tree.Depth at messages at most d deep -/
def DepthOk (d : Nat) : Prop := ∀ (w : World) (v : Value) (x : M d), MsgAt d w v x → mwt d x ≤ 1099511627776 →
  Calls Tryz.prog 25 #[v] w fun e w' => e = .returned (.int .i64 (depthM d x)) ∧ Below w.heap.size w w'
set_option maxRecDepth 100000 in
set_option maxHeartbeats 4000000 in
theorem tree_Depth : ∀ (d : Nat), DepthOk d := by
  intro d
  induction d with
  | zero => exact fun _ _ _ h _ => h.elim
  | succ d ih =>
    intro w v x h hw
    obtain ⟨vv, uv, rfl, hS, hT⟩ := h
    obtain ⟨-, ta, tc, rfl, -, -⟩ := hT.open
    obtain ⟨hsl, sa, sc, rfl, -, hsa⟩ := hS.open
    obtain ⟨tn, HTN⟩ : ∃ n, Hid (n = (M.unk x).length) := ⟨_, rfl⟩
    obtain ⟨sn, HSN⟩ : ∃ n, Hid (n = (M.vals x).length) := ⟨_, rfl⟩
    have HV : Hid (1 + twt (M.unk x) + ((M.vals x).map (vwt (mwt d))).sum ≤ 1099511627776) := hw
    rw [← HTN.out]
    rw [← HSN.out] at hsl ⊢
    have HSA := hid hsa
    have HIH := hid ih
    obtain ⟨vs, HVS⟩ : ∃ vs, Hid (vs = M.vals x) := ⟨_, rfl⟩
    show Calls _ _ #[_] _ fun e w' => e = .returned (.int .i64 (((M.vals x).map (depthV (depthM d))).foldl max 0 : Nat)) ∧ _
    rw [← HVS.out] at HSN HV HSA ⊢
    obtain ⟨R, HR⟩ : ∃ R, Hid (R = (vs.map (depthV (depthM d))).foldl max 0) := ⟨_, rfl⟩
    rw [← HR.out]
    have HRL : Hid (∀ i, ((vs.take i).map (depthV (depthM d))).foldl max 0 ≤ R) := fun i => by
      refine foldl_le _ _ (Nat.zero_le _) fun n hn => ?_
      obtain ⟨v, hv, rfl⟩ := List.mem_map.1 hn
      rw [HR.out]
      exact (foldl_max _ 0).2 _ (List.mem_map.2 ⟨v, List.mem_of_mem_take hv, rfl⟩)
    have HRB : R ≤ 1099511627776 := by
      have h1 := depth_le (d + 1) x
      have h2 : depthM (d + 1) x = R := by rw [HR.out, HVS.out]; rfl
      omega
    have HV2 : Hid (((vs.map (vwt (mwt d))).sum) ≤ 1099511627776) := by have := HV.out; show _ ≤ _; omega
    clear hsa ih hT hS hw HVS HTN HV
    clear x
    go_enter Tryz.func25, Tryz.ntmps25
    go_wp2_with fail
    obtain ⟨W0, HW0⟩ : ∃ W0, Hid (W0 = w.alloc (.cells #[.slice sa sn sc, .slice ta tn tc] 58)) := ⟨_, rfl⟩
    rw [← HW0.out]
    have hB0 : Below w.heap.size w W0 := by rw [HW0.out]; exact (Below.refl _ _).alloc (Nat.le_refl _) _
    have hsz0 : w.heap.size < W0.heap.size := by rw [HW0.out]; simp
    have hc3 : W0.cell? ⟨w.heap.size, 0, none⟩ = some (.slice sa sn sc) := by rw [HW0.out]; simp [go_sem]
    have HB0 := hid hB0
    have HC3 := hid hc3
    clear hB0
    go_loopw [3, 11] (fun v3 v11 wq => ∃ (y j : Nat), v3 = .int .i64 y ∧ j ≤ sn ∧ y ≤ 1099511627776 ∧ v11 = .int .i64 j ∧ Hid (y = ((vs.take j).map (depthV (depthM d))).foldl max 0) ∧ Hid (Below W0.heap.size W0 wq)) (fun _ v11 _ => sn - (intOf v11).toNat)
    case atStart => exact ⟨0, 0, rfl, by omega, by omega, rfl, rfl, Below.refl _ _⟩
    case round =>
      obtain ⟨y, j, rfl, hj, hy, rfl, HG, HBQ⟩ := hrel
      obtain ⟨wo, rfl⟩ : ∃ wo, wo = wr := ⟨_, rfl⟩
      by_cases hls : j < sn
      · have hmi : vs[j]? = some (vs[j]'(by rw [← HSN.out]; exact hls)) := List.getElem?_eq_getElem _
        generalize vs[j]'(by rw [← HSN.out]; exact hls) = m at hmi
        have hsa := HSA.out
        obtain ⟨b, o, v1, v2, v3, ha, g0, g1, g2, g3, hM⟩ := hsa j m hmi
        clear hsa
        have hBq : Below w.heap.size w wo := HB0.out.trans (HBQ.out.mono HB0.out.size)
        have hkr := below_keeps hBq
        replace g0 := hkr _ _ g0
        replace g1 := hkr _ _ g1
        replace g2 := hkr _ _ g2
        replace g3 := hkr _ _ g3
        obtain ⟨p1, i1, j1, p2, i2, j2, p3, i3, j3, rfl, rfl, rfl⟩ := formV hM
        have hM' := VMsg.below hM hBq
        obtain ⟨wv, tv, sv, ev, -, -, -, hSu⟩ := hM'
        cases ev
        obtain ⟨hul, ua, uc, e3, -, hua⟩ := hSu.open
        cases e3
        have HGO : Hid (((vs.take (j + 1)).map (depthV (depthM d))).foldl max 0 = max y (depthV (depthM d) m)) := by
          rw [Hid, foldl_take _ _ _ _ _ hmi, ← HG.out]
        have hmw : ∀ z ∈ m.subs, mwt d z ≤ 1099511627776 := fun z hz => by
          have h1 := mem_sum_le (vwt (mwt d)) vs m (List.mem_of_getElem? hmi)
          have h2 := HV2.out
          have h3 := mem_sum_le (mwt d) m.subs z hz
          have h4 : vwt (mwt d) m = 1 + m.words.length + twt m.texts + (m.subs.map (mwt d)).sum := rfl
          omega
        have HMW := hid hmw
        have HUA := hid hua
        have HRM : Hid (max y (depthV (depthM d) m) ≤ R) := by rw [Hid, ← HGO.out]; exact HRL.out _
        obtain ⟨un, HUN⟩ : ∃ n, Hid (n = m.subs.length) := ⟨_, rfl⟩
        rw [← HUN.out] at hul g3
        have hix := index_run Tryz.underlying56 size_val ha j hls (cap := sc)
        have hbl : b < wo.heap.size := World.block_lt_of_cell? wo _ g0
        obtain ⟨us, HUS⟩ : ∃ us, Hid (us = m.subs) := ⟨_, rfl⟩
        have HDV : Hid (depthV (depthM d) m = (us.map fun z => depthM d z + 1).foldl max 0) := by rw [Hid, HUS.out]; rfl
        rw [← HUS.out] at HUN HUA HMW
        obtain ⟨D, HD⟩ : ∃ D, Hid (D = depthV (depthM d) m) := ⟨_, rfl⟩
        rw [← HD.out] at HGO HRM HDV
        clear ha hkr hM hmi hSu hua hmw HUS HD
        generalize m.num = num at *
        clear m
        have HBQ2 := hid hBq
        clear hBq
        go_wp2_with fail
        obtain ⟨W1, HW1⟩ : ∃ W1, Hid (W1 = wo.alloc (.cells #[.int .i64 num, .slice p1 i1 j1, .slice p2 i2 j2, .slice p3 un j3] 109)) := ⟨_, rfl⟩
        rw [← HW1.out]
        have hB1 : Below wo.heap.size wo W1 := by rw [HW1.out]; exact (Below.refl _ _).alloc (Nat.le_refl _) _
        have HB1 := hid hB1
        clear hB1
        go_loopw [3, 18] (fun v3 v18 wz => ∃ (q i : Nat), v3 = .int .i64 q ∧ i ≤ un ∧ q ≤ 1099511627776 ∧ v18 = .int .i64 i ∧ Hid (q = ((us.take i).map fun z => depthM d z + 1).foldl max y) ∧ Hid (Below W1.heap.size W1 wz)) (fun _ v18 _ => un - (intOf v18).toNat)
        case atStart => exact ⟨y, 0, rfl, by omega, by omega, rfl, rfl, Below.refl _ _⟩
        case round =>
          obtain ⟨q, i, rfl, hi, hq, rfl, HQ, HBZ⟩ := hrel
          by_cases hlu : i < un
          · have hzi : us[i]? = some (us[i]'(by rw [← HUN.out]; exact hlu)) := List.getElem?_eq_getElem _
            generalize us[i]'(by rw [← HUN.out]; exact hlu) = z at hzi
            have hua := HUA.out
            obtain ⟨b2, o2, u1, u2, ha2, f0, f1, hZ⟩ := hua i z hzi
            obtain ⟨q1, s1, t1, q2, s2, t2, e3⟩ := formM hZ
            cases e3
            clear hua
            have HBX : Hid (Below wo.heap.size wo wr) := HB1.out.trans (HBZ.out.mono HB1.out.size)
            have hkr := below_keeps HBX.out
            replace f0 := hkr _ _ f0
            replace f1 := hkr _ _ f1
            have HZZ := hid (hZ.below HBX.out)
            have HZW : Hid (mwt d z ≤ 1099511627776) := HMW.out z (List.mem_of_getElem? hzi)
            have HQ2 : Hid (((us.take (i + 1)).map fun z => depthM d z + 1).foldl max y = max q (depthM d z + 1)) := by
              rw [Hid, foldl_take _ _ _ _ _ hzi, ← HQ.out]
            have hdz : max q (depthM d z + 1) ≤ 1099511627776 := by
              have h1 := foldl_from (us.map fun z => depthM d z + 1) y
              have h2 := (foldl_max (us.map fun z => depthM d z + 1) y).2 _ (List.mem_map.2 ⟨z, List.mem_of_getElem? hzi, rfl⟩)
              have h3 := HRM.out
              have h4 := HDV.out
              rw [← h4] at h1
              omega
            have hix2 := index_run Tryz.underlying107 size_msg ha2 i hlu (cap := j3)
            have hbl2 : b2 < wr.heap.size := World.block_lt_of_cell? wr _ f0
            clear ha2 hkr hZ hzi
            go_wp2_with fail
            refine (HIH.out _ _ z (HZZ.out.below (by (repeat (first | with_reducible exact Below.refl _ _ | with_reducible refine Below.setCell ?_ (by first | omega | (simp; omega) | (simp; done)) _ | with_reducible refine Below.alloc ?_ (by first | omega | (simp; omega) | (simp; done)) _ | with_reducible refine below_drewN ?_ _ | with_reducible refine Below.drew ?_)))) HZW.out).mono ?_
            rintro e w3 ⟨rfl, hb3⟩
            generalize depthM d z = s at *
            have HB3 : Hid (Below W1.heap.size W1 w3) := (HBZ.out.trans (Below.mono (B := wr.heap.size) (by (repeat (first | with_reducible exact Below.refl _ _ | with_reducible refine Below.setCell ?_ (by first | omega | (simp; omega) | (simp; done)) _ | with_reducible refine Below.alloc ?_ (by first | omega | (simp; omega) | (simp; done)) _ | with_reducible refine below_drewN ?_ _ | with_reducible refine Below.drew ?_))) HBZ.out.size)).trans (hb3.mono (by simp; have := HBZ.out.size; omega))
            go_wp2_with fail
            go_roundw
            case rel => exact ⟨max q (s + 1), i + 1, by go_num, hlu, hdz, by go_num, HQ2.out.symm, HB3⟩
            case measure => simp [intOf]; omega
          · obtain rfl : i = un := by omega
            go_wp2_with fail
            go_roundw
            case rel =>
              refine ⟨q, j + 1, rfl, hls, hq, by go_num, ?_, ?_⟩
              · have h1 := HQ.out
                rw [HUN.out, List.take_length, foldl_from, ← HDV.out] at h1
                rw [Hid, HGO.out, h1]
              · exact HBQ.out.trans (Below.mono (HB1.out.trans (HBZ.out.mono HB1.out.size)) HBQ.out.size)
            case measure => simp [intOf]; omega
      · obtain rfl : j = sn := by omega
        go_wp2_with fail
        go_ret
        refine ⟨ret1 (int_eq ?_), HB0.out.trans (HBQ.out.mono HB0.out.size)⟩
        have := HG.out
        rw [HSN.out, List.take_length, ← HR.out] at this
        rw [this]
end Go.Proofs.YtbhiddafbpingaaGreat
namespace Go.Proofs.YtbhiddafbpingaaGreat
open Go.RowKit
/-! Literals: a block as a slice. -/
theorem words_blk {w : World} {g : Nat} {l : List Nat} {T : TypeId} (h : Blk w g (l.map wordV) T) (n : Nat) (hl : n = l.length) (hn : n ≤ 140737488355328) (h64 : ∀ x ∈ l, x < 2 ^ 64) : WordsAt w (.slice (some ⟨g, 0, none⟩) n n) l := by
  subst hl
  exact ⟨seg_blk h 1 _ (by simp) hn, h64⟩
theorem strs_nil (w : World) : StrsAt w (.slice none 0 0) [] := ⟨⟨rfl, by simp, _, _, rfl, Nat.le_refl _, by omega, fun _ => rfl, fun j u hu => by simp at hu⟩, by simp⟩
theorem rowsAt_nil {α : Type} (P : World → List Value → α → Prop) (k : Nat) (w : World) : RowsAt P k w (.slice none 0 0) [] := ⟨[], rfl, by simp, ⟨by simp, by simp, _, _, rfl, Nat.le_refl _, by omega, fun _ => rfl, fun j u hu => by simp at hu⟩, by simp⟩
theorem fields_blk {w : World} {g : Nat} {fs : List Fld} {T : TypeId} (h : Blk w g (fs.flatMap Fld.cells) T) (n : Nat) (hl : n = fs.length) (hn : n ≤ 140737488355328) (hok : ∀ f ∈ fs, f.Ok) : FieldsAt w (.slice (some ⟨g, 0, none⟩) n n) fs := by
  subst hl
  refine ⟨seg_blk h 6 _ ?_ hn, hok⟩
  clear h hok hn
  induction fs with
  | nil => rfl
  | cons f r ih => rw [List.flatMap_cons, List.length_append, ih, List.length_cons, Nat.succ_mul]; show 6 + _ = _; omega
theorem schema_one {w : World} {g : Nat} {name : ByteArray} {fs : List Fld} {fv : Value} {T : TypeId} (h : Blk w g [.string name, fv] T) (hn : name.size ≤ 140737488355328) (hf : FieldsAt w fv fs) : SchemaAt w (.slice (some ⟨g, 0, none⟩) 1 1) [⟨name, fs⟩] := by
  refine ⟨[fv], rfl, seg_blk h 2 1 rfl (by omega), by simpa using hn, fun i hi => ?_⟩
  have : i = 0 := by simp at hi; omega
  subst this
  exact hf
theorem vals_one {d : Nat} {w : World} {g : Nat} {wv tv sv : Value} {x : Val (M d)} {T : TypeId} (h : Blk w g [.int .i64 x.num, wv, tv, sv] T) (hv : ValAt (MsgAt d) w (.agg #[.int .i64 x.num, wv, tv, sv]) x) : ValsAt (MsgAt d) w (.slice (some ⟨g, 0, none⟩) 1 1) [x] := by
  refine ⟨[[.int .i64 x.num, wv, tv, sv]], rfl, by simp, by simpa using seg_blk h 4 1 rfl (by omega), fun i r y hr hy => ?_⟩
  match i with
  | 0 =>
    simp at hr hy
    subst hr
    subst hy
    exact hv
  | i + 1 => simp at hr
end Go.Proofs.YtbhiddafbpingaaGreat
namespace Go.Proofs.YtbhiddafbpingaaGreat
open Go.RowKit
def s16 : List Mes := [⟨⟨#[109]⟩, [⟨⟨#[97]⟩, 1, 3, true, false, 0⟩]⟩]
def v16 : Val (M 0) := ⟨1, [1, 300], [], []⟩
def x16 : M 1 := (⟨[v16], []⟩ : Msgd (M 0))
set_option maxRecDepth 100000 in
set_option maxHeartbeats 4000000 in
theorem law16_alive (w : World) : Calls Tryz.prog 19 #[] w fun e w' => e = .returned (.bool true) ∧ Below w.heap.size w w' := by
  have HC : Hid (mayCode s16 0 1 x16 = 0 ∧ encOut s16 0 1 x16 = [10, 3, 1, 172, 2] ∧ mwt 1 x16 ≤ 100) := by
    refine ⟨by decide +kernel, by decide +kernel, by decide +kernel⟩
  have HW : Hid (∀ W, W = ((((w.alloc (.cells #[.string ⟨#[97]⟩, .int .i64 1, .int .i64 3, .bool true, .bool false, .int .i64 0] 74)).alloc (.cells #[.string ⟨#[109]⟩, .slice (some ⟨w.heap.size, 0, none⟩) 1 1] 69)).alloc (.cells #[.int .u64 1, .int .u64 300] 27)).alloc
      (.cells #[.int .i64 1, .slice (some ⟨w.heap.size + 1 + 1, 0, none⟩) 2 2, .slice none 0 0, .slice none 0 0] 109)) →
      SchemaAt W (.slice (some ⟨w.heap.size + 1, 0, none⟩) 1 1) s16 ∧ MsgAt 1 W (.agg #[.slice (some ⟨w.heap.size + 1 + 1 + 1, 0, none⟩) 1 1, .slice none 0 0]) x16 ∧ Below w.heap.size w W) := by
    rintro W rfl
    have b0 := (((Blk.new w [.string ⟨#[97]⟩, .int .i64 1, .int .i64 3, .bool true, .bool false, .int .i64 0] 74).alloc (.cells #[.string ⟨#[109]⟩, .slice (some ⟨w.heap.size, 0, none⟩) 1 1] 69)).alloc (.cells #[.int .u64 1, .int .u64 300] 27)).alloc
      (.cells #[.int .i64 1, .slice (some ⟨w.heap.size + 1 + 1, 0, none⟩) 2 2, .slice none 0 0, .slice none 0 0] 109)
    have b1 := ((Blk.new' (w.alloc (.cells #[.string ⟨#[97]⟩, .int .i64 1, .int .i64 3, .bool true, .bool false, .int .i64 0] 74)) [.string ⟨#[109]⟩, .slice (some ⟨w.heap.size, 0, none⟩) 1 1] 69 (w.heap.size + 1) (by simp)).alloc (.cells #[.int .u64 1, .int .u64 300] 27)).alloc
      (.cells #[.int .i64 1, .slice (some ⟨w.heap.size + 1 + 1, 0, none⟩) 2 2, .slice none 0 0, .slice none 0 0] 109)
    have b2 := (Blk.new' ((w.alloc (.cells #[.string ⟨#[97]⟩, .int .i64 1, .int .i64 3, .bool true, .bool false, .int .i64 0] 74)).alloc (.cells #[.string ⟨#[109]⟩, .slice (some ⟨w.heap.size, 0, none⟩) 1 1] 69)) [.int .u64 1, .int .u64 300] 27 (w.heap.size + 1 + 1) (by simp)).alloc
      (.cells #[.int .i64 1, .slice (some ⟨w.heap.size + 1 + 1, 0, none⟩) 2 2, .slice none 0 0, .slice none 0 0] 109)
    have b3 := Blk.new' (((w.alloc (.cells #[.string ⟨#[97]⟩, .int .i64 1, .int .i64 3, .bool true, .bool false, .int .i64 0] 74)).alloc (.cells #[.string ⟨#[109]⟩, .slice (some ⟨w.heap.size, 0, none⟩) 1 1] 69)).alloc (.cells #[.int .u64 1, .int .u64 300] 27))
      [.int .i64 1, .slice (some ⟨w.heap.size + 1 + 1, 0, none⟩) 2 2, .slice none 0 0, .slice none 0 0] 109 (w.heap.size + 1 + 1 + 1) (by simp)
    refine ⟨?_, ?_, (((((Below.refl w.heap.size w).alloc (Nat.le_refl _) _).alloc (by simp) _).alloc (by simp; omega) _).alloc (by simp; omega) _)⟩
    · exact schema_one b1 (by decide) (fields_blk (fs := [⟨⟨#[97]⟩, 1, 3, true, false, 0⟩]) b0 1 rfl (by omega) (by simp; exact ⟨by decide, by decide, by decide, by decide⟩))
    · exact ⟨_, _, rfl, vals_one (d := 0) (x := v16) b3 ⟨_, _, _, rfl, by decide, words_blk (l := [1, 300]) b2 2 rfl (by omega) (by simp), strs_nil _, rowsAt_nil _ _ _⟩, strs_nil _⟩
  go_enter Tryz.func19, Tryz.ntmps19
  go_wp2_with fail
  obtain ⟨hS, hM, hb⟩ := HW.out _ rfl
  obtain ⟨W, HWW⟩ : ∃ W, Hid (W = ((((w.alloc (.cells #[.string ⟨#[97]⟩, .int .i64 1, .int .i64 3, .bool true, .bool false, .int .i64 0] 74)).alloc (.cells #[.string ⟨#[109]⟩, .slice (some ⟨w.heap.size, 0, none⟩) 1 1] 69)).alloc (.cells #[.int .u64 1, .int .u64 300] 27)).alloc
      (.cells #[.int .i64 1, .slice (some ⟨w.heap.size + 1 + 1, 0, none⟩) 2 2, .slice none 0 0, .slice none 0 0] 109))) := ⟨_, rfl⟩
  rw [← HWW.out] at hS hM hb ⊢
  have HCE := hid (canon_Encode hS 0 hM (by have := HC.out.2.2; omega))
  rw [HC.out.1, HC.out.2.1] at HCE
  have HB := hid hb
  clear hS hM hb HW HWW HC
  refine HCE.out.mono ?_
  rintro e w1 ⟨v1, rfl, hO, hb1⟩
  obtain ⟨a, q, e1⟩ := hO.form
  simp only [List.length_cons, List.length_nil, Nat.zero_add] at e1
  subst e1
  have HB1 := hid (HB.out.trans (hb1.mono HB.out.size))
  have HBY := hid (hO.bytes (by simp))
  clear hO hb1
  go_wp2_with fail
  have hb5 := (Below.refl w1.heap.size w1).alloc (Nat.le_refl _) (.cells #[.int .u8 10, .int .u8 3, .int .u8 1, .int .u8 172, .int .u8 2] 5)
  have HSM := hid (ref01_Same (HBY.out.below hb5) (bytes_new w1 5 #[.int .u8 10, .int .u8 3, .int .u8 1, .int .u8 172, .int .u8 2] [10, 3, 1, 172, 2] rfl (by simp)))
  have HB5 := hid (HB1.out.trans (hb5.mono HB1.out.size))
  clear hb5
  refine HSM.out.mono ?_
  rintro e w2 ⟨rfl, rfl⟩
  go_wp2_with fail
  go_ret
  exact ⟨by simp, HB5.out⟩
theorem may_cases (s : List Mes) (root : Int) (d : Nat) (x : M d) : mayCode s root d x = 0 ∧ sright s = true ∧ rightB s d root x = true ∨ mayCode s root d x = 9 ∨ mayCode s root d x = 2 ∨ mayCode s root d x = 12 := by
  unfold mayCode
  by_cases h1 : sright s = false
  · rw [if_pos h1]; omega
  · rw [if_neg h1]
    by_cases h2 : root < 0 ∨ (s.length : Int) ≤ root
    · rw [if_pos h2]; omega
    · rw [if_neg h2]
      by_cases h3 : rightB s d root x = false
      · rw [if_pos h3]; omega
      · rw [if_neg h3]; exact .inl ⟨rfl, by simpa using h1, by simpa using h3⟩
end Go.Proofs.YtbhiddafbpingaaGreat
