/- What darninglaw14.Size and SizeValue return of any meaning whose weight is at most 2^40: szM, szV; where these are small they are the weight. A slice of the call's own whose elements are several cells each, built by appending one element after the other. The iterator of run.values: for every caller that keeps its word between two rounds: the values come one by one, up to the first that is not there. What run.Count returns: runCount's. Range over a function, by hand over the laws (L1), (L2). No condition.. What the functions of package utf return on any bytes: uhead, unext, ufirst. No condition beyond that the argument reads as bytes. -/
import Derived.Test.YtaefpjecalnbcaaGreatZ01
import Derived.Test.YtaefpjecalnbcaaGreatZ07
import Derived.Test.YtaefpjecalnbcaaGreatZ08
import Derived.Test.YtaefpjecalnbcaaGreatZ09
import Derived.RangeFuncFrom
import Derived.WalkKit
import Derived.OwnWalkIn
import Derived.TacticsInMore
import Derived.RegionIn
import Derived.LoopNIn
import Derived.LoopIn
import Derived.Shelf.Abstract
namespace Go.Proofs.YtaefpjecalnbcaaGreat
open Go.RowKit
def szGo {α : Type} (f : α → Nat) : List α → Nat → Nat
  | [], n => n
  | x :: t, n => if 5000 ≤ n + f x then 5000 else szGo f t (n + f x)
def szV {α : Type} (f : α → Nat) (v : Val α) : Nat := szGo f v.subs (1 + v.words.length + twt v.texts)
def szM : (k d : Nat) → M d → Nat
  | 0, _, _ => 5000
  | _ + 1, 0, _ => 0
  | k + 1, d + 1, x => szGo (szV (szM k d)) (M.vals x) (1 + twt (M.unk x))
theorem szGo_lt {α : Type} (f : α → Nat) : ∀ (l : List α) (n : Nat), n < 5000 → szGo f l n ≤ 5000
  | [], n, h => by simp only [szGo]; omega
  | x :: t, n, h => by
    unfold szGo
    split
    · omega
    · exact szGo_lt f t (n + f x) (by omega)
theorem szGo_le {α : Type} (f : α → Nat) : ∀ (l : List α) (n : Nat), szGo f l n ≤ 5000 + n
  | [], n => by simp [szGo]
  | x :: t, n => by
    unfold szGo
    split
    · omega
    · have := szGo_lt f t (n + f x) (by omega)
      omega
theorem szGo_exact {α : Type} (f : α → Nat) : ∀ (l : List α) (n : Nat), szGo f l n < 5000 → szGo f l n = n + (l.map f).sum ∧ ∀ x ∈ l, f x < 5000
  | [], n, _ => by simp [szGo]
  | x :: t, n, h => by
    unfold szGo at h ⊢
    split at h
    · omega
    · rename_i hx
      rw [if_neg hx]
      obtain ⟨h1, h2⟩ := szGo_exact f t (n + f x) h
      refine ⟨by rw [h1, List.map_cons, List.sum_cons]; omega, fun y hy => ?_⟩
      rcases List.mem_cons.1 hy with rfl | hy
      · omega
      · exact h2 y hy
theorem sum_congr {α : Type} {f g : α → Nat} : ∀ {l : List α}, (∀ x ∈ l, f x = g x) → (l.map f).sum = (l.map g).sum
  | [], _ => rfl
  | x :: t, h => by rw [List.map_cons, List.map_cons, List.sum_cons, List.sum_cons, h x (by simp), sum_congr fun y hy => h y (by simp [hy])]
theorem szV_exact {α : Type} {f g : α → Nat} {v : Val α} (hfg : ∀ x ∈ v.subs, f x < 5000 → f x = g x) (h : szV f v < 5000) : szV f v = vwt g v := by
  obtain ⟨h1, h2⟩ := szGo_exact f v.subs _ h
  have h3 : szV f v = 1 + v.words.length + twt v.texts + (v.subs.map f).sum := h1
  rw [h3, vwt, sum_congr fun x hx => hfg x hx (h2 x hx)]
theorem szM_exact : ∀ (k d : Nat) (x : M d), szM k d x < 5000 → szM k d x = mwt d x
  | 0, _, _, h => by simp [szM] at h
  | _ + 1, 0, _, _ => rfl
  | k + 1, d + 1, x, h => by
    have hs : szM (k + 1) (d + 1) x = szGo (szV (szM k d)) (M.vals x) (1 + twt (M.unk x)) := rfl
    rw [hs] at h
    obtain ⟨h1, h2⟩ := szGo_exact _ _ _ h
    rw [hs, h1]
    show _ = 1 + twt (M.unk x) + ((M.vals x).map (vwt (mwt d))).sum
    rw [sum_congr fun y hy => szV_exact (g := mwt d) (fun z _ hz => szM_exact k d z hz) (h2 y hy)]
theorem szM_le : ∀ (k d : Nat) (x : M d), szM k d x ≤ 5000 + mwt d x
  | 0, _, _ => by simp [szM]
  | _ + 1, 0, _ => by simp [szM]
  | k + 1, d + 1, x => by
    have h := szGo_le (szV (szM k d)) (M.vals x) (1 + twt (M.unk x))
    have e : mwt (d + 1) x = 1 + twt (M.unk x) + ((M.vals x).map (vwt (mwt d))).sum := rfl
    show szGo _ _ _ ≤ _
    omega
theorem szV_le {α : Type} (f : α → Nat) (g : α → Nat) (v : Val α) : szV f v ≤ 5000 + vwt g v := by
  have h := szGo_le f v.subs (1 + v.words.length + twt v.texts)
  unfold szV vwt
  omega
theorem szGo_at {α : Type} (f : α → Nat) (l : List α) (j y : Nat) (m : α) (h : l[j]? = some m) : szGo f (l.drop j) y = if 5000 ≤ y + f m then 5000 else szGo f (l.drop (j + 1)) (y + f m) := by
  obtain ⟨hj, rfl⟩ := List.getElem?_eq_some_iff.1 h
  rw [List.drop_eq_getElem_cons hj]
  rfl
theorem size_val (w : World) : (sizeOf 67).run Tryz.prog w = .ok 4 w := by kernel_rfl
theorem size_msg (w : World) : (sizeOf 27).run Tryz.prog w = .ok 2 w := by kernel_rfl
theorem size_str (w : World) : (sizeOf 9).run Tryz.prog w = .ok 1 w := by kernel_rfl
theorem size_u64 (w : World) : (sizeOf 63).run Tryz.prog w = .ok 1 w := by kernel_rfl
/-- the contract of Size at messages at most d deep -/
def SizeOk (k d : Nat) : Prop := ∀ (w : World) (v : Value) (x : M d), MsgAt d w v x → mwt d x ≤ 1099511627776 →
  Calls Tryz.prog 25 #[v, .int .i64 ((k : Int) - 1)] w fun e w' => e = .returned (.int .i64 (szM k d x)) ∧ Below w.heap.size w w'
theorem twt_take (l : List (List UInt8)) (k : Nat) (t : List UInt8) (h : l[k]? = some t) : twt (l.take (k + 1)) = twt (l.take k) + (1 + t.length) := sum_take _ l k t h
theorem twt_take_le (l : List (List UInt8)) (k : Nat) : twt (l.take k) ≤ twt l := sum_take_le _ l k
set_option maxRecDepth 100000 in
set_option maxHeartbeats 4000000 in
theorem law14_SizeValue_of {d k : Nat} (ih : SizeOk k d) (hk : k ≤ 1000) {w : World} {v : Value} {x : Val (M d)} (h : ValAt (MsgAt d) w v x) (hw : vwt (mwt d) x ≤ 1099511627776) :
    Calls Tryz.prog 52 #[v, .int .i64 k] w fun e w' => e = .returned (.int .i64 (szV (szM k d) x)) ∧ Below w.heap.size w w' := by
  obtain ⟨wv, tv, sv, rfl, hnum, hW, hT, hS⟩ := h
  obtain ⟨hwl, wa, wc, rfl, -, -⟩ := hW.open
  obtain ⟨htl, ta, tc, rfl, -, hta⟩ := hT.open
  obtain ⟨hsl, sa, sc, rfl, -, hsa⟩ := hS.open
  obtain ⟨wn, HWN⟩ : ∃ n, Hid (n = x.words.length) := ⟨_, rfl⟩
  obtain ⟨tn, HTN⟩ : ∃ n, Hid (n = x.texts.length) := ⟨_, rfl⟩
  obtain ⟨sn, HSN⟩ : ∃ n, Hid (n = x.subs.length) := ⟨_, rfl⟩
  have HV : Hid (1 + wn + twt x.texts + (x.subs.map (mwt d)).sum ≤ 1099511627776) := by rw [Hid, HWN.out]; exact hw
  rw [← HWN.out] at hwl ⊢
  rw [← HTN.out] at htl ⊢
  rw [← HSN.out] at hsl ⊢
  have HTA := hid hta
  have HSA := hid hsa
  have HIH := hid ih
  generalize x.num = num at *
  clear hta hsa ih hW hT hS hw
  go_enter Tryz.func52, Tryz.ntmps52
  go_wp2_with fail
  obtain ⟨W0, HW0⟩ : ∃ W0, Hid (W0 = w.alloc (.cells #[.int .i64 num, .slice wa wn wc, .slice ta tn tc, .slice sa sn sc] 67)) := ⟨_, rfl⟩
  rw [← HW0.out]
  have hB0 : Below w.heap.size w W0 := by rw [HW0.out]; exact (Below.refl _ _).alloc (Nat.le_refl _) _
  have hsz0 : w.heap.size < W0.heap.size := by rw [HW0.out]; simp
  have hc2 : W0.cell? ⟨w.heap.size, 2, none⟩ = some (.slice ta tn tc) := by rw [HW0.out]; simp [go_sem]
  have hc3 : W0.cell? ⟨w.heap.size, 3, none⟩ = some (.slice sa sn sc) := by rw [HW0.out]; simp [go_sem]
  have HB0 := hid hB0
  have HC3 := hid hc3
  clear hB0 hc3
  go_loopw [5, 6] (fun v5 v6 wr => ∃ (z i : Nat), v5 = .int .i64 z ∧ i ≤ tn ∧ z ≤ 1099511627776 ∧ v6 = .int .i64 i ∧ Hid (z = 1 + wn + twt (x.texts.take i)) ∧ wr = W0) (fun _ v6 _ => tn - (intOf v6).toNat)
  case atStart =>
    have h1 := HV.out
    refine ⟨1 + wn, 0, ?_, by omega, by omega, rfl, by simp [Hid, twt], rfl⟩
    go_num
  case round =>
    obtain ⟨z, i, rfl, hi, hz, rfl, HZ, hwr⟩ := hrel
    have hwr' := hwr.symm
    subst hwr'
    by_cases hlt : i < tn
    · have hti : x.texts[i]? = some (x.texts[i]'(by rw [← HTN.out]; exact hlt)) := List.getElem?_eq_getElem _
      generalize x.texts[i]'(by rw [← HTN.out]; exact hlt) = t at hti
      have hta := HTA.out
      obtain ⟨ht1, b, o, ha, g0⟩ := hta i t hti
      clear hta
      have HST : Hid (z + 1 + t.length = 1 + wn + twt (x.texts.take (i + 1)) ∧ z + 1 + t.length ≤ 1099511627776) := by
        have h1 := twt_take _ _ _ hti
        have h2 := twt_take_le x.texts (i + 1)
        have h3 := HV.out
        have h4 := HZ.out
        refine ⟨by omega, by omega⟩
      have hsb : (⟨t.toArray⟩ : ByteArray).size = t.length := by simp [ByteArray.size]
      unfold strV at g0
      generalize (⟨t.toArray⟩ : ByteArray) = bt at *
      generalize t.length = tl at *
      have hix := index_run1 Tryz.underlying25 size_str ha i hlt (cap := tc)
      replace g0 := below_keeps HB0.out _ _ g0
      clear ha hti
      go_wp2_with fail
      go_roundw
      case rel => exact ⟨z + 1 + tl, i + 1, by first | go_num | (rw [hsb]; go_num), hlt, HST.out.2, by go_num, HST.out.1, by first | trivial | rfl⟩
      case measure => simp [intOf]; omega
    · obtain rfl : i = tn := by omega
      have HZ2 : Hid (z = 1 + wn + twt x.texts) := by
        have := HZ.out
        rwa [HTN.out, List.take_length] at this
      go_wp2_with fail
      clear hc2
      go_loopw [5, 7] (fun v5 v7 wq => ∃ (y j : Nat), v5 = .int .i64 y ∧ j ≤ sn ∧ y ≤ 1099511627776 ∧ v7 = .int .i64 j ∧ Hid (szGo (szM k d) (x.subs.drop j) y = szV (szM k d) x) ∧ Hid (Below W0.heap.size W0 wq)) (fun _ v7 _ => sn - (intOf v7).toNat)
      case atStart =>
        refine ⟨z, 0, rfl, by omega, hz, rfl, ?_, Below.refl _ _⟩
        show szGo _ (x.subs.drop 0) z = _
        rw [List.drop_zero, HZ2.out, HWN.out]; rfl
      case round =>
        obtain ⟨y, j, rfl, hj, hy, rfl, HG, HBQ⟩ := hrel
        have c3 := below_keeps HBQ.out _ _ HC3.out
        have hbl3 : w.heap.size < wr.heap.size := World.block_lt_of_cell? wr _ c3
        by_cases hls : j < sn
        · have hmi : x.subs[j]? = some (x.subs[j]'(by rw [← HSN.out]; exact hls)) := List.getElem?_eq_getElem _
          generalize x.subs[j]'(by rw [← HSN.out]; exact hls) = m at hmi
          have hsa := HSA.out
          obtain ⟨b, o, v1, v2, ha, g0, g1, hM⟩ := hsa j m hmi
          clear hsa
          have hBq : Below w.heap.size w wr := HB0.out.trans (HBQ.out.mono HB0.out.size)
          have hkr := below_keeps hBq
          replace g0 := hkr _ _ g0
          replace g1 := hkr _ _ g1
          have HMM := hid (hM.below hBq)
          have HMB : Hid (mwt d m ≤ 1099511627776) := by
            have h1 := mem_sum_le (mwt d) x.subs m (List.mem_of_getElem? hmi)
            have h2 := HV.out
            show _ ≤ _; omega
          have HGO : Hid (szV (szM k d) x = if 5000 ≤ y + szM k d m then 5000 else szGo (szM k d) (x.subs.drop (j + 1)) (y + szM k d m)) := by
            rw [Hid, ← HG.out, szGo_at _ _ _ _ _ hmi]
          have hs : szM k d m ≤ 5000 + 1099511627776 := Nat.le_trans (szM_le k d m) (by have := HMB.out; omega)
          have HBQ2 := hid hBq
          have hix := index_run Tryz.underlying65 size_msg ha j hls (cap := sc)
          have hbl : b < wr.heap.size := World.block_lt_of_cell? wr _ g0
          clear ha hkr hM hBq hmi HG
          go_wp2_with fail
          refine (HIH.out wr _ m HMM.out HMB.out).mono ?_
          rintro e w3 ⟨rfl, hb3⟩
          generalize szM k d m = s at *
          have HB3 : Hid (Below W0.heap.size W0 w3) := HBQ.out.trans (hb3.mono HBQ.out.size)
          by_cases h5 : 5000 ≤ y + s
          · go_wp2_with fail
            go_ret
            refine ⟨ret1 (int_eq ?_), HB0.out.trans (HB3.out.mono HB0.out.size)⟩
            rw [HGO.out, if_pos h5]
            rfl
          · go_wp2_with fail
            go_roundw
            case rel =>
              refine ⟨y + s, j + 1, by go_num, hls, by omega, by go_num, ?_, HB3⟩
              rw [Hid, HGO.out, if_neg h5]
            case measure => simp [intOf]; omega
        · obtain rfl : j = sn := by omega
          go_wp2_with fail
          go_ret
          refine ⟨ret1 (int_eq ?_), HB0.out.trans (HBQ.out.mono HB0.out.size)⟩
          have := HG.out
          rw [HSN.out, List.drop_length] at this
          rw [← this]; rfl
set_option maxRecDepth 100000 in
set_option maxHeartbeats 4000000 in
theorem law14_Size_zero {w : World} {va ua : Option Addr} {n1 vc n2 uc : Nat} :
    Calls Tryz.prog 25 #[.agg #[.slice va n1 vc, .slice ua n2 uc], .int .i64 (-1)] w fun e w' => e = .returned (.int .i64 5000) ∧ Below w.heap.size w w' := by
  go_enter Tryz.func25, Tryz.ntmps25
  go_wp2_with fail
  go_ret
  exact ⟨rfl, (Below.refl _ _).alloc (Nat.le_refl _) _⟩
set_option maxRecDepth 100000 in
set_option maxHeartbeats 4000000 in
theorem law14_Size : ∀ (k d : Nat), k ≤ 1000 → SizeOk k d := by
  intro k
  induction k with
  | zero =>
    intro d _ w v x h _
    cases d with
    | zero => exact h.elim
    | succ d =>
      obtain ⟨vv, uv, rfl, hV, hU⟩ := h
      obtain ⟨-, va, vc, rfl, -, -⟩ := hV.open
      obtain ⟨-, ua, uc, rfl, -, -⟩ := hU.open
      exact law14_Size_zero.mono fun e w' h => h
  | succ k ihk =>
    intro d hk w v x h hw
    cases d with
    | zero => exact h.elim
    | succ d =>
    have ih : ∀ (w : World) (v : Value) (x : Val (M d)), ValAt (MsgAt d) w v x → vwt (mwt d) x ≤ 1099511627776 →
        Calls Tryz.prog 52 #[v, .int .i64 k] w fun e w' => e = .returned (.int .i64 (szV (szM k d) x)) ∧ Below w.heap.size w w' := fun _ _ _ h => law14_SizeValue_of (ihk d (by omega)) (by omega) h
    obtain ⟨vv, uv, rfl, hS, hT⟩ := h
    obtain ⟨htl, ta, tc, rfl, -, hta⟩ := hT.open
    obtain ⟨hsl, sa, sc, rfl, -, hsa⟩ := hS.open
    obtain ⟨tn, HTN⟩ : ∃ n, Hid (n = (M.unk x).length) := ⟨_, rfl⟩
    obtain ⟨sn, HSN⟩ : ∃ n, Hid (n = (M.vals x).length) := ⟨_, rfl⟩
    have HV : Hid (1 + twt (M.unk x) + ((M.vals x).map (vwt (mwt d))).sum ≤ 1099511627776) := hw
    rw [← HTN.out] at htl ⊢
    rw [← HSN.out] at hsl ⊢
    have HTA := hid hta
    have HSA := hid hsa
    have HIH := hid ih
    clear hta hsa ih hT hS hw ihk
    show Calls _ _ #[_, .int .i64 (((k + 1 : Nat) : Int) - 1)] _ fun e w' => e = .returned (.int .i64 (szGo (szV (szM k d)) (M.vals x) (1 + twt (M.unk x)) : Nat)) ∧ _
    rw [show ((k + 1 : Nat) : Int) - 1 = (k : Int) by omega]
    obtain ⟨us, HUS⟩ : ∃ us, Hid (us = M.unk x) := ⟨_, rfl⟩
    obtain ⟨vs, HVS⟩ : ∃ vs, Hid (vs = M.vals x) := ⟨_, rfl⟩
    rw [← HUS.out] at HTN HV HTA ⊢
    rw [← HVS.out] at HSN HV HSA ⊢
    clear HUS HVS
    clear x
    go_enter Tryz.func25, Tryz.ntmps25
    go_wp2_with fail
    obtain ⟨W0, HW0⟩ : ∃ W0, Hid (W0 = w.alloc (.cells #[.slice sa sn sc, .slice ta tn tc] 27)) := ⟨_, rfl⟩
    rw [← HW0.out]
    have hB0 : Below w.heap.size w W0 := by rw [HW0.out]; exact (Below.refl _ _).alloc (Nat.le_refl _) _
    have hsz0 : w.heap.size < W0.heap.size := by rw [HW0.out]; simp
    have hc2 : W0.cell? ⟨w.heap.size, 1, none⟩ = some (.slice ta tn tc) := by rw [HW0.out]; simp [go_sem]
    have hc3 : W0.cell? ⟨w.heap.size, 0, none⟩ = some (.slice sa sn sc) := by rw [HW0.out]; simp [go_sem]
    have HB0 := hid hB0
    have HC3 := hid hc3
    clear hB0 hc3
    go_loopw [5, 6] (fun v5 v6 wr => ∃ (z i : Nat), v5 = .int .i64 z ∧ i ≤ tn ∧ z ≤ 1099511627776 ∧ v6 = .int .i64 i ∧ Hid (z = 1 + twt (us.take i)) ∧ wr = W0) (fun _ v6 _ => tn - (intOf v6).toNat)
    case atStart => exact ⟨1, 0, rfl, by omega, by omega, rfl, by simp [Hid, twt], rfl⟩
    case round =>
      obtain ⟨z, i, rfl, hi, hz, rfl, HZ, hwr⟩ := hrel
      have hwr' := hwr.symm
      subst hwr'
      by_cases hlt : i < tn
      · have hti : us[i]? = some (us[i]'(by rw [← HTN.out]; exact hlt)) := List.getElem?_eq_getElem _
        generalize us[i]'(by rw [← HTN.out]; exact hlt) = t at hti
        have hta := HTA.out
        obtain ⟨ht1, b, o, ha, g0⟩ := hta i t hti
        clear hta
        have HST : Hid (z + 1 + t.length = 1 + twt (us.take (i + 1)) ∧ z + 1 + t.length ≤ 1099511627776) := by
          have h1 := twt_take _ _ _ hti
          have h2 := twt_take_le us (i + 1)
          have h3 := HV.out
          have h4 := HZ.out
          refine ⟨by omega, by omega⟩
        have hsb : (⟨t.toArray⟩ : ByteArray).size = t.length := by simp [ByteArray.size]
        unfold strV at g0
        generalize (⟨t.toArray⟩ : ByteArray) = bt at *
        generalize t.length = tl at *
        have hix := index_run1 Tryz.underlying25 size_str ha i hlt (cap := tc)
        replace g0 := below_keeps HB0.out _ _ g0
        clear ha hti
        go_wp2_with fail
        go_roundw
        case rel => exact ⟨z + 1 + tl, i + 1, by first | go_num | (rw [hsb]; go_num), hlt, HST.out.2, by go_num, HST.out.1, by first | trivial | rfl⟩
        case measure => simp [intOf]; omega
      · obtain rfl : i = tn := by omega
        have HZ2 : Hid (z = 1 + twt us) := by
          have := HZ.out
          rwa [HTN.out, List.take_length] at this
        go_wp2_with fail
        clear hc2
        go_loopw [5, 7] (fun v5 v7 wq => ∃ (y j : Nat), v5 = .int .i64 y ∧ j ≤ sn ∧ y ≤ 1099511627776 ∧ v7 = .int .i64 j ∧ Hid (szGo (szV (szM k d)) (vs.drop j) y = szGo (szV (szM k d)) vs (1 + twt us)) ∧ Hid (Below W0.heap.size W0 wq)) (fun _ v7 _ => sn - (intOf v7).toNat)
        case atStart =>
          refine ⟨z, 0, rfl, by omega, hz, rfl, ?_, Below.refl _ _⟩
          rw [Hid, List.drop_zero, HZ2.out]
        case round =>
          obtain ⟨y, j, rfl, hj, hy, rfl, HG, HBQ⟩ := hrel
          have c3 := below_keeps HBQ.out _ _ HC3.out
          have hbl3 : w.heap.size < wr.heap.size := World.block_lt_of_cell? wr _ c3
          by_cases hls : j < sn
          · have hmi : vs[j]? = some (vs[j]'(by rw [← HSN.out]; exact hls)) := List.getElem?_eq_getElem _
            generalize vs[j]'(by rw [← HSN.out]; exact hls) = m at hmi
            have hsa := HSA.out
            obtain ⟨b, o, v1, v2, v3, ha, g0, g1, g2, g3, hM⟩ := hsa j m hmi
            clear hsa
            have hBq : Below w.heap.size w wr := HB0.out.trans (HBQ.out.mono HB0.out.size)
            have hkr := below_keeps hBq
            replace g0 := hkr _ _ g0
            replace g1 := hkr _ _ g1
            replace g2 := hkr _ _ g2
            replace g3 := hkr _ _ g3
            have HMM := hid (VMsg.below hM hBq)
            have HMB : Hid (vwt (mwt d) m ≤ 1099511627776) := by
              have h1 := mem_sum_le (vwt (mwt d)) vs m (List.mem_of_getElem? hmi)
              have h2 := HV.out
              show _ ≤ _; omega
            have HGO : Hid (szGo (szV (szM k d)) vs (1 + twt us) = if 5000 ≤ y + szV (szM k d) m then 5000 else szGo (szV (szM k d)) (vs.drop (j + 1)) (y + szV (szM k d) m)) := by
              rw [Hid, ← HG.out, szGo_at _ _ _ _ _ hmi]
            have hs : szV (szM k d) m ≤ 5000 + 1099511627776 := Nat.le_trans (szV_le (szM k d) (mwt d) m) (by have := HMB.out; omega)
            have hix := index_run Tryz.underlying24 size_val ha j hls (cap := sc)
            have hbl : b < wr.heap.size := World.block_lt_of_cell? wr _ g0
            clear ha hkr hM hBq hmi HG
            generalize m.num = num at *
            go_wp2_with fail
            refine (HIH.out _ _ _ HMM.out HMB.out).mono ?_
            rintro e w3 ⟨rfl, hb3⟩
            generalize szV (szM k d) m = s at *
            have HB3 : Hid (Below W0.heap.size W0 w3) := HBQ.out.trans (hb3.mono HBQ.out.size)
            by_cases h5 : 5000 ≤ y + s
            · go_wp2_with fail
              go_ret
              refine ⟨ret1 (int_eq ?_), HB0.out.trans (HB3.out.mono HB0.out.size)⟩
              rw [HGO.out, if_pos h5]
              rfl
            · go_wp2_with fail
              go_roundw
              case rel =>
                refine ⟨y + s, j + 1, by go_num, hls, by omega, by go_num, ?_, HB3⟩
                rw [Hid, HGO.out, if_neg h5]
              case measure => simp [intOf]; omega
          · obtain rfl : j = sn := by omega
            go_wp2_with fail
            go_ret
            refine ⟨ret1 (int_eq ?_), HB0.out.trans (HBQ.out.mono HB0.out.size)⟩
            have := HG.out
            rw [HSN.out, List.drop_length] at this
            rw [← this]; rfl
end Go.Proofs.YtaefpjecalnbcaaGreat
namespace Go.Proofs.YtaefpjecalnbcaaGreat
open Go.RowKit
/-- P holds in each world that agrees with w on the blocks below n0 and on those from base on. -/
def Apart (n0 base : Nat) (w : World) (P : World → Prop) : Prop := ∀ w', (∀ b, b < w.heap.size → (b < n0 ∨ base ≤ b) → w'.heap[b]? = w.heap[b]?) → P w'
theorem Apart.here {n0 base : Nat} {w : World} {P : World → Prop} (h : Apart n0 base w P) : P w := h w fun _ _ _ => rfl
theorem Apart.later {n0 base : Nat} {w w2 : World} {P : World → Prop} (h : Apart n0 base w P) (hb : Below w.heap.size w w2) : Apart n0 base w2 P := fun w' hw' => h w' fun b hlt hc => (hw' b (Nat.lt_of_lt_of_le hlt hb.size) hc).trans (hb.block b hlt)
theorem Apart.mono {n0 base base' : Nat} {w : World} {P : World → Prop} (h : Apart n0 base w P) (hb : base' ≤ base) : Apart n0 base' w P := fun w' hw' => h w' fun b hlt hc => hw' b hlt (hc.imp id fun h => Nat.le_trans hb h)
def RowsOwn {α : Type} (P : World → List Value → α → Prop) (T : TypeId) (k n0 base : Nat) (w : World) (v : Value) (l : List α) : Prop :=
  ∃ rows : List (List Value), rows.length = l.length ∧ (∀ r ∈ rows, r.length = k) ∧ w.ownsRow base T k v l.length rows.flatten ∧
    ∀ w', (∀ b, b < w.heap.size → v.ownBlock ≠ some b → (b < n0 ∨ base ≤ b) → w'.heap[b]? = w.heap[b]?) → ∀ (i : Nat) (r : List Value) (x : α), rows[i]? = some r → l[i]? = some x → P w' r x
theorem RowsOwn.nil {α : Type} (P : World → List Value → α → Prop) (T : TypeId) (k n0 base : Nat) (w : World) : RowsOwn P T k n0 base w (.slice none 0 0) [] :=
  ⟨[], rfl, by simp, World.ownsRow_nil _ _ _ _, fun _ _ i r x h => by simp at h⟩
theorem RowsOwn.later {α : Type} {P : World → List Value → α → Prop} {T : TypeId} {k n0 base : Nat} {w w2 : World} {v : Value} {l : List α} (h : RowsOwn P T k n0 base w v l)
    (hw : ∀ b, b < w.heap.size → (b < n0 ∨ base ≤ b) → w2.heap[b]? = w.heap[b]?) (hs : w.heap.size ≤ w2.heap.size) : RowsOwn P T k n0 base w2 v l := by
  obtain ⟨rows, h1, h2, h3, h4⟩ := h
  refine ⟨rows, h1, h2, row_keep h3 fun b cur hb he => hw b (Array.getElem?_eq_some_iff.1 he).1 (.inr hb), fun w' hw' => h4 w' fun b hlt hne hc => (hw' b (by omega) hne hc).trans (hw b hlt hc)⟩
theorem RowsOwn.below {α : Type} {P : World → List Value → α → Prop} {T : TypeId} {k n0 base : Nat} {w w2 : World} {v : Value} {l : List α} (h : RowsOwn P T k n0 base w v l) (hb : Below w.heap.size w w2) : RowsOwn P T k n0 base w2 v l :=
  h.later (fun b hlt _ => hb.block b hlt) hb.size
theorem RowsOwn.form {α : Type} {P : World → List Value → α → Prop} {T : TypeId} {k n0 base : Nat} {w : World} {v : Value} {l : List α} (h : RowsOwn P T k n0 base w v l) : ∃ a c, v = .slice a l.length c := by
  obtain ⟨rows, -, -, h3, -⟩ := h
  rcases h3.2 with ⟨rfl, h0⟩ | ⟨g, cap, cur, rfl, _⟩
  · exact ⟨none, 0, by rw [h0]⟩
  · exact ⟨_, _, rfl⟩
theorem RowsOwn.at {α : Type} {P : World → List Value → α → Prop} {T : TypeId} {k n0 base : Nat} {w : World} {v : Value} {l : List α} (h : RowsOwn P T k n0 base w v l) (hl : l.length ≤ 140737488355328) {w' : World}
    (hw : ∀ b, b < w.heap.size → (b < n0 ∨ base ≤ b) → w'.heap[b]? = w.heap[b]?) : RowsAt P k w' v l := by
  obtain ⟨rows, h1, h2, h3, h4⟩ := h
  exact ⟨rows, h1, h2, row_seg (row_keep h3 fun b cur hb he => hw b (Array.getElem?_eq_some_iff.1 he).1 (.inr hb)) hl, fun i r x hr hx => h4 w' (fun b hlt _ hc => hw b hlt hc) i r x hr hx⟩
/-- one element more, laid in a block of its own (at w.heap.size) -/
theorem RowsOwn.append' {α : Type} {P : World → List Value → α → Prop} {T : TypeId} {k n0 base : Nat} {w : World} {v : Value} {l : List α} (h : RowsOwn P T k n0 base w v l) (hk : 0 < k)
    {G : Program} (t : TypeId) (z : Value) (bytes : Nat) (ht : G.underlying t = some (.slice T)) (hinfo : (G.info? T).map (fun i => (i.zero, i.size, i.bytes)) = some (some z, k, bytes)) (hzs : z.cells.size = k)
    (cells : Array Value) (hr : cells.size = k) (h1 : ∀ u ∈ cells.toList, u.oneCell' = true) (x : α)
    (hP : ∀ w', (∀ b, b < w.heap.size → v.ownBlock ≠ some b → (b < n0 ∨ base ≤ b) → w'.heap[b]? = w.heap[b]?) → P w' cells.toList x) (hlen : l.length ≤ 1099511627776) (hby : bytes ≤ 120) (hbase : base ≤ w.heap.size) :
    ∃ v' w', (Builtin.append_ #[t, t] t #[v, .slice (some ⟨w.heap.size, 0, none⟩) 1 1]).run G (w.alloc (.cells cells T)) = .ok v' w' ∧ RowsOwn P T k n0 base w' v' (l ++ [x]) ∧
      (w.alloc (.cells cells T)).grownBy w' v.ownBlock ∧ (v'.ownBlock = v.ownBlock ∨ v'.ownBlock = some (w.alloc (.cells cells T)).heap.size) := by
  obtain ⟨rows, g1, g2, g3, g4⟩ := h
  have hseg : Seg (w.alloc (.cells cells T)) (.slice (some ⟨w.heap.size, 0, none⟩) 1 1) k 1 cells.toList := by
    refine ⟨by simp [hr], by omega, some ⟨w.heap.size, 0, none⟩, 1, rfl, Nat.le_refl _, by omega, by simp, fun j u hu => ⟨_, _, rfl, ?_⟩⟩
    rw [Nat.zero_add, cell_of_row _ _ _ cells T (0, 0) (heap_alloc_new w _)]
    simpa using hu
  have hb1 : (l.length + 1) * bytes ≤ 140737488355328 := Nat.le_trans (Nat.mul_le_mul_left _ hby) (by omega)
  obtain ⟨v', w', hrun, hO, hg, hat⟩ := seg_append (P := G) (w.alloc (.cells cells T)) base t t T z k bytes ht hinfo hzs hk v _ l.length 1 rows.flatten cells.toList
    (World.ownsRow.alloc g3 _) hseg h1 (by omega) hb1 (by simp; omega)
  refine ⟨v', w', hrun, ⟨rows ++ [cells.toList], by simp [g1], ?_, by simpa using hO, ?_⟩, hg, hat⟩
  · intro r hr'
    rcases List.mem_append.1 hr' with h | h
    · exact g2 r h
    · simp at h; subst h; simpa using hr
  · intro w2 hw2
    have hsz : w.heap.size + 1 ≤ w'.heap.size := by have := hg.size; simpa using this
    have hold : ∀ b, b < w.heap.size → v.ownBlock ≠ some b → (b < n0 ∨ base ≤ b) → w2.heap[b]? = w.heap[b]? := by
      intro b hlt hne hc
      have hne' : v'.ownBlock ≠ some b := by
        rcases hat with e | e
        · rw [e]; exact hne
        · rw [e]; intro e2; simp at e2; omega
      exact ((hw2 b (by omega) hne' hc).trans (hg.block b (by simp; omega) (fun e => hne e.symm))).trans (Below.heap_alloc w _ b hlt)
    intro i r y hri hyi
    by_cases hil : i < l.length
    · rw [List.getElem?_append_left (by omega)] at hri
      rw [List.getElem?_append_left hil] at hyi
      exact g4 w2 hold i r y hri hyi
    · have hi : i = l.length := by
        have := (List.getElem?_eq_some_iff.1 hyi).1
        simp at this; omega
      subst hi
      rw [← g1, List.getElem?_concat_length] at hri
      rw [List.getElem?_concat_length] at hyi
      cases hri
      cases hyi
      exact hP w2 hold
/-- .. whose parts lie apart from the list -/
theorem RowsOwn.append {α : Type} {P : World → List Value → α → Prop} {T : TypeId} {k n0 base : Nat} {w : World} {v : Value} {l : List α} (h : RowsOwn P T k n0 base w v l) (hk : 0 < k) (hn0 : n0 ≤ base)
    {G : Program} (t : TypeId) (z : Value) (bytes : Nat) (ht : G.underlying t = some (.slice T)) (hinfo : (G.info? T).map (fun i => (i.zero, i.size, i.bytes)) = some (some z, k, bytes)) (hzs : z.cells.size = k)
    (cells : Array Value) (hr : cells.size = k) (h1 : ∀ u ∈ cells.toList, u.oneCell' = true) (x : α) (nb : Nat) (hnb : ∀ b, v.ownBlock = some b → b < nb) (hbn : base ≤ nb)
    (hP : Apart n0 nb w fun w' => P w' cells.toList x) (hlen : l.length ≤ 1099511627776) (hby : bytes ≤ 120) (hbase : base ≤ w.heap.size) :
    ∃ v' w', (Builtin.append_ #[t, t] t #[v, .slice (some ⟨w.heap.size, 0, none⟩) 1 1]).run G (w.alloc (.cells cells T)) = .ok v' w' ∧ RowsOwn P T k n0 base w' v' (l ++ [x]) ∧
      (w.alloc (.cells cells T)).grownBy w' v.ownBlock ∧ (v'.ownBlock = v.ownBlock ∨ v'.ownBlock = some (w.alloc (.cells cells T)).heap.size) := by
  have g3 := h
  obtain ⟨rows, -, -, g3, -⟩ := g3
  refine h.append' hk t z bytes ht hinfo hzs cells hr h1 x (fun w2 hold => hP w2 fun b hlt hc => hold b hlt ?_ (hc.imp id fun h => Nat.le_trans hbn h)) hlen hby hbase
  intro e
  have := hnb b e
  rcases hc with hc | hc
  · have hb2 : base ≤ b := by
      rcases g3.2 with ⟨rfl, _⟩ | ⟨g, cap, cur, rfl, hb, _⟩
      · simp [Value.ownBlock] at e
      · simp [Value.ownBlock] at e; omega
    omega
  · omega
theorem RowsOwn.own {α : Type} {P : World → List Value → α → Prop} {T : TypeId} {k n0 base : Nat} {w : World} {v : Value} {l : List α} (h : RowsOwn P T k n0 base w v l) (b : Nat) (e : v.ownBlock = some b) : base ≤ b ∧ b < w.heap.size := by
  obtain ⟨rows, -, -, h3, -⟩ := h
  rcases h3.2 with ⟨rfl, h0⟩ | ⟨g, cap, cur, rfl, hb, hg, _⟩
  · simp [Value.ownBlock] at e
  · simp [Value.ownBlock] at e
    subst e
    exact ⟨hb, (Array.getElem?_eq_some_iff.1 hg).1⟩
/-- a call that lays a new element, the element's block, the append -/
theorem RowsOwn.step {α : Type} {P : World → List Value → α → Prop} {T : TypeId} {k n0 base i : Nat} {wr w1 : World} {oa : Option Addr} {oc : Nat} {l : List α} (h : RowsOwn P T k n0 base wr (.slice oa i oc) l) (hb : Below wr.heap.size wr w1) (hk : 0 < k) (hn0 : n0 ≤ base) (hbs : base ≤ wr.heap.size) (hil : l.length = i)
    {G : Program} (t : TypeId) (z : Value) (bytes : Nat) (ht : G.underlying t = some (.slice T)) (hinfo : (G.info? T).map (fun i => (i.zero, i.size, i.bytes)) = some (some z, k, bytes)) (hzs : z.cells.size = k)
    (cells : Array Value) (hr : cells.size = k) (h1 : ∀ u ∈ cells.toList, u.oneCell' = true) (x : α) (hP : Apart n0 wr.heap.size w1 fun w' => P w' cells.toList x) (hlen : i ≤ 1099511627776) (hby : bytes ≤ 120) :
    ∃ a' c' w5, (Builtin.append_ #[t, t] t #[.slice oa i oc, .slice (some ⟨w1.heap.size, 0, none⟩) 1 1]).run G (w1.alloc (.cells cells T)) = .ok (.slice a' (i + 1) c') w5 ∧ RowsOwn P T k n0 base w5 (.slice a' (i + 1) c') (l ++ [x]) ∧
      Below base wr (w1.alloc (.cells cells T)) ∧ Below base wr w5 := by
  have hs := hb.size
  have hB1 : Below base wr (w1.alloc (.cells cells T)) := (hb.mono hbs).alloc (by omega) _
  obtain ⟨v', w', hrun, hO, hg, -⟩ := (h.below hb).append hk hn0 t z bytes ht hinfo hzs cells hr h1 x wr.heap.size (fun b e => (h.own b e).2) hbs hP (by omega) hby (by omega)
  obtain ⟨a', c', rfl⟩ := hO.form
  rw [List.length_append, List.length_singleton, hil] at *
  exact ⟨a', c', w', hrun, hO, hB1, hB1.grown hg (by have := hB1.size; omega) fun q e => (h.own q e).1⟩
end Go.Proofs.YtaefpjecalnbcaaGreat
namespace Go.Proofs.YtaefpjecalnbcaaGreat
open Go.RowKit Go.Shelf
attribute [local go_sem] Oper.semAt_some
end Go.Proofs.YtaefpjecalnbcaaGreat
namespace Go.Proofs.YtaefpjecalnbcaaGreat
open Go.RowKit Go.Shelf
attribute [local go_sem] Oper.semAt_some
/-- The boxes of a count under way: results, n, k, b (from block H on), the block of deferred calls, the loop's record. -/
structure CA (w : World) (k : Int) (rec : Loop) (cnt code : Nat) (bv : Value) (W : World) : Prop where
  r0 : Blk W w.heap.size [.int .i64 0] 3
  r1 : Blk W (w.heap.size + 1) [.int .u8 code] 37
  nb : Blk W (w.heap.size + 1 + 1) [.int .i64 cnt] 3
  kb : Blk W (w.heap.size + 1 + 1 + 1) [.int .i64 k] 3
  bb : Blk W (w.heap.size + 1 + 1 + 1 + 1) [bv] 99
  D : W.heap[w.heap.size + 1 + 1 + 1 + 1 + 1]? = some (.deferred (some []))
  L : W.heap[w.heap.size + 1 + 1 + 1 + 1 + 1 + 1]? = some (.loop rec)
  B : Below w.heap.size w W
theorem CA.below {w : World} {k : Int} {rec : Loop} {cnt code : Nat} {bv : Value} {W W' : World} (h : CA w k rec cnt code bv W) (hb : Below W.heap.size W W') : CA w k rec cnt code bv W' :=
  ⟨h.r0.below hb, h.r1.below hb, h.nb.below hb, h.kb.below hb, h.bb.below hb, (hb.block _ (Array.getElem?_eq_some_iff.1 h.D).1).trans h.D, (hb.block _ (Array.getElem?_eq_some_iff.1 h.L).1).trans h.L, h.B.trans (hb.mono h.B.size)⟩
theorem CA.put {w : World} {k : Int} {rec : Loop} {cnt code : Nat} {bv : Value} {W : World} (h : CA w k rec cnt code bv W) (rec' : Loop) :
    CA w k rec' cnt code bv (W.putObj (w.heap.size + 1 + 1 + 1 + 1 + 1 + 1) (.loop rec')) :=
  ⟨h.r0.put _ (by omega), h.r1.put _ (by omega), h.nb.put _ (by omega), h.kb.put _ (by omega), h.bb.put _ (by omega), (World.putObj_heap_other (by omega)).trans h.D,
    World.putObj_heap_same (Array.getElem?_eq_some_iff.1 h.L).1, belowK_b (Nat.le_refl _) W _ _ _ (by omega) h.L rfl rfl |> fun hb => h.B.trans hb⟩
theorem CA.alloc {w : World} {k : Int} {rec : Loop} {cnt code : Nat} {bv : Value} {W : World} (h : CA w k rec cnt code bv W) (o : Obj) : CA w k rec cnt code bv (W.alloc o) :=
  ⟨h.r0.alloc _, h.r1.alloc _, h.nb.alloc _, h.kb.alloc _, h.bb.alloc _, (Below.heap_alloc W o _ (Array.getElem?_eq_some_iff.1 h.D).1).trans h.D, (Below.heap_alloc W o _ (Array.getElem?_eq_some_iff.1 h.L).1).trans h.L, h.B.alloc h.B.size _⟩
theorem CA.drew {w : World} {k : Int} {rec : Loop} {cnt code : Nat} {bv : Value} {W : World} (h : CA w k rec cnt code bv W) : CA w k rec cnt code bv W.drew :=
  ⟨h.r0, h.r1, h.nb, h.kb, h.bb, h.D, h.L, h.B.drew⟩
end Go.Proofs.YtaefpjecalnbcaaGreat
namespace Go.Proofs.YtaefpjecalnbcaaGreat
open Go.RowKit
theorem u8_and192 : ∀ c : Fin 256, bits .and .u8 (c.val : Int) 192 = ((c.val / 64 * 64 : Nat) : Int) := by decide +kernel
theorem u8_andNot192 : ∀ c : Fin 256, bits .andNot .u8 (c.val : Int) 192 = ((c.val % 64 : Nat) : Int) := by decide +kernel
set_option maxRecDepth 100000 in
theorem utf_head (c : Nat) (hc : c < 256) (w : World) :
    Calls Tryz.prog 174 #[.int .u8 c] w fun e w' => e = .returned (.tuple #[.int .i64 (uhead c).1, .int .i32 (uhead c).2]) ∧ w = w' := by
  rcases uhead_cases c with ⟨h, e⟩ | ⟨h, h', e⟩ | ⟨h, h', e⟩ | ⟨h, h', e⟩ | ⟨h, e⟩
  · rw [e]; clear e
    go_enter Tryz.func174, Tryz.ntmps174
    go_wp2
    go_ret2
    exact ⟨rfl, rfl⟩
  · rw [e]; clear e
    have a1 := u8_and31 (x := (c : Int)) (by omega) (by omega)
    go_enter Tryz.func174, Tryz.ntmps174
    go_wp2
    go_ret2
    exact ⟨ret2 rfl (int_eq (by omega)), rfl⟩
  · rw [e]; clear e
    have a1 := u8_and15 (x := (c : Int)) (by omega) (by omega)
    go_enter Tryz.func174, Tryz.ntmps174
    go_wp2
    go_ret2
    exact ⟨ret2 rfl (int_eq (by omega)), rfl⟩
  · rw [e]; clear e
    have a1 := u8_and7 (x := (c : Int)) (by omega) (by omega)
    go_enter Tryz.func174, Tryz.ntmps174
    go_wp2
    go_ret2
    exact ⟨ret2 rfl (int_eq (by omega)), rfl⟩
  · rw [e]; clear e
    rcases h with h | h
    all_goals
      go_enter Tryz.func174, Tryz.ntmps174
      go_wp2
      go_ret2
      exact ⟨rfl, rfl⟩
set_option maxRecDepth 100000 in
theorem utf_least (n : Nat) (hn : n ≤ 4) (w : World) :
    Calls Tryz.prog 175 #[.int .i64 n] w fun e w' => e = .returned (.int .i32 (uleast n)) ∧ w = w' := by
  have i0 : ∀ w, (Instr.index 237 (.agg #[.int .i32 0, .int .i32 0, .int .i32 128, .int .i32 2048, .int .i32 65536]) (.int .i64 0)).run Tryz.prog w = .ok (.int .i32 0) w := fun _ => by kernel_rfl
  have i1 : ∀ w, (Instr.index 237 (.agg #[.int .i32 0, .int .i32 0, .int .i32 128, .int .i32 2048, .int .i32 65536]) (.int .i64 1)).run Tryz.prog w = .ok (.int .i32 0) w := fun _ => by kernel_rfl
  have i2 : ∀ w, (Instr.index 237 (.agg #[.int .i32 0, .int .i32 0, .int .i32 128, .int .i32 2048, .int .i32 65536]) (.int .i64 2)).run Tryz.prog w = .ok (.int .i32 128) w := fun _ => by kernel_rfl
  have i3 : ∀ w, (Instr.index 237 (.agg #[.int .i32 0, .int .i32 0, .int .i32 128, .int .i32 2048, .int .i32 65536]) (.int .i64 3)).run Tryz.prog w = .ok (.int .i32 2048) w := fun _ => by kernel_rfl
  have i4 : ∀ w, (Instr.index 237 (.agg #[.int .i32 0, .int .i32 0, .int .i32 128, .int .i32 2048, .int .i32 65536]) (.int .i64 4)).run Tryz.prog w = .ok (.int .i32 65536) w := fun _ => by kernel_rfl
  rcases (show n = 0 ∨ n = 1 ∨ n = 2 ∨ n = 3 ∨ n = 4 by omega) with rfl | rfl | rfl | rfl | rfl
  all_goals
    go_enter Tryz.func175, Tryz.ntmps175
    go_wp2
    go_ret
    exact ⟨rfl, rfl⟩
theorem uhead_bd (c : Nat) : (uhead c).2 < 128 := by
  rcases uhead_cases c with ⟨h, e⟩ | ⟨h, h', e⟩ | ⟨h, h', e⟩ | ⟨h, h', e⟩ | ⟨h, e⟩ <;> rw [e] <;> simp <;> omega
set_option maxRecDepth 100000 in
theorem utf_next {w : World} {v : Value} {l : List UInt8} (h : Bytes w v l) :
    Calls Tryz.prog 167 #[v] w fun e w' => e = .returned (.int .i64 (unext l)) ∧ w = w' := by
  obtain ⟨hlen, a, cap, rfl, -, -, -, hcell⟩ := h.open
  obtain ⟨n, HN⟩ : ∃ n, Hid (n = l.length) := ⟨_, rfl⟩
  rw [← HN.out] at hcell hlen h ⊢
  by_cases h0 : n = 0
  · subst h0
    have hu : Hid (unext l = 0) := by
      obtain rfl : l = [] := List.eq_nil_of_length_eq_zero HN.out.symm
      rfl
    go_enter Tryz.func167, Tryz.ntmps167
    go_wp2
    go_ret
    rw [hu.out]
    exact ⟨rfl, rfl⟩
  · have hz : ((n : Int) == 0) = false := by simp; omega
    have hpos : 0 < n := by omega
    obtain ⟨b, o, ha, hc0⟩ := hcell 0 hpos
    have hix := index_0 under_bytes size_u8 ha hpos (cap := cap)
    have HAA := hid ha
    obtain ⟨c, HC⟩ : ∃ c, Hid (c = (l.getD 0 0).toNat) := ⟨_, rfl⟩
    have hcb : c < 256 := by rw [HC.out]; exact (l.getD 0 0).toNat_lt
    rw [← HC.out] at hc0
    obtain ⟨m, r, HM, hm, hr⟩ : ∃ m r, Hid (uhead c = (m, r)) ∧ m ≤ 4 ∧ r < 128 := ⟨_, _, rfl, uhead_le c, uhead_bd c⟩
    have H0 := hid h0
    clear ha hcell h0
    simp only [Nat.add_zero] at hc0
    by_cases hm0 : m = 0 ∨ n < m
    · have hu : Hid (unext l = 0) := by
        cases l with
        | nil => rfl
        | cons c' t =>
          simp at HC
          have e := HC.out
          simp only [Hid, unext, ← e, HM.out]
          rw [if_pos (by rw [← HN.out]; exact hm0)]
      have hm0' : ((m : Int) == 0) = decide (m = 0) := by
        by_cases e : m = 0
        · subst e; rfl
        · simp [e]
      rcases hm0 with e | e
      · subst e
        clear hm0'
        go_enter Tryz.func167, Tryz.ntmps167
        go_wp2_with (go_at_call 174; refine (utf_head _ (by omega) _).mono ?_; rintro e w' ⟨rfl, rfl⟩; rw [HM.out])
        go_ret
        rw [hu.out]
        exact ⟨rfl, rfl⟩
      · clear hm0'
        have hm1 : ((m : Int) == 0) = false := by simp; omega
        go_enter Tryz.func167, Tryz.ntmps167
        go_wp2_with (go_at_call 174; refine (utf_head _ (by omega) _).mono ?_; rintro e w' ⟨rfl, rfl⟩; rw [HM.out])
        go_ret
        rw [hu.out]
        exact ⟨rfl, rfl⟩
    · have hm1 : ((m : Int) == 0) = false := by simp; omega
      have hmpos : 1 ≤ m := by omega
      have hmn : m ≤ n := by omega
      have hu : Hid (unext l = match ucont (m - 1) r (l.drop 1) with | none => 0 | some r => if ubad m r then 0 else m) := by
        cases l with
        | nil => simp at HN; have := HN.out; omega
        | cons c' t =>
          simp at HC
          have e := HC.out
          simp only [Hid, unext, ← e, HM.out]
          rw [if_neg (by rw [← HN.out]; exact hm0)]
          rfl
      have HM0 := hid hm0
      clear hm0
      obtain ⟨a', cap', hsl, hcs, -⟩ := h.cut HN.out 1 m hmpos hmn
      simp only [Int.natCast_one] at hsl
      have HCS := hid hcs
      clear hcs
      obtain ⟨q, HQ⟩ : ∃ q, Hid (q = m - 1) := ⟨_, rfl⟩
      rw [← HQ.out] at hsl
      have hq3 : q ≤ 3 := by rw [HQ.out]; omega
      go_enter Tryz.func167, Tryz.ntmps167
      go_wp2_with (go_at_call 174; refine (utf_head _ (by omega) _).mono ?_; rintro e w' ⟨rfl, rfl⟩; rw [HM.out])
      go_loop [4, 29] (fun v4 v29 => ∃ k x : Nat, k ≤ q ∧ x < 128 * 64 ^ k ∧ v4 = .int .i32 x ∧ v29 = .int .i64 k ∧ Hid (ucont (q - k) x (l.drop (1 + k)) = ucont q r (l.drop 1))) (fun _ v29 => q - (intOf v29).toNat)
      case atStart => exact ⟨0, r, by omega, by omega, rfl, rfl, rfl⟩
      case round =>
        obtain ⟨k, x, hk, hx, rfl, rfl, HX⟩ := hrel
        have hx2 : x < 128 * 64 ^ 3 := Nat.lt_of_lt_of_le hx (Nat.mul_le_mul_left _ (Nat.pow_le_pow_right (by omega) (by omega)))
        simp only [Nat.reducePow, Nat.reduceMul] at hx2
        by_cases hlt : k < q
        · have hcs := HCS.out
          obtain ⟨b2, o2, ha2, hc2⟩ := hcs k (by have := HQ.out; omega)
          clear hcs
          have hix2 := index_run1 under_bytes size_u8 ha2 k hlt (cap := cap')
          obtain ⟨d, HD⟩ : ∃ d, Hid (d = (l.getD (1 + k) 0).toNat) := ⟨_, rfl⟩
          have hdb : d < 256 := by rw [HD.out]; exact (l.getD (1 + k) 0).toNat_lt
          rw [← HD.out] at hc2
          have HA2 := hid ha2
          have hstep : Hid (ucont (q - k) x (l.drop (1 + k)) = if 128 ≤ d ∧ d < 192 then ucont (q - (k + 1)) (x * 64 + d % 64) (l.drop (1 + (k + 1))) else none) := by
            have e : q - k = (q - (k + 1)) + 1 := by omega
            have hkl : 1 + k < l.length := by rw [← HN.out]; have := HQ.out; omega
            rw [e, List.drop_eq_getElem_cons hkl, HD.out]
            simp only [Hid, ucont, List.getD, List.getElem?_eq_getElem hkl, Option.getD_some]
            rfl
          clear ha2
          have hx3 : x < 128 * 64 ^ 2 := Nat.lt_of_lt_of_le hx (Nat.mul_le_mul_left _ (Nat.pow_le_pow_right (by omega) (by omega)))
          simp only [Nat.reducePow, Nat.reduceMul] at hx3
          have HX0 := hid hx
          clear hx
          by_cases hct : 128 ≤ d ∧ d < 192
          · have hb1 : bits .and .u8 (d : Int) 192 = 128 := by rw [u8_and192 ⟨d, hdb⟩]; simp; omega
            have hb2 : bits .andNot .u8 (d : Int) 192 = ((d % 64 : Nat) : Int) := u8_andNot192 ⟨d, hdb⟩
            have hb3 := i32_or6 (x := (x : Int) * 64) (y := ((d % 64 : Nat) : Int)) (by omega) (by omega) (by omega) (by omega) (by omega)
            have hb4 : IntKind.i32.wrap ((d % 64 : Nat) : Int) = ((d % 64 : Nat) : Int) := by rw [IntKind.wrap_i32]; omega
            have HCT := hid hct
            clear hct
            go_wp2
            go_round
            case rel =>
              refine ⟨k + 1, x * 64 + d % 64, by omega, ?_, by first | go_num | exact int_eq (by omega), by go_num, ?_⟩
              · rw [Nat.pow_succ, ← Nat.mul_assoc]
                have := HX0.out
                omega
              · rw [← HX.out, hstep.out, if_pos HCT.out]; exact hid rfl
            case measure => simp [intOf]; omega
          · obtain ⟨y, hb1, hy⟩ : ∃ y : Nat, bits .and .u8 (d : Int) 192 = (y : Int) ∧ ((y : Int) == 128) = false := ⟨d / 64 * 64, u8_and192 ⟨d, hdb⟩, by simp; omega⟩
            have HCT := hid hct
            clear hct
            go_wp2
            go_ret
            refine ⟨ret1 (int_eq ?_), rfl⟩
            have e : unext l = 0 := by
              rw [hu.out, ← HQ.out, ← HX.out, hstep.out, if_neg HCT.out]
            rw [e]; rfl
        · obtain rfl : k = q := by omega
          have hu2 : Hid (unext l = if ubad m x then 0 else m) := by
            have := HX.out
            rw [Nat.sub_self] at this
            simp only [ucont] at this
            rw [Hid, hu.out, ← HQ.out, ← this]
          obtain ⟨lv, HLV⟩ : ∃ lv, Hid (lv = uleast m) := ⟨_, rfl⟩
          have hlv : lv ≤ 65536 := by
            rw [HLV.out]; unfold uleast; repeat' split
            all_goals omega
          have HUB : Hid (ubad m x = decide (x < lv ∨ 1114111 < x ∨ 55296 ≤ x ∧ x ≤ 57343)) := by rw [HLV.out]; rfl
          clear hx
          by_cases c1 : x < lv
          · have hv : Hid (unext l = 0) := by rw [Hid, hu2.out, HUB.out, if_pos (by simp [c1])]
            go_wp2_with (go_at_call 175; refine (utf_least _ (by omega) _).mono ?_; rintro e w' ⟨rfl, rfl⟩; rw [← HLV.out])
            go_ret
            rw [hv.out]
            exact ⟨rfl, rfl⟩
          · by_cases c2 : 1114111 < x
            · have hv : Hid (unext l = 0) := by rw [Hid, hu2.out, HUB.out, if_pos (by simp [c2])]
              go_wp2_with (go_at_call 175; refine (utf_least _ (by omega) _).mono ?_; rintro e w' ⟨rfl, rfl⟩; rw [← HLV.out])
              go_ret
              rw [hv.out]
              exact ⟨rfl, rfl⟩
            · by_cases c3 : 55296 ≤ x
              · by_cases c4 : x ≤ 57343
                · have hv : Hid (unext l = 0) := by rw [Hid, hu2.out, HUB.out, if_pos (by simp [c3, c4])]
                  go_wp2_with (go_at_call 175; refine (utf_least _ (by omega) _).mono ?_; rintro e w' ⟨rfl, rfl⟩; rw [← HLV.out])
                  go_ret
                  rw [hv.out]
                  exact ⟨rfl, rfl⟩
                · have hv : Hid (unext l = m) := by rw [Hid, hu2.out, HUB.out, if_neg (by simp; omega)]
                  go_wp2_with (go_at_call 175; refine (utf_least _ (by omega) _).mono ?_; rintro e w' ⟨rfl, rfl⟩; rw [← HLV.out])
                  go_ret
                  rw [hv.out]
                  exact ⟨rfl, rfl⟩
              · have hv : Hid (unext l = m) := by rw [Hid, hu2.out, HUB.out, if_neg (by simp; omega)]
                go_wp2_with (go_at_call 175; refine (utf_least _ (by omega) _).mono ?_; rintro e w' ⟨rfl, rfl⟩; rw [← HLV.out])
                go_ret
                rw [hv.out]
                exact ⟨rfl, rfl⟩
set_option maxRecDepth 100000 in
theorem utf_walk {w : World} {v : Value} {l : List UInt8} (h : Bytes w v l) :
    Calls Tryz.prog 153 #[v, .int .i64 l.length] w fun e w' => (∃ k : Nat, e = .returned (.tuple #[.int .i64 (ufirst l), .int .i64 k])) ∧ w = w' := by
  obtain ⟨hlen, a, cap, rfl, -, -, -, -⟩ := h.open
  obtain ⟨n, HN⟩ : ∃ n, Hid (n = l.length) := ⟨_, rfl⟩
  rw [← HN.out] at hlen h ⊢
  go_enter Tryz.func153, Tryz.ntmps153
  go_wp2
  go_loop [6, 7] (fun v6 v7 => ∃ k x : Nat, k ≤ n ∧ x ≤ k ∧ v6 = .int .i64 k ∧ v7 = .int .i64 x ∧ Hid (k + ufirst (l.drop k) = ufirst l)) (fun v6 _ => n - (intOf v6).toNat)
  case atStart => exact ⟨0, 0, by omega, by omega, rfl, rfl, by simp [Hid]⟩
  case round =>
    obtain ⟨k, x, hk, hx, rfl, rfl, HK⟩ := hrel
    obtain ⟨v', hsl, hv'⟩ := h.l HN.out k hk
    obtain ⟨m, HM⟩ : ∃ m, Hid (m = unext (l.drop k)) := ⟨_, rfl⟩
    have hm : k + m ≤ n := by
      have := (unext_le (l.drop k)).1
      rw [List.length_drop, ← HN.out, ← HM.out] at this
      omega
    have hs := ufirst_step (l.drop k)
    rw [← HM.out] at hs
    have HS := hid hs
    clear hs
    by_cases hm0 : m = 0
    · subst hm0
      go_wp2_with (go_at_call 167; refine (utf_next hv').mono ?_; rintro e w' ⟨rfl, rfl⟩; rw [← HM.out])
      refine bodyPost_ret (v := .tuple #[.int .i64 k, .int .i64 x]) (by simp [results, Tryz.results153, go_sem]) rfl ⟨⟨x, ?_⟩, rfl⟩
      have e : ufirst l = k := by rw [← HK.out, HS.out]; simp
      rw [e]
    · have hm1 : ((m : Int) == 0) = false := by simp; omega
      have HM0 := hid hm0
      have hmp : 0 < m := by omega
      clear hm0
      go_wp2_with (go_at_call 167; refine (utf_next hv').mono ?_; rintro e w' ⟨rfl, rfl⟩; rw [← HM.out])
      go_round
      case rel =>
        refine ⟨k + m, x + 1, by omega, by omega, by go_num, by go_num, ?_⟩
        rw [← HK.out, HS.out, if_neg HM0.out, List.drop_drop, Nat.add_assoc]
        exact hid rfl
      case measure => simp [intOf]; omega
set_option maxRecDepth 100000 in
theorem utf_First {w : World} {v : Value} {l : List UInt8} (h : Bytes w v l) :
    Calls Tryz.prog 142 #[v] w fun e w' => e = .returned (.int .i64 (ufirst l)) ∧ w = w' := by
  obtain ⟨hlen, a, cap, rfl, -, -, -, -⟩ := h.open
  go_enter Tryz.func142, Tryz.ntmps142
  go_wp2_with (go_at_call 153; refine (utf_walk h).mono ?_; rintro e w' ⟨⟨k, rfl⟩, rfl⟩)
  go_ret
  exact ⟨rfl, rfl⟩
set_option maxRecDepth 100000 in
theorem utf_Right {w : World} {v : Value} {l : List UInt8} (h : Bytes w v l) :
    Calls Tryz.prog 104 #[v] w fun e w' => e = .returned (.bool (decide (ufirst l = l.length))) ∧ w = w' := by
  obtain ⟨hlen, a, cap, rfl, -, -, -, -⟩ := h.open
  go_enter Tryz.func104, Tryz.ntmps104
  go_wp2_with (go_at_call 142; refine (utf_First h).mono ?_; rintro e w' ⟨rfl, rfl⟩)
  go_ret
  refine ⟨ret1 ?_, rfl⟩
  show Value.bool ((ufirst l : Int) == (l.length : Int)) = _
  congr 1
  rw [Bool.eq_iff_iff]
  simp
  omega
end Go.Proofs.YtaefpjecalnbcaaGreat
