/- Parts of a proof: texts of the author, merged. No condition of their own. -/
import Derived.Test.YtaefpjecalnbcaaGreatZ03
import Derived.Test.YtaefpjecalnbcaaGreatZ07
import Derived.Test.YtaefpjecalnbcaaGreatZ08
import Derived.Test.YtaefpjecalnbcaaGreatZ10
import Derived.Test.YtaefpjecalnbcaaGreatZ12
import Derived.Deep.RegionLaw
namespace Go.Proofs.YtaefpjecalnbcaaGreat
open Go.RowKit
def szGo {α : Type} (f : α → Nat) : List α → Nat → Nat
  | [], n => n
  | x :: t, n => if 5000 ≤ n + f x then 5000 else szGo f t (n + f x)
def szV {α : Type} (f : α → Nat) (v : Val α) : Nat := szGo f v.subs (1 + v.words.length + twt v.texts)
def szM : (k d : Nat) → M d → Nat
  | 0, _, _ => 5000
  | _ + 1, 0, _ => 0
  | k + 1, d + 1, x => szGo (szV (szM k d)) (M.vals x) (1 + twt (M.unk x))
theorem szGo_lt {α : Type} (f : α → Nat) : ∀ (l : List α) (n : Nat), n < 5000 → szGo f l n ≤ 5000
  | [], n, h => by simp only [szGo]; omega
  | x :: t, n, h => by
    unfold szGo
    split
    · omega
    · exact szGo_lt f t (n + f x) (by omega)
theorem szGo_le {α : Type} (f : α → Nat) : ∀ (l : List α) (n : Nat), szGo f l n ≤ 5000 + n
  | [], n => by simp [szGo]
  | x :: t, n => by
    unfold szGo
    split
    · omega
    · have := szGo_lt f t (n + f x) (by omega)
      omega
theorem szGo_exact {α : Type} (f : α → Nat) : ∀ (l : List α) (n : Nat), szGo f l n < 5000 → szGo f l n = n + (l.map f).sum ∧ ∀ x ∈ l, f x < 5000
  | [], n, _ => by simp [szGo]
  | x :: t, n, h => by
    unfold szGo at h ⊢
    split at h
    · omega
    · rename_i hx
      rw [if_neg hx]
      obtain ⟨h1, h2⟩ := szGo_exact f t (n + f x) h
      refine ⟨by rw [h1, List.map_cons, List.sum_cons]; omega, fun y hy => ?_⟩
      rcases List.mem_cons.1 hy with rfl | hy
      · omega
      · exact h2 y hy
theorem sum_congr {α : Type} {f g : α → Nat} : ∀ {l : List α}, (∀ x ∈ l, f x = g x) → (l.map f).sum = (l.map g).sum
  | [], _ => rfl
  | x :: t, h => by rw [List.map_cons, List.map_cons, List.sum_cons, List.sum_cons, h x (by simp), sum_congr fun y hy => h y (by simp [hy])]
theorem szV_exact {α : Type} {f g : α → Nat} {v : Val α} (hfg : ∀ x ∈ v.subs, f x < 5000 → f x = g x) (h : szV f v < 5000) : szV f v = vwt g v := by
  obtain ⟨h1, h2⟩ := szGo_exact f v.subs _ h
  have h3 : szV f v = 1 + v.words.length + twt v.texts + (v.subs.map f).sum := h1
  rw [h3, vwt, sum_congr fun x hx => hfg x hx (h2 x hx)]
theorem szM_exact : ∀ (k d : Nat) (x : M d), szM k d x < 5000 → szM k d x = mwt d x
  | 0, _, _, h => by simp [szM] at h
  | _ + 1, 0, _, _ => rfl
  | k + 1, d + 1, x, h => by
    have hs : szM (k + 1) (d + 1) x = szGo (szV (szM k d)) (M.vals x) (1 + twt (M.unk x)) := rfl
    rw [hs] at h
    obtain ⟨h1, h2⟩ := szGo_exact _ _ _ h
    rw [hs, h1]
    show _ = 1 + twt (M.unk x) + ((M.vals x).map (vwt (mwt d))).sum
    rw [sum_congr fun y hy => szV_exact (g := mwt d) (fun z _ hz => szM_exact k d z hz) (h2 y hy)]
theorem szM_le : ∀ (k d : Nat) (x : M d), szM k d x ≤ 5000 + mwt d x
  | 0, _, _ => by simp [szM]
  | _ + 1, 0, _ => by simp [szM]
  | k + 1, d + 1, x => by
    have h := szGo_le (szV (szM k d)) (M.vals x) (1 + twt (M.unk x))
    have e : mwt (d + 1) x = 1 + twt (M.unk x) + ((M.vals x).map (vwt (mwt d))).sum := rfl
    show szGo _ _ _ ≤ _
    omega
theorem szV_le {α : Type} (f : α → Nat) (g : α → Nat) (v : Val α) : szV f v ≤ 5000 + vwt g v := by
  have h := szGo_le f v.subs (1 + v.words.length + twt v.texts)
  unfold szV vwt
  omega
theorem szGo_at {α : Type} (f : α → Nat) (l : List α) (j y : Nat) (m : α) (h : l[j]? = some m) : szGo f (l.drop j) y = if 5000 ≤ y + f m then 5000 else szGo f (l.drop (j + 1)) (y + f m) := by
  obtain ⟨hj, rfl⟩ := List.getElem?_eq_some_iff.1 h
  rw [List.drop_eq_getElem_cons hj]
  rfl
theorem size_val (w : World) : (sizeOf 67).run Tryz.prog w = .ok 4 w := by kernel_rfl
theorem size_msg (w : World) : (sizeOf 27).run Tryz.prog w = .ok 2 w := by kernel_rfl
theorem size_str (w : World) : (sizeOf 9).run Tryz.prog w = .ok 1 w := by kernel_rfl
theorem size_u64 (w : World) : (sizeOf 63).run Tryz.prog w = .ok 1 w := by kernel_rfl
def SizeOk (k d : Nat) : Prop := ∀ (w : World) (v : Value) (x : M d), MsgAt d w v x → mwt d x ≤ 1099511627776 →
  Calls Tryz.prog 25 #[v, .int .i64 ((k : Int) - 1)] w fun e w' => e = .returned (.int .i64 (szM k d x)) ∧ Below w.heap.size w w'
theorem twt_take (l : List (List UInt8)) (k : Nat) (t : List UInt8) (h : l[k]? = some t) : twt (l.take (k + 1)) = twt (l.take k) + (1 + t.length) := sum_take _ l k t h
theorem twt_take_le (l : List (List UInt8)) (k : Nat) : twt (l.take k) ≤ twt l := sum_take_le _ l k
set_option maxRecDepth 100000 in
set_option maxHeartbeats 4000000 in
theorem law14_SizeValue_of {d k : Nat} (ih : SizeOk k d) (hk : k ≤ 1000) {w : World} {v : Value} {x : Val (M d)} (h : ValAt (MsgAt d) w v x) (hw : vwt (mwt d) x ≤ 1099511627776) :
    Calls Tryz.prog 52 #[v, .int .i64 k] w fun e w' => e = .returned (.int .i64 (szV (szM k d) x)) ∧ Below w.heap.size w w' := by
  obtain ⟨wv, tv, sv, rfl, hnum, hW, hT, hS⟩ := h
  obtain ⟨hwl, wa, wc, rfl, -, -⟩ := hW.open
  obtain ⟨htl, ta, tc, rfl, -, hta⟩ := hT.open
  obtain ⟨hsl, sa, sc, rfl, -, hsa⟩ := hS.open
  obtain ⟨wn, HWN⟩ : ∃ n, Hid (n = x.words.length) := ⟨_, rfl⟩
  obtain ⟨tn, HTN⟩ : ∃ n, Hid (n = x.texts.length) := ⟨_, rfl⟩
  obtain ⟨sn, HSN⟩ : ∃ n, Hid (n = x.subs.length) := ⟨_, rfl⟩
  have HV : Hid (1 + wn + twt x.texts + (x.subs.map (mwt d)).sum ≤ 1099511627776) := by rw [Hid, HWN.out]; exact hw
  rw [← HWN.out] at hwl ⊢
  rw [← HTN.out] at htl ⊢
  rw [← HSN.out] at hsl ⊢
  have HTA := hid hta
  have HSA := hid hsa
  have HIH := hid ih
  generalize x.num = num at *
  clear hta hsa ih hW hT hS hw
  go_enter Tryz.func52, Tryz.ntmps52
  go_wp2_with fail
  obtain ⟨W0, HW0⟩ : ∃ W0, Hid (W0 = w.alloc (.cells #[.int .i64 num, .slice wa wn wc, .slice ta tn tc, .slice sa sn sc] 67)) := ⟨_, rfl⟩
  rw [← HW0.out]
  have hB0 : Below w.heap.size w W0 := by rw [HW0.out]; exact (Below.refl _ _).alloc (Nat.le_refl _) _
  have hsz0 : w.heap.size < W0.heap.size := by rw [HW0.out]; simp
  have hc2 : W0.cell? ⟨w.heap.size, 2, none⟩ = some (.slice ta tn tc) := by rw [HW0.out]; simp [go_sem]
  have hc3 : W0.cell? ⟨w.heap.size, 3, none⟩ = some (.slice sa sn sc) := by rw [HW0.out]; simp [go_sem]
  have HB0 := hid hB0
  have HC3 := hid hc3
  clear hB0 hc3
  go_loopw [5, 6] (fun v5 v6 wr => ∃ (z i : Nat), v5 = .int .i64 z ∧ i ≤ tn ∧ z ≤ 1099511627776 ∧ v6 = .int .i64 i ∧ Hid (z = 1 + wn + twt (x.texts.take i)) ∧ wr = W0) (fun _ v6 _ => tn - (intOf v6).toNat)
  case atStart =>
    have h1 := HV.out
    refine ⟨1 + wn, 0, ?_, by omega, by omega, rfl, by simp [Hid, twt], rfl⟩
    go_num
  case round =>
    obtain ⟨z, i, rfl, hi, hz, rfl, HZ, hwr⟩ := hrel
    have hwr' := hwr.symm
    subst hwr'
    by_cases hlt : i < tn
    · have hti : x.texts[i]? = some (x.texts[i]'(by rw [← HTN.out]; exact hlt)) := List.getElem?_eq_getElem _
      generalize x.texts[i]'(by rw [← HTN.out]; exact hlt) = t at hti
      have hta := HTA.out
      obtain ⟨ht1, b, o, ha, g0⟩ := hta i t hti
      clear hta
      have HST : Hid (z + 1 + t.length = 1 + wn + twt (x.texts.take (i + 1)) ∧ z + 1 + t.length ≤ 1099511627776) := by
        have h1 := twt_take _ _ _ hti
        have h2 := twt_take_le x.texts (i + 1)
        have h3 := HV.out
        have h4 := HZ.out
        refine ⟨by omega, by omega⟩
      have hsb : (⟨t.toArray⟩ : ByteArray).size = t.length := by simp [ByteArray.size]
      unfold strV at g0
      generalize (⟨t.toArray⟩ : ByteArray) = bt at *
      generalize t.length = tl at *
      have hix := index_run1 Tryz.underlying25 size_str ha i hlt (cap := tc)
      replace g0 := below_keeps HB0.out _ _ g0
      clear ha hti
      go_wp2_with fail
      go_roundw
      case rel => exact ⟨z + 1 + tl, i + 1, by first | go_num | (rw [hsb]; go_num), hlt, HST.out.2, by go_num, HST.out.1, by first | trivial | rfl⟩
      case measure => simp [intOf]; omega
    · obtain rfl : i = tn := by omega
      have HZ2 : Hid (z = 1 + wn + twt x.texts) := by
        have := HZ.out
        rwa [HTN.out, List.take_length] at this
      go_wp2_with fail
      clear hc2
      go_loopw [5, 7] (fun v5 v7 wq => ∃ (y j : Nat), v5 = .int .i64 y ∧ j ≤ sn ∧ y ≤ 1099511627776 ∧ v7 = .int .i64 j ∧ Hid (szGo (szM k d) (x.subs.drop j) y = szV (szM k d) x) ∧ Hid (Below W0.heap.size W0 wq)) (fun _ v7 _ => sn - (intOf v7).toNat)
      case atStart =>
        refine ⟨z, 0, rfl, by omega, hz, rfl, ?_, Below.refl _ _⟩
        show szGo _ (x.subs.drop 0) z = _
        rw [List.drop_zero, HZ2.out, HWN.out]; rfl
      case round =>
        obtain ⟨y, j, rfl, hj, hy, rfl, HG, HBQ⟩ := hrel
        have c3 := below_keeps HBQ.out _ _ HC3.out
        have hbl3 : w.heap.size < wr.heap.size := World.block_lt_of_cell? wr _ c3
        by_cases hls : j < sn
        · have hmi : x.subs[j]? = some (x.subs[j]'(by rw [← HSN.out]; exact hls)) := List.getElem?_eq_getElem _
          generalize x.subs[j]'(by rw [← HSN.out]; exact hls) = m at hmi
          have hsa := HSA.out
          obtain ⟨b, o, v1, v2, ha, g0, g1, hM⟩ := hsa j m hmi
          clear hsa
          have hBq : Below w.heap.size w wr := HB0.out.trans (HBQ.out.mono HB0.out.size)
          have hkr := below_keeps hBq
          replace g0 := hkr _ _ g0
          replace g1 := hkr _ _ g1
          have HMM := hid (hM.below hBq)
          have HMB : Hid (mwt d m ≤ 1099511627776) := by
            have h1 := mem_sum_le (mwt d) x.subs m (List.mem_of_getElem? hmi)
            have h2 := HV.out
            show _ ≤ _; omega
          have HGO : Hid (szV (szM k d) x = if 5000 ≤ y + szM k d m then 5000 else szGo (szM k d) (x.subs.drop (j + 1)) (y + szM k d m)) := by
            rw [Hid, ← HG.out, szGo_at _ _ _ _ _ hmi]
          have hs : szM k d m ≤ 5000 + 1099511627776 := Nat.le_trans (szM_le k d m) (by have := HMB.out; omega)
          have HBQ2 := hid hBq
          have hix := index_run Tryz.underlying65 size_msg ha j hls (cap := sc)
          have hbl : b < wr.heap.size := World.block_lt_of_cell? wr _ g0
          clear ha hkr hM hBq hmi HG
          go_wp2_with fail
          refine (HIH.out wr _ m HMM.out HMB.out).mono ?_
          rintro e w3 ⟨rfl, hb3⟩
          generalize szM k d m = s at *
          have HB3 : Hid (Below W0.heap.size W0 w3) := HBQ.out.trans (hb3.mono HBQ.out.size)
          by_cases h5 : 5000 ≤ y + s
          · go_wp2_with fail
            go_ret
            refine ⟨ret1 (int_eq ?_), HB0.out.trans (HB3.out.mono HB0.out.size)⟩
            rw [HGO.out, if_pos h5]
            rfl
          · go_wp2_with fail
            go_roundw
            case rel =>
              refine ⟨y + s, j + 1, by go_num, hls, by omega, by go_num, ?_, HB3⟩
              rw [Hid, HGO.out, if_neg h5]
            case measure => simp [intOf]; omega
        · obtain rfl : j = sn := by omega
          go_wp2_with fail
          go_ret
          refine ⟨ret1 (int_eq ?_), HB0.out.trans (HBQ.out.mono HB0.out.size)⟩
          have := HG.out
          rw [HSN.out, List.drop_length] at this
          rw [← this]; rfl
set_option maxRecDepth 100000 in
set_option maxHeartbeats 4000000 in
theorem law14_Size_zero {w : World} {va ua : Option Addr} {n1 vc n2 uc : Nat} :
    Calls Tryz.prog 25 #[.agg #[.slice va n1 vc, .slice ua n2 uc], .int .i64 (-1)] w fun e w' => e = .returned (.int .i64 5000) ∧ Below w.heap.size w w' := by
  go_enter Tryz.func25, Tryz.ntmps25
  go_wp2_with fail
  go_ret
  exact ⟨rfl, (Below.refl _ _).alloc (Nat.le_refl _) _⟩
set_option maxRecDepth 100000 in
set_option maxHeartbeats 4000000 in
theorem law14_Size : ∀ (k d : Nat), k ≤ 1000 → SizeOk k d := by
  intro k
  induction k with
  | zero =>
    intro d _ w v x h _
    cases d with
    | zero => exact h.elim
    | succ d =>
      obtain ⟨vv, uv, rfl, hV, hU⟩ := h
      obtain ⟨-, va, vc, rfl, -, -⟩ := hV.open
      obtain ⟨-, ua, uc, rfl, -, -⟩ := hU.open
      exact law14_Size_zero.mono fun e w' h => h
  | succ k ihk =>
    intro d hk w v x h hw
    cases d with
    | zero => exact h.elim
    | succ d =>
    have ih : ∀ (w : World) (v : Value) (x : Val (M d)), ValAt (MsgAt d) w v x → vwt (mwt d) x ≤ 1099511627776 →
        Calls Tryz.prog 52 #[v, .int .i64 k] w fun e w' => e = .returned (.int .i64 (szV (szM k d) x)) ∧ Below w.heap.size w w' := fun _ _ _ h => law14_SizeValue_of (ihk d (by omega)) (by omega) h
    obtain ⟨vv, uv, rfl, hS, hT⟩ := h
    obtain ⟨htl, ta, tc, rfl, -, hta⟩ := hT.open
    obtain ⟨hsl, sa, sc, rfl, -, hsa⟩ := hS.open
    obtain ⟨tn, HTN⟩ : ∃ n, Hid (n = (M.unk x).length) := ⟨_, rfl⟩
    obtain ⟨sn, HSN⟩ : ∃ n, Hid (n = (M.vals x).length) := ⟨_, rfl⟩
    have HV : Hid (1 + twt (M.unk x) + ((M.vals x).map (vwt (mwt d))).sum ≤ 1099511627776) := hw
    rw [← HTN.out] at htl ⊢
    rw [← HSN.out] at hsl ⊢
    have HTA := hid hta
    have HSA := hid hsa
    have HIH := hid ih
    clear hta hsa ih hT hS hw ihk
    show Calls _ _ #[_, .int .i64 (((k + 1 : Nat) : Int) - 1)] _ fun e w' => e = .returned (.int .i64 (szGo (szV (szM k d)) (M.vals x) (1 + twt (M.unk x)) : Nat)) ∧ _
    rw [show ((k + 1 : Nat) : Int) - 1 = (k : Int) by omega]
    obtain ⟨us, HUS⟩ : ∃ us, Hid (us = M.unk x) := ⟨_, rfl⟩
    obtain ⟨vs, HVS⟩ : ∃ vs, Hid (vs = M.vals x) := ⟨_, rfl⟩
    rw [← HUS.out] at HTN HV HTA ⊢
    rw [← HVS.out] at HSN HV HSA ⊢
    clear HUS HVS
    clear x
    go_enter Tryz.func25, Tryz.ntmps25
    go_wp2_with fail
    obtain ⟨W0, HW0⟩ : ∃ W0, Hid (W0 = w.alloc (.cells #[.slice sa sn sc, .slice ta tn tc] 27)) := ⟨_, rfl⟩
    rw [← HW0.out]
    have hB0 : Below w.heap.size w W0 := by rw [HW0.out]; exact (Below.refl _ _).alloc (Nat.le_refl _) _
    have hsz0 : w.heap.size < W0.heap.size := by rw [HW0.out]; simp
    have hc2 : W0.cell? ⟨w.heap.size, 1, none⟩ = some (.slice ta tn tc) := by rw [HW0.out]; simp [go_sem]
    have hc3 : W0.cell? ⟨w.heap.size, 0, none⟩ = some (.slice sa sn sc) := by rw [HW0.out]; simp [go_sem]
    have HB0 := hid hB0
    have HC3 := hid hc3
    clear hB0 hc3
    go_loopw [5, 6] (fun v5 v6 wr => ∃ (z i : Nat), v5 = .int .i64 z ∧ i ≤ tn ∧ z ≤ 1099511627776 ∧ v6 = .int .i64 i ∧ Hid (z = 1 + twt (us.take i)) ∧ wr = W0) (fun _ v6 _ => tn - (intOf v6).toNat)
    case atStart => exact ⟨1, 0, rfl, by omega, by omega, rfl, by simp [Hid, twt], rfl⟩
    case round =>
      obtain ⟨z, i, rfl, hi, hz, rfl, HZ, hwr⟩ := hrel
      have hwr' := hwr.symm
      subst hwr'
      by_cases hlt : i < tn
      · have hti : us[i]? = some (us[i]'(by rw [← HTN.out]; exact hlt)) := List.getElem?_eq_getElem _
        generalize us[i]'(by rw [← HTN.out]; exact hlt) = t at hti
        have hta := HTA.out
        obtain ⟨ht1, b, o, ha, g0⟩ := hta i t hti
        clear hta
        have HST : Hid (z + 1 + t.length = 1 + twt (us.take (i + 1)) ∧ z + 1 + t.length ≤ 1099511627776) := by
          have h1 := twt_take _ _ _ hti
          have h2 := twt_take_le us (i + 1)
          have h3 := HV.out
          have h4 := HZ.out
          refine ⟨by omega, by omega⟩
        have hsb : (⟨t.toArray⟩ : ByteArray).size = t.length := by simp [ByteArray.size]
        unfold strV at g0
        generalize (⟨t.toArray⟩ : ByteArray) = bt at *
        generalize t.length = tl at *
        have hix := index_run1 Tryz.underlying25 size_str ha i hlt (cap := tc)
        replace g0 := below_keeps HB0.out _ _ g0
        clear ha hti
        go_wp2_with fail
        go_roundw
        case rel => exact ⟨z + 1 + tl, i + 1, by first | go_num | (rw [hsb]; go_num), hlt, HST.out.2, by go_num, HST.out.1, by first | trivial | rfl⟩
        case measure => simp [intOf]; omega
      · obtain rfl : i = tn := by omega
        have HZ2 : Hid (z = 1 + twt us) := by
          have := HZ.out
          rwa [HTN.out, List.take_length] at this
        go_wp2_with fail
        clear hc2
        go_loopw [5, 7] (fun v5 v7 wq => ∃ (y j : Nat), v5 = .int .i64 y ∧ j ≤ sn ∧ y ≤ 1099511627776 ∧ v7 = .int .i64 j ∧ Hid (szGo (szV (szM k d)) (vs.drop j) y = szGo (szV (szM k d)) vs (1 + twt us)) ∧ Hid (Below W0.heap.size W0 wq)) (fun _ v7 _ => sn - (intOf v7).toNat)
        case atStart =>
          refine ⟨z, 0, rfl, by omega, hz, rfl, ?_, Below.refl _ _⟩
          rw [Hid, List.drop_zero, HZ2.out]
        case round =>
          obtain ⟨y, j, rfl, hj, hy, rfl, HG, HBQ⟩ := hrel
          have c3 := below_keeps HBQ.out _ _ HC3.out
          have hbl3 : w.heap.size < wr.heap.size := World.block_lt_of_cell? wr _ c3
          by_cases hls : j < sn
          · have hmi : vs[j]? = some (vs[j]'(by rw [← HSN.out]; exact hls)) := List.getElem?_eq_getElem _
            generalize vs[j]'(by rw [← HSN.out]; exact hls) = m at hmi
            have hsa := HSA.out
            obtain ⟨b, o, v1, v2, v3, ha, g0, g1, g2, g3, hM⟩ := hsa j m hmi
            clear hsa
            have hBq : Below w.heap.size w wr := HB0.out.trans (HBQ.out.mono HB0.out.size)
            have hkr := below_keeps hBq
            replace g0 := hkr _ _ g0
            replace g1 := hkr _ _ g1
            replace g2 := hkr _ _ g2
            replace g3 := hkr _ _ g3
            have HMM := hid (VMsg.below hM hBq)
            have HMB : Hid (vwt (mwt d) m ≤ 1099511627776) := by
              have h1 := mem_sum_le (vwt (mwt d)) vs m (List.mem_of_getElem? hmi)
              have h2 := HV.out
              show _ ≤ _; omega
            have HGO : Hid (szGo (szV (szM k d)) vs (1 + twt us) = if 5000 ≤ y + szV (szM k d) m then 5000 else szGo (szV (szM k d)) (vs.drop (j + 1)) (y + szV (szM k d) m)) := by
              rw [Hid, ← HG.out, szGo_at _ _ _ _ _ hmi]
            have hs : szV (szM k d) m ≤ 5000 + 1099511627776 := Nat.le_trans (szV_le (szM k d) (mwt d) m) (by have := HMB.out; omega)
            have hix := index_run Tryz.underlying24 size_val ha j hls (cap := sc)
            have hbl : b < wr.heap.size := World.block_lt_of_cell? wr _ g0
            clear ha hkr hM hBq hmi HG
            generalize m.num = num at *
            go_wp2_with fail
            refine (HIH.out _ _ _ HMM.out HMB.out).mono ?_
            rintro e w3 ⟨rfl, hb3⟩
            generalize szV (szM k d) m = s at *
            have HB3 : Hid (Below W0.heap.size W0 w3) := HBQ.out.trans (hb3.mono HBQ.out.size)
            by_cases h5 : 5000 ≤ y + s
            · go_wp2_with fail
              go_ret
              refine ⟨ret1 (int_eq ?_), HB0.out.trans (HB3.out.mono HB0.out.size)⟩
              rw [HGO.out, if_pos h5]
              rfl
            · go_wp2_with fail
              go_roundw
              case rel =>
                refine ⟨y + s, j + 1, by go_num, hls, by omega, by go_num, ?_, HB3⟩
                rw [Hid, HGO.out, if_neg h5]
              case measure => simp [intOf]; omega
          · obtain rfl : j = sn := by omega
            go_wp2_with fail
            go_ret
            refine ⟨ret1 (int_eq ?_), HB0.out.trans (HBQ.out.mono HB0.out.size)⟩
            have := HG.out
            rw [HSN.out, List.drop_length] at this
            rw [← this]; rfl
end Go.Proofs.YtaefpjecalnbcaaGreat
namespace Go.Proofs.YtaefpjecalnbcaaGreat
open Go.RowKit Go.Shelf
def OfOk (w0 : World) (d : Nat) : Prop := ∀ (w : World) (v : Value) (x : M d), MsgAt d w0 v x → Below w0.heap.size w0 w → mwt d x ≤ 1099511627776 →
  Calls Tryz.prog 10 #[v] w fun e w' => ∃ v', e = .returned v' ∧ Below w.heap.size w w' ∧ Apart w0.heap.size w.heap.size w' fun w2 => MsgAt d w2 v' x
def SubP (d : Nat) (w : World) (r : List Value) (x : M d) : Prop := MsgAt d w (.agg r.toArray) x
def ValP' (d : Nat) (w : World) (r : List Value) (x : Val (M d)) : Prop := ValAt (MsgAt d) w (.agg r.toArray) x
theorem info_rmsg : (Tryz.prog.info? 35).map (fun i => (i.zero, i.size, i.bytes)) = some (some (.agg #[.slice none 0 0, .slice none 0 0]), 2, 48) := by kernel_rfl
theorem info_rval : (Tryz.prog.info? 71).map (fun i => (i.zero, i.size, i.bytes)) = some (some (.agg #[.int .i64 0, .slice none 0 0, .slice none 0 0, .slice none 0 0]), 4, 80) := by kernel_rfl
theorem keep_apart {n base : Nat} {w0 w' w2 : World} (hn : n = w0.heap.size) (hb : Below n w0 w') (h : ∀ b, b < w'.heap.size → (b < n ∨ base ≤ b) → w2.heap[b]? = w'.heap[b]?) : ∀ p u, w0.cell? p = some u → w2.cell? p = some u := by
  intro p u hu
  have hp : p.block < w0.heap.size := World.block_lt_of_cell? w0 p hu
  have h1 := hb.size
  rw [World.cell?_of_block (h p.block (by omega) (.inl (by omega))), World.cell?_of_block (hb.block p.block (by omega))]
  exact hu
theorem news3 (w : World) (c1 c2 c3 : List Value) (T1 T2 T3 : TypeId) :
    Blk (((w.alloc (.cells c1.toArray T1)).alloc (.cells c2.toArray T2)).alloc (.cells c3.toArray T3)) w.heap.size c1 T1 ∧
    Blk (((w.alloc (.cells c1.toArray T1)).alloc (.cells c2.toArray T2)).alloc (.cells c3.toArray T3)) (w.heap.size + 1) c2 T2 ∧
    Blk (((w.alloc (.cells c1.toArray T1)).alloc (.cells c2.toArray T2)).alloc (.cells c3.toArray T3)) (w.heap.size + 1 + 1) c3 T3 ∧
    (((w.alloc (.cells c1.toArray T1)).alloc (.cells c2.toArray T2)).alloc (.cells c3.toArray T3)).heap.size = w.heap.size + 1 + 1 + 1 ∧
    Below w.heap.size w (((w.alloc (.cells c1.toArray T1)).alloc (.cells c2.toArray T2)).alloc (.cells c3.toArray T3)) := by
  have e : ∀ (w : World) (o : Obj), (w.alloc o).heap.size = w.heap.size + 1 := fun w o => by simp
  refine ⟨((Blk.new w c1 T1).alloc _).alloc _, ?_, ?_, by rw [e, e, e], (((Below.refl _ _).alloc (Nat.le_refl _) _).alloc (by rw [e]; omega) _).alloc (by rw [e, e]; omega) _⟩
  · have := (Blk.new (w.alloc (.cells c1.toArray T1)) c2 T2).alloc (.cells c3.toArray T3)
    rw [e] at this
    exact this
  · have := Blk.new ((w.alloc (.cells c1.toArray T1)).alloc (.cells c2.toArray T2)) c3 T3
    rw [e, e] at this
    exact this
theorem MsgAt.form : ∀ {d : Nat} {w : World} {v : Value} {x : M d}, MsgAt d w v x → ∃ a1 n1 c1 a2 n2 c2, v = .agg #[.slice a1 n1 c1, .slice a2 n2 c2]
  | 0, _, _, _, h => h.elim
  | d + 1, _, _, _, h => by
    obtain ⟨vv, uv, rfl, hV, hU⟩ := h
    obtain ⟨-, va, vc, rfl, -, -⟩ := hV.open
    obtain ⟨-, ua, uc, rfl, -, -⟩ := hU.open
    exact ⟨_, _, _, _, _, _, rfl⟩
theorem mwt_pos : ∀ {d : Nat} (x : M d), 1 ≤ mwt d x
  | 0, x => x.elim
  | d + 1, x => by show 1 ≤ 1 + _ + _; omega
theorem sub_count {d' : Nat} : ∀ (l : List (M d')) (d : Nat), d = d' → l.length ≤ (l.map (mwt d')).sum
  | [], _, _ => by simp
  | x :: t, d, h => by
    have := sub_count t d h
    have := mwt_pos x
    rw [List.map_cons, List.sum_cons, List.length_cons]
    omega
set_option maxRecDepth 100000 in
set_option maxHeartbeats 4000000 in
theorem law14_OfValue_of {w0 : World} {d : Nat} (ih : OfOk w0 d) {w : World} {v : Value} {x : Val (M d)} (h : ValAt (MsgAt d) w0 v x) (hb : Below w0.heap.size w0 w) (hw : vwt (mwt d) x ≤ 1099511627776) :
    Calls Tryz.prog 26 #[v] w fun e w' => ∃ v', e = .returned v' ∧ Below w.heap.size w w' ∧ Apart w0.heap.size w.heap.size w' fun w2 => ValAt (MsgAt d) w2 v' x := by
  obtain ⟨wv, tv, sv, rfl, hnum, hW, hT, hS⟩ := h
  have HFIN : Hid (∀ w2, (∀ p u, w0.cell? p = some u → w2.cell? p = some u) → ∀ so, SubsAt (MsgAt d) w2 so x.subs → ValAt (MsgAt d) w2 (.agg #[.int .i64 x.num, wv, tv, so]) x) :=
    fun w2 hk so hso => ⟨wv, tv, so, rfl, hnum, hW.keep hk, hT.keep hk, hso⟩
  obtain ⟨hwl, wa, wc, rfl, -, -⟩ := hW.open
  obtain ⟨htl, ta, tc, rfl, -, -⟩ := hT.open
  obtain ⟨hsl, sa, sc, rfl, -, hsa⟩ := hS.open
  have HW := hid hw
  have HSA := hid hsa
  unfold OfOk at ih
  have HIH := hid ih
  have HB := hid hb
  generalize x.words.length = wn at *
  generalize x.texts.length = tn at *
  obtain ⟨sn, HSN⟩ : ∃ n, Hid (n = x.subs.length) := ⟨_, rfl⟩
  rw [← HSN.out] at hsl ⊢
  generalize x.num = num at *
  clear hsa ih hW hT hS hw hb
  go_enter Tryz.func26, Tryz.ntmps26
  go_wp2_with fail
  obtain ⟨B, HBB⟩ : ∃ B, Hid (B = w.heap.size) := ⟨_, rfl⟩
  have h3 := news3 w [.int .i64 num, .slice wa wn wc, .slice ta tn tc, .slice sa sn sc] [.int .i64 0, .slice none 0 0, .slice none 0 0, .slice none 0 0] [.int .i64 num, .slice wa wn wc, .slice ta tn tc, .slice none 0 0] 67 71 71
  generalize hW1 : ((w.alloc (.cells #[.int .i64 num, .slice wa wn wc, .slice ta tn tc, .slice sa sn sc] 67)).alloc (.cells #[.int .i64 0, .slice none 0 0, .slice none 0 0, .slice none 0 0] 71)).alloc (.cells #[.int .i64 num, .slice wa wn wc, .slice ta tn tc, .slice none 0 0] 71) = W1 at h3 ⊢
  clear hW1
  rw [← HBB.out] at h3 ⊢
  obtain ⟨hx1, hr1, ho1, hz1, hb1⟩ := h3
  have HX1 := hid hx1
  have HR1 := hid hr1
  have HO1 := hid ho1
  have HZ1 := hid hz1
  have HB1 := hid hb1
  clear hx1 hr1 ho1 hz1 hb1
  have HN0 : Hid (w0.heap.size ≤ B) := by rw [HBB.out]; exact HB.out.size
  have HBB0 : Hid (Below w0.heap.size w0 w) := HB
  go_loopw [4] (fun v4 wr => ∃ (i : Nat) (oa : Option Addr) (oc : Nat), v4 = .int .i64 i ∧ i ≤ sn ∧ Hid (Below B w wr ∧ B + 1 + 1 < wr.heap.size ∧ Blk wr B [.int .i64 num, .slice wa wn wc, .slice ta tn tc, .slice sa sn sc] 67 ∧ Blk wr (B + 1) [.int .i64 0, .slice none 0 0, .slice none 0 0, .slice none 0 0] 71 ∧ Blk wr (B + 1 + 1) [.int .i64 num, .slice wa wn wc, .slice ta tn tc, .slice oa i oc] 71 ∧ RowsOwn (SubP d) 35 2 w0.heap.size (B + 1 + 1 + 1) wr (.slice oa i oc) (x.subs.take i))) (fun v4 _ => sn - (intOf v4).toNat)
  case atStart =>
    exact ⟨0, none, 0, rfl, by omega, HB1.out, by rw [HZ1.out]; omega, HX1.out, HR1.out, HO1.out, RowsOwn.nil _ _ _ _ _ _⟩
  case round =>
    obtain ⟨i, oa, oc, rfl, hi, HI⟩ := hrel
    have c1 := HI.out.2.2.1.cell 3 _ rfl
    have hbl1 : B < wr.heap.size := HI.out.2.2.1.lt
    by_cases hlt : i < sn
    · have hmi : x.subs[i]? = some (x.subs[i]'(by rw [← HSN.out]; exact hlt)) := List.getElem?_eq_getElem _
      generalize x.subs[i]'(by rw [← HSN.out]; exact hlt) = m at hmi
      have hsa := HSA.out
      obtain ⟨b, o, v1, v2, ha, g0, g1, hM⟩ := hsa i m hmi
      clear hsa
      have hb0 : Below w0.heap.size w0 wr := HB.out.trans (HI.out.1.mono HN0.out)
      have hBne : B + 1 + 1 ≠ B := by omega
      have HBL0 : Hid (b < B) := Nat.lt_of_lt_of_le (World.block_lt_of_cell? w0 _ g0) HN0.out
      have hkr := below_keeps hb0
      replace g0 := hkr _ _ g0
      replace g1 := hkr _ _ g1
      have HM := hid hM
      have HB0 := hid hb0
      have HMB : Hid (mwt d m ≤ 1099511627776) := by
        have h1 := mem_sum_le (mwt d) x.subs m (List.mem_of_getElem? hmi)
        have h2 := HW.out
        unfold vwt at h2
        show _ ≤ _; omega
      have hix := index_run Tryz.underlying65 size_msg ha i hlt (cap := sc)
      have hbl : b < wr.heap.size := World.block_lt_of_cell? wr _ g0
      have c2 := HI.out.2.2.2.2.1.cell 3 _ rfl
      have hfz := HI.out.2.2.2.2.1.free 3
      have hbl2 := HI.out.2.1
      have hbne : B + 1 + 1 ≠ b := by have := HBL0.out; omega
      clear ha hkr hM hb0
      have e0 : wr.drew.cell? ⟨B + 1 + 1, 3, none⟩ = some (.slice oa i oc) := c2
      have HC0 : Hid (wr.drew.cell? ⟨B, 3, none⟩ = some (.slice sa sn sc) ∧ wr.drew.cell? ⟨b, o + i * 2, none⟩ = some v1 ∧ wr.drew.cell? ⟨b, o + i * 2 + 1, none⟩ = some v2) := ⟨c1, g0, g1⟩
      have k0 := HC0.out
      have HN3 : Hid (w0.heap.size ≤ B + 1 + 1 + 1) := by have := HN0.out; show _ ≤ _; omega
      have HTL : Hid ((x.subs.take i).length = i) := by rw [Hid, List.length_take, ← HSN.out]; omega
      have HLI : Hid (i ≤ 1099511627776) := by
        have h1 := sub_count x.subs d rfl
        have h2 := HW.out
        unfold vwt at h2
        rw [← HSN.out] at h1
        show _ ≤ _; omega
      go_wp2_with fail
      have HTA : Hid (x.subs.take (i + 1) = x.subs.take i ++ [m]) := by rw [Hid, List.take_add_one, hmi]; rfl
      have HQ : Hid (∀ (w5 : World) (a5 : Option Addr) (c5 : Nat), Below (B + 1 + 1 + 1) wr w5 → RowsOwn (SubP d) 35 2 w0.heap.size (B + 1 + 1 + 1) w5 (.slice a5 (i + 1) c5) (x.subs.take i ++ [m]) →
          ∀ w6, w6 = w5.setCell ⟨B + 1 + 1, 3, none⟩ (.slice a5 (i + 1) c5) → (Below B w w6 ∧ B + 1 + 1 < w6.heap.size ∧ Blk w6 B [.int .i64 num, .slice wa wn wc, .slice ta tn tc, .slice sa sn sc] 67 ∧ Blk w6 (B + 1) [.int .i64 0, .slice none 0 0, .slice none 0 0, .slice none 0 0] 71 ∧ Blk w6 (B + 1 + 1) [.int .i64 num, .slice wa wn wc, .slice ta tn tc, .slice a5 (i + 1) c5] 71 ∧ RowsOwn (SubP d) 35 2 w0.heap.size (B + 1 + 1 + 1) w6 (.slice a5 (i + 1) c5) (x.subs.take (i + 1)))) := by
        rintro w5 a5 c5 h1 h2 w6 rfl
        refine ⟨(HI.out.1.trans (h1.mono (by omega))).setCell (by show B ≤ B + 1 + 1; omega) _, by have := h1.size; simp; omega, ?_, ?_, ?_, ?_⟩
        · exact Blk.set_other ((h1.block B (by omega)).trans HI.out.2.2.1) _ _ (by show B ≠ B + 1 + 1; omega)
        · exact Blk.set_other ((h1.block (B + 1) (by omega)).trans HI.out.2.2.2.1) _ _ (by show B + 1 ≠ B + 1 + 1; omega)
        · exact Blk.set ((h1.block (B + 1 + 1) (by omega)).trans HI.out.2.2.2.2.1) 3 _
        · rw [HTA.out]
          refine h2.later (fun b' _ hc => Below.heap_setCell w5 _ _ b' ?_) (by simp)
          show b' ≠ B + 1 + 1
          have := HN0.out
          omega
      have k01 := k0.1
      have k02 := k0.2.1
      have k03 := k0.2.2
      go_region_law (first | (go_simp; go_at_call 10; (with_reducible refine (HIH.out wr.drew _ m HM.out HB0.out.drew HMB.out).mono ?_); rintro e w1 ⟨vm, rfl, hbm, hap⟩; obtain ⟨a1, n1, cc1, a2, n2, cc2, rfl⟩ := hap.here.form; have hk1 : ∀ p u, wr.drew.cell? p = some u → w1.cell? p = some u := below_keeps hbm; have e1 : w1.cell? ⟨B + 1 + 1, 3, none⟩ = some (.slice oa i oc) := hk1 _ _ e0; have k1 : w1.cell? ⟨B, 3, none⟩ = some (.slice sa sn sc) ∧ w1.cell? ⟨b, o + i * 2, none⟩ = some v1 ∧ w1.cell? ⟨b, o + i * 2 + 1, none⟩ = some v2 := ⟨hk1 _ _ k0.1, hk1 _ _ k0.2.1, hk1 _ _ k0.2.2⟩; obtain ⟨a5, c5, w5, hr5, hO5, hB4, hB5⟩ := RowsOwn.step HI.out.2.2.2.2.2 ((Below.refl wr.heap.size wr).drew.trans hbm) (by decide) HN3.out HI.out.2.1 HTL.out 43 _ 48 Tryz.underlying43 info_rmsg rfl #[.slice a1 n1 cc1, .slice a2 n2 cc2] rfl (by intro u hu; simp at hu; rcases hu with rfl | rfl <;> rfl) m hap HLI.out (by decide); have e5 : w5.cell? ⟨B + 1 + 1, 3, none⟩ = some (.slice oa i oc) := (hB5.cell (p := ⟨B + 1 + 1, 3, none⟩) (by show B + 1 + 1 < B + 1 + 1 + 1; omega)).trans c2; have k3 : w5.cell? ⟨B, 3, none⟩ = some (.slice sa sn sc) ∧ w5.cell? ⟨b, o + i * 2, none⟩ = some v1 ∧ w5.cell? ⟨b, o + i * 2 + 1, none⟩ = some v2 := ⟨(hB5.cell (p := ⟨B, 3, none⟩) (by show B < B + 1 + 1 + 1; omega)).trans c1, (hB5.cell (p := ⟨b, o + i * 2, none⟩) (by show b < B + 1 + 1 + 1; have := HBL0.out; omega)).trans g0, (hB5.cell (p := ⟨b, o + i * 2 + 1, none⟩) (by show b < B + 1 + 1 + 1; have := HBL0.out; omega)).trans g1⟩; have z3 : w5.frozen? ⟨B + 1 + 1, 3, none⟩ = false := (hB5.frozen (p := ⟨B + 1 + 1, 3, none⟩) (by show B + 1 + 1 < B + 1 + 1 + 1; omega)).trans hfz; have e4 := (hB4.cell (p := ⟨B + 1 + 1, 3, none⟩) (by show B + 1 + 1 < B + 1 + 1 + 1; omega)).trans c2; have HR2 := hid hr5; have HO5 := hid hO5; have HB4 := hid hB4; have HB5 := hid hB5; clear hr5 hO5 hB4 hB5 hk1) | (refine step_append_eq rfl (.tmp 20) (.tmp 27) _ rfl _ _ rfl rfl HR2.out ?_))
      all_goals
        go_wp2_with fail
        go_roundw
        case rel => exact ⟨i + 1, _, _, by go_num, hlt, HQ.out _ _ _ HB5.out HO5.out _ rfl⟩
        case measure => simp [intOf]; omega
    · obtain rfl : i = sn := by omega
      have hO := HI.out.2.2.2.2.1
      have hR := HI.out.2.2.2.1
      have b0 := hO.cell 0 _ rfl
      have b1 := hO.cell 1 _ rfl
      have b2 := hO.cell 2 _ rfl
      have b3 := hO.cell 3 _ rfl
      have r0 := hR.cell 0 _ rfl
      have r1 := hR.cell 1 _ rfl
      have r2 := hR.cell 2 _ rfl
      have r3 := hR.cell 3 _ rfl
      have f0 := hR.free 0
      have f1 := hR.free 1
      have f2 := hR.free 2
      have f3 := hR.free 3
      have hlr := hR.lt
      have hlo := hO.lt
      have HLO := hid hlo
      clear hO hR
      go_wp2_with fail
      refine bodyPost_ret (v := .agg #[.int .i64 num, .slice wa wn wc, .slice ta tn tc, .slice oa i oc]) ?_ rfl ⟨_, rfl, ?_, ?_⟩
      · simp [results, Tryz.results26, go_sem, r0, r1, r2, r3]
      · have hBw : w.heap.size ≤ B + 1 := by rw [← HBB.out]; omega
        (repeat (first | with_reducible exact Below.refl _ _ | with_reducible refine Below.setCell ?_ (by first | omega | (simp; omega) | (simp; done)) _ | with_reducible refine Below.alloc ?_ (by first | omega | (simp; omega) | (simp; done)) _ | with_reducible refine below_drewN ?_ _ | with_reducible refine Below.drew ?_))
        rw [← HBB.out]
        exact HI.out.1
      · intro w2 hw2
        have hag : ∀ b', b' < wr.heap.size → (b' < w0.heap.size ∨ B + 1 + 1 + 1 ≤ b') → w2.heap[b']? = wr.heap[b']? := by
          intro b' hlt' hc
          have hne : b' ≠ B + 1 := by have := HN0.out; omega
          refine (hw2 b' (by simpa using hlt') (hc.imp id fun h => by rw [← HBB.out]; omega)).trans ?_
          rw [Below.heap_setCell _ _ _ b' hne, Below.heap_setCell _ _ _ b' hne, Below.heap_setCell _ _ _ b' hne, Below.heap_setCell _ _ _ b' hne]
        have hsub := HI.out.2.2.2.2.2.at (by rw [List.length_take]; omega) hag
        rw [HSN.out, List.take_length] at hsub
        refine HFIN.out w2 (keep_apart rfl (HBB0.out.trans (HI.out.1.mono HN0.out)) hag) _ ?_
        rw [HSN.out]
        exact hsub
end Go.Proofs.YtaefpjecalnbcaaGreat
namespace Go.Proofs.YtaefpjecalnbcaaGreat
open Go.RowKit Go.Shelf
theorem info_str : (Tryz.prog.info? 9).map (fun i => (i.zero, i.size, i.bytes)) = some (some (.string ⟨#[]⟩), 1, 16) := by kernel_rfl
theorem under_strs : Tryz.prog.underlying 25 = some (.slice 9) := Tryz.underlying25
theorem strs_copied {w : World} {base g : Nat} {v : Value} {l : List (List UInt8)} (h : StrsAt w v l) (hl : l.length ≤ 1099511627776) (hg : g = w.heap.size) (hb : base ≤ w.heap.size) :
    ∃ a c w', (Builtin.append_ #[25, 25] 25 #[.slice (some ⟨g, 0, none⟩) 0 0, v]).run Tryz.prog (w.alloc (.cells #[] 9)) = .ok (.slice a l.length c) w' ∧
      Below w.heap.size w w' ∧ w.heap.size < w'.heap.size ∧ ∀ w2, (∀ b, b < w'.heap.size → base ≤ b → w2.heap[b]? = w'.heap[b]?) → StrsAt w2 (.slice a l.length c) l := by
  subst hg
  have h0 : World.ownsRow (w.alloc (.cells #[] 9)) w.heap.size 9 1 (.slice (some ⟨w.heap.size, 0, none⟩) 0 0) 0 [] := by
    refine ⟨rfl, .inr ⟨w.heap.size, 0, #[], rfl, Nat.le_refl _, heap_alloc_new w _, Nat.le_refl _, by unfold maxLen; omega, rfl, rfl⟩⟩
  have hseg : Seg (w.alloc (.cells #[] 9)) v 1 l.length (l.map strV) := h.1.keep (below_keeps ((Below.refl _ _).alloc (Nat.le_refl _) _))
  obtain ⟨v', w', hr, hO, hg, hat⟩ := seg_append (P := Tryz.prog) (w.alloc (.cells #[] 9)) w.heap.size 25 25 9 (.string ⟨#[]⟩) 1 16 under_strs info_str rfl (by decide) _ v 0 l.length [] _ h0 hseg
    (by intro u hu; obtain ⟨t, -, rfl⟩ := List.mem_map.1 hu; rfl) (by omega) (by omega) (by simp)
  rw [Nat.zero_add, List.nil_append] at hO
  have hv' : ∃ a c, v' = .slice a l.length c := by
    rcases hO.2 with ⟨rfl, e⟩ | ⟨g, cap, cur, rfl, -⟩
    · exact ⟨none, 0, by rw [e]⟩
    · exact ⟨_, _, rfl⟩
  obtain ⟨a, c, rfl⟩ := hv'
  have hB1 : Below w.heap.size w (w.alloc (.cells #[] 9)) := (Below.refl _ _).alloc (Nat.le_refl _) _
  refine ⟨a, c, w', hr, hB1.grown hg hB1.size (fun q e => by simp [Value.ownBlock] at e; omega), by have := hg.size; simp at this; omega, fun w2 hw2 => ⟨?_, h.2⟩⟩
  exact row_seg (row_keep hO fun b cur hb' he => hw2 b (Array.getElem?_eq_some_iff.1 he).1 (Nat.le_trans hb hb')) (by omega)
theorem ValAt.form {d : Nat} {w : World} {v : Value} {x : Val (M d)} (h : ValAt (MsgAt d) w v x) : ∃ m a1 n1 c1 a2 n2 c2 a3 n3 c3, v = .agg #[.int .i64 m, .slice a1 n1 c1, .slice a2 n2 c2, .slice a3 n3 c3] := by
  obtain ⟨wv, tv, sv, rfl, -, hW, hT, hS⟩ := h
  obtain ⟨-, wa, wc, rfl, -, -⟩ := hW.open
  obtain ⟨-, ta, tc, rfl, -, -⟩ := hT.open
  obtain ⟨-, sa, sc, rfl, -, -⟩ := hS.open
  exact ⟨_, _, _, _, _, _, _, _, _, _, rfl⟩
def OfVOk (w0 : World) (d : Nat) : Prop := ∀ (w : World) (v : Value) (x : Val (M d)), ValAt (MsgAt d) w0 v x → Below w0.heap.size w0 w → vwt (mwt d) x ≤ 1099511627776 →
  Calls Tryz.prog 26 #[v] w fun e w' => ∃ v', e = .returned v' ∧ Below w.heap.size w w' ∧ Apart w0.heap.size w.heap.size w' fun w2 => ValAt (MsgAt d) w2 v' x
theorem unk_len {d : Nat} (x : M (d + 1)) (h : mwt (d + 1) x ≤ 1099511627776) : (M.unk x).length ≤ 1099511627776 ∧ (M.vals x).length ≤ 1099511627776 := by
  have h1 : ∀ l : List (List UInt8), l.length ≤ twt l := fun l => by
    induction l with
    | nil => simp
    | cons t l ih => unfold twt at *; simp; omega
  have h2 : ∀ l : List (Val (M d)), l.length ≤ (l.map (vwt (mwt d))).sum := fun l => by
    induction l with
    | nil => simp
    | cons t l ih =>
      have : 1 ≤ vwt (mwt d) t := by unfold vwt; omega
      simp; omega
  have h3 : 1 + twt (M.unk x) + ((M.vals x).map (vwt (mwt d))).sum ≤ 1099511627776 := h
  have := h1 (M.unk x)
  have := h2 (M.vals x)
  omega
set_option maxRecDepth 100000 in
set_option maxHeartbeats 4000000 in
theorem law14_Of_of {w0 : World} {d : Nat} (ih : OfVOk w0 d) : OfOk w0 (d + 1) := by
  intro w v x h hb hw
  obtain ⟨vv, uv, rfl, hV, hU⟩ := h
  have hul := unk_len x hw
  have hlt0 := hb.size
  have hkr := below_keeps hb
  obtain ⟨hvl, va, vc, rfl, -, hva⟩ := hV.open
  obtain ⟨hul2, ua, uc, huv, -, -⟩ := hU.open
  obtain ⟨vn, HVN⟩ : ∃ n, Hid (n = (M.vals x).length) := ⟨_, rfl⟩
  rw [← HVN.out] at hvl ⊢
  have h2 : StrsAt ((w.alloc (.cells #[.slice va vn vc, uv] 27)).alloc (.cells #[.slice none 0 0, .slice none 0 0] 35)) uv (M.unk x) :=
    (hU.keep hkr).keep (below_keeps (((Below.refl w.heap.size w).alloc (Nat.le_refl _) _).alloc (by simp) _))
  obtain ⟨a3, c3, w3, hr3, hb3, hs3, hU3⟩ := strs_copied h2 hul.1 (g := w.heap.size + 1 + 1) (base := w.heap.size + 1 + 1) (by simp) (by simp)
  have hb3' := (((Below.refl w.heap.size w).alloc (Nat.le_refl _) (.cells #[.slice va vn vc, uv] 27)).alloc (by simp) (.cells #[.slice none 0 0, .slice none 0 0] 35)).trans (hb3.mono (by simp; omega))
  have hx3 : Blk w3 w.heap.size [.slice va vn vc, uv] 27 := ((hb3.block w.heap.size (by simp; omega)).trans ((Blk.new w _ _).alloc _))
  have hr3' : Blk w3 (w.heap.size + 1) [.slice none 0 0, .slice none 0 0] 35 := by
    refine (hb3.block (w.heap.size + 1) (by simp)).trans ?_
    have := Blk.new (w.alloc (.cells #[.slice va vn vc, uv] 27)) [.slice none 0 0, .slice none 0 0] 35
    rw [show (w.alloc (.cells #[.slice va vn vc, uv] 27)).heap.size = w.heap.size + 1 by simp] at this
    exact this
  have hs3' : w.heap.size + 1 + 1 < w3.heap.size := by simpa using hs3
  subst huv
  have HR3 := hid hr3
  have HB3 := hid hb3'
  have HX3 := hid hx3
  have HZ3 := hid hr3'
  have HU3 := hid hU3
  have HW := hid hw
  have HVA := hid hva
  unfold OfVOk at ih
  have HIH := hid ih
  have HB := hid hb
  obtain ⟨un, HUN⟩ : ∃ n, Hid (n = (M.unk x).length) := ⟨_, rfl⟩
  rw [← HUN.out] at HR3 HX3 HU3 hul hul2 ⊢
  clear hva ih hV hU hw hb h2 hr3 hb3 hs3 hU3 hkr hr3' hx3 hb3'
  go_enter Tryz.func10, Tryz.ntmps10
  go_wp2_with (at_builtin; refine wpList_append_eq rfl _ _ _ rfl _ _ rfl rfl HR3.out ?_)
  obtain ⟨B, HBB⟩ : ∃ B, Hid (B = w.heap.size) := ⟨_, rfl⟩
  obtain ⟨O, HOO⟩ : ∃ O, Hid (O = w3.heap.size) := ⟨_, rfl⟩
  have hx1 := HX3.out.alloc (.cells #[.slice none 0 0, .slice a3 un c3] 35)
  have hr1 := HZ3.out.alloc (.cells #[.slice none 0 0, .slice a3 un c3] 35)
  have ho1 := Blk.new w3 [.slice none 0 0, .slice a3 un c3] 35
  have hz1 : (w3.alloc (.cells #[.slice none 0 0, .slice a3 un c3] 35)).heap.size = w3.heap.size + 1 := by simp
  have hb1 := (Below.refl w3.heap.size w3).alloc (Nat.le_refl _) (.cells #[.slice none 0 0, .slice a3 un c3] 35)
  generalize hW1 : w3.alloc (.cells #[.slice none 0 0, .slice a3 un c3] 35) = W1 at *
  clear hW1
  rw [← HBB.out] at hx1 hr1 hs3' HB3 HU3 ⊢
  rw [← HOO.out] at ho1 hz1 hb1 hs3' HU3 ⊢
  have HX1 := hid hx1
  have HR1 := hid hr1
  have HO1 := hid ho1
  have HZ1 := hid hz1
  have HB1 := hid hb1
  have HBO := hid hs3'
  have HN0 : Hid (w0.heap.size ≤ B) := by rw [HBB.out]; exact HB.out.size
  have HBW : Hid (∀ wr, Below O w3 wr → Below B w wr) := fun wr h => HB3.out.trans (h.mono (by have := HBO.out; omega))
  have HFIN : Hid (∀ w2, (∀ b, b < O → B + 1 + 1 ≤ b → w2.heap[b]? = w3.heap[b]?) → ∀ vo, ValsAt (MsgAt d) w2 vo (M.vals x) → MsgAt (d + 1) w2 (.agg #[vo, .slice a3 un c3]) x) :=
    fun w2 hk vo hvo => ⟨vo, _, rfl, hvo, HU3.out w2 hk⟩
  have HLN : Hid (vn ≤ 1099511627776) := by rw [Hid, HVN.out]; exact hul.2
  clear hx1 hr1 ho1 hz1 hb1 hs3' HX3 HZ3 HR3 HU3 hul hul2
  go_loopw [4] (fun v4 wr => ∃ (i : Nat) (oa : Option Addr) (oc : Nat), v4 = .int .i64 i ∧ i ≤ vn ∧ Hid (Below O w3 wr ∧ O < wr.heap.size ∧ Blk wr B [.slice va vn vc, .slice ua un uc] 27 ∧ Blk wr (B + 1) [.slice none 0 0, .slice none 0 0] 35 ∧ Blk wr O [.slice oa i oc, .slice a3 un c3] 35 ∧ RowsOwn (ValP' d) 71 4 w0.heap.size (O + 1) wr (.slice oa i oc) ((M.vals x).take i))) (fun v4 _ => vn - (intOf v4).toNat)
  case atStart =>
    exact ⟨0, none, 0, rfl, by omega, HB1.out, by rw [HZ1.out]; omega, HX1.out, HR1.out, HO1.out, RowsOwn.nil _ _ _ _ _ _⟩
  case round =>
    obtain ⟨i, oa, oc, rfl, hi, HI⟩ := hrel
    have c1 := HI.out.2.2.1.cell 0 _ rfl
    have hbl1 : B < wr.heap.size := HI.out.2.2.1.lt
    by_cases hlt : i < vn
    · have hmi : (M.vals x)[i]? = some ((M.vals x)[i]'(by rw [← HVN.out]; exact hlt)) := List.getElem?_eq_getElem _
      generalize (M.vals x)[i]'(by rw [← HVN.out]; exact hlt) = m at hmi
      have hva := HVA.out
      obtain ⟨b, o, v1, v2, v3, ha, g0, g1, g2, g3, hM⟩ := hva i m hmi
      clear hva
      have hb0 : Below w0.heap.size w0 wr := HB.out.trans ((HBW.out wr HI.out.1).mono HN0.out)
      have HBOB : Hid (B < O) := by have := HBO.out; show _ < _; omega
      have hBne : O ≠ B := by have := HBOB.out; omega
      have HBL0 : Hid (b < B) := Nat.lt_of_lt_of_le (World.block_lt_of_cell? w0 _ g0) HN0.out
      have hkr := below_keeps hb0
      replace g0 := hkr _ _ g0
      replace g1 := hkr _ _ g1
      replace g2 := hkr _ _ g2
      replace g3 := hkr _ _ g3
      have HM := hid hM
      have HB0 := hid hb0
      have HMB : Hid (vwt (mwt d) m ≤ 1099511627776) := by
        have h1 := mem_sum_le (vwt (mwt d)) (M.vals x) m (List.mem_of_getElem? hmi)
        have h2 : 1 + twt (M.unk x) + ((M.vals x).map (vwt (mwt d))).sum ≤ 1099511627776 := HW.out
        show _ ≤ _; omega
      have hix := index_run Tryz.underlying24 size_val ha i hlt (cap := vc)
      have hbl : b < wr.heap.size := World.block_lt_of_cell? wr _ g0
      have c2 := HI.out.2.2.2.2.1.cell 0 _ rfl
      have hfz := HI.out.2.2.2.2.1.free 0
      have hbl2 := HI.out.2.1
      have hbne : O ≠ b := by have := HBL0.out; have := HBOB.out; omega
      generalize hmn : m.num = mn at *
      clear ha hkr hM hb0
      have e0 : wr.drew.cell? ⟨O, 0, none⟩ = some (.slice oa i oc) := c2
      have HC0 : Hid (wr.drew.cell? ⟨B, 0, none⟩ = some (.slice va vn vc) ∧ wr.drew.cell? ⟨b, o + i * 4, none⟩ = some (.int .i64 mn) ∧ wr.drew.cell? ⟨b, o + i * 4 + 1, none⟩ = some v1 ∧ wr.drew.cell? ⟨b, o + i * 4 + 2, none⟩ = some v2 ∧ wr.drew.cell? ⟨b, o + i * 4 + 3, none⟩ = some v3) := ⟨c1, g0, g1, g2, g3⟩
      have k0 := HC0.out
      have HN3 : Hid (w0.heap.size ≤ O + 1) := by have := HN0.out; have := HBOB.out; show _ ≤ _; omega
      have HTL : Hid (((M.vals x).take i).length = i) := by rw [Hid, List.length_take, ← HVN.out]; omega
      have HLI : Hid (i ≤ 1099511627776) := by have := HLN.out; show _ ≤ _; omega
      go_wp2_with fail
      have HTA : Hid ((M.vals x).take (i + 1) = (M.vals x).take i ++ [m]) := by rw [Hid, List.take_add_one, hmi]; rfl
      have HQ : Hid (∀ (w5 : World) (a5 : Option Addr) (c5 : Nat), Below (O + 1) wr w5 → RowsOwn (ValP' d) 71 4 w0.heap.size (O + 1) w5 (.slice a5 (i + 1) c5) ((M.vals x).take i ++ [m]) →
          ∀ w6, w6 = w5.setCell ⟨O, 0, none⟩ (.slice a5 (i + 1) c5) → (Below O w3 w6 ∧ O < w6.heap.size ∧ Blk w6 B [.slice va vn vc, .slice ua un uc] 27 ∧ Blk w6 (B + 1) [.slice none 0 0, .slice none 0 0] 35 ∧ Blk w6 O [.slice a5 (i + 1) c5, .slice a3 un c3] 35 ∧ RowsOwn (ValP' d) 71 4 w0.heap.size (O + 1) w6 (.slice a5 (i + 1) c5) ((M.vals x).take (i + 1)))) := by
        rintro w5 a5 c5 h1 h2 w6 rfl
        have := HBO.out
        refine ⟨(HI.out.1.trans (h1.mono (by omega))).setCell (by show O ≤ O; omega) _, by have := h1.size; simp; omega, ?_, ?_, ?_, ?_⟩
        · exact Blk.set_other ((h1.block B (by omega)).trans HI.out.2.2.1) _ _ (by show B ≠ O; omega)
        · exact Blk.set_other ((h1.block (B + 1) (by omega)).trans HI.out.2.2.2.1) _ _ (by show B + 1 ≠ O; omega)
        · exact Blk.set ((h1.block O (by omega)).trans HI.out.2.2.2.2.1) 0 _
        · rw [HTA.out]
          refine h2.later (fun b' _ hc => Below.heap_setCell w5 _ _ b' ?_) (by simp)
          show b' ≠ O
          have := HN0.out
          omega
      have k01 := k0.1
      have k02 := k0.2.1
      have k03 := k0.2.2.1
      have k04 := k0.2.2.2.1
      have k05 := k0.2.2.2.2
      go_region_law (first | (go_simp; go_at_call 26; (with_reducible refine (HIH.out wr.drew _ m HM.out HB0.out.drew HMB.out).mono ?_); rintro e w1 ⟨vm, rfl, hbm, hap⟩; obtain ⟨nn, a1, n1, cc1, a2, n2, cc2, aa3, n3, cc3, rfl⟩ := hap.here.form; have hk1 : ∀ p u, wr.drew.cell? p = some u → w1.cell? p = some u := below_keeps hbm; have e1 : w1.cell? ⟨O, 0, none⟩ = some (.slice oa i oc) := hk1 _ _ e0; have k1 : w1.cell? ⟨B, 0, none⟩ = some (.slice va vn vc) ∧ w1.cell? ⟨b, o + i * 4, none⟩ = some (.int .i64 mn) ∧ w1.cell? ⟨b, o + i * 4 + 1, none⟩ = some v1 ∧ w1.cell? ⟨b, o + i * 4 + 2, none⟩ = some v2 ∧ w1.cell? ⟨b, o + i * 4 + 3, none⟩ = some v3 := ⟨hk1 _ _ k0.1, hk1 _ _ k0.2.1, hk1 _ _ k0.2.2.1, hk1 _ _ k0.2.2.2.1, hk1 _ _ k0.2.2.2.2⟩; obtain ⟨a5, c5, w5, hr5, hO5, hB4, hB5⟩ := RowsOwn.step HI.out.2.2.2.2.2 ((Below.refl wr.heap.size wr).drew.trans hbm) (by decide) HN3.out HI.out.2.1 HTL.out 33 _ 80 Tryz.underlying33 info_rval rfl #[.int .i64 nn, .slice a1 n1 cc1, .slice a2 n2 cc2, .slice aa3 n3 cc3] rfl (by intro u hu; simp at hu; rcases hu with rfl | rfl | rfl | rfl <;> rfl) m hap HLI.out (by decide); have e5 : w5.cell? ⟨O, 0, none⟩ = some (.slice oa i oc) := (hB5.cell (p := ⟨O, 0, none⟩) (by show O < O + 1; omega)).trans c2; have k3 : w5.cell? ⟨B, 0, none⟩ = some (.slice va vn vc) ∧ w5.cell? ⟨b, o + i * 4, none⟩ = some (.int .i64 mn) ∧ w5.cell? ⟨b, o + i * 4 + 1, none⟩ = some v1 ∧ w5.cell? ⟨b, o + i * 4 + 2, none⟩ = some v2 ∧ w5.cell? ⟨b, o + i * 4 + 3, none⟩ = some v3 := ⟨(hB5.cell (p := ⟨B, 0, none⟩) (by show B < O + 1; have := HBOB.out; omega)).trans c1, (hB5.cell (p := ⟨b, o + i * 4, none⟩) (by show b < O + 1; have := HBL0.out; have := HBOB.out; omega)).trans g0, (hB5.cell (p := ⟨b, o + i * 4 + 1, none⟩) (by show b < O + 1; have := HBL0.out; have := HBOB.out; omega)).trans g1, (hB5.cell (p := ⟨b, o + i * 4 + 2, none⟩) (by show b < O + 1; have := HBL0.out; have := HBOB.out; omega)).trans g2, (hB5.cell (p := ⟨b, o + i * 4 + 3, none⟩) (by show b < O + 1; have := HBL0.out; have := HBOB.out; omega)).trans g3⟩; have z3 : w5.frozen? ⟨O, 0, none⟩ = false := (hB5.frozen (p := ⟨O, 0, none⟩) (by show O < O + 1; omega)).trans hfz; have e4 := (hB4.cell (p := ⟨O, 0, none⟩) (by show O < O + 1; omega)).trans c2; have HR2 := hid hr5; have HO5 := hid hO5; have HB4 := hid hB4; have HB5 := hid hB5; clear hr5 hO5 hB4 hB5 hk1) | (refine step_append_eq rfl (.tmp 18) (.tmp 25) _ rfl _ _ rfl rfl HR2.out ?_))
      all_goals
        go_wp2_with fail
        go_roundw
        case rel => exact ⟨i + 1, _, _, by go_num, hlt, HQ.out _ _ _ HB5.out HO5.out _ rfl⟩
        case measure => simp [intOf]; omega
    · obtain rfl : i = vn := by omega
      have hO := HI.out.2.2.2.2.1
      have hR := HI.out.2.2.2.1
      have b0 := hO.cell 0 _ rfl
      have b1 := hO.cell 1 _ rfl
      have r0 := hR.cell 0 _ rfl
      have r1 := hR.cell 1 _ rfl
      have f0 := hR.free 0
      have f1 := hR.free 1
      have hlr := hR.lt
      have hlo := hO.lt
      have HLO := hid hlo
      clear hO hR
      go_wp2_with fail
      refine bodyPost_ret (v := .agg #[.slice oa i oc, .slice a3 un c3]) ?_ rfl ⟨_, rfl, ?_, ?_⟩
      · simp [results, Tryz.results10, go_sem, r0, r1]
      · have hBw : w.heap.size ≤ B + 1 := by rw [← HBB.out]; omega
        (repeat (first | with_reducible exact Below.refl _ _ | with_reducible refine Below.setCell ?_ (by first | omega | (simp; omega) | (simp; done)) _ | with_reducible refine Below.alloc ?_ (by first | omega | (simp; omega) | (simp; done)) _ | with_reducible refine below_drewN ?_ _ | with_reducible refine Below.drew ?_))
        rw [← HBB.out]
        exact HBW.out _ HI.out.1
      · intro w2 hw2
        have hag : ∀ b', b' < wr.heap.size → (b' < w0.heap.size ∨ B + 1 + 1 ≤ b') → w2.heap[b']? = wr.heap[b']? := by
          intro b' hlt' hc
          have hne : b' ≠ B + 1 := by have := HN0.out; omega
          refine (hw2 b' (by simpa using hlt') (hc.imp id fun h => by rw [← HBB.out]; omega)).trans ?_
          rw [Below.heap_setCell _ _ _ b' hne, Below.heap_setCell _ _ _ b' hne]
        have hsub := HI.out.2.2.2.2.2.at (by rw [List.length_take]; have := HLN.out; omega) (fun b' h1 h2 => hag b' h1 (h2.imp id fun h => by have := HBO.out; omega))
        rw [List.take_of_length_le (by rw [HVN.out]; exact Nat.le_refl _)] at hsub
        exact HFIN.out w2 (fun b' h1 h2 => (hag b' (by have := HI.out.2.1; omega) (.inr h2)).trans (HI.out.1.block b' h1)) _ hsub
theorem law14_OfOk (w0 : World) : ∀ d, OfOk w0 d
  | 0 => fun _ _ _ h => h.elim
  | d + 1 => law14_Of_of fun _ _ _ h hb hw => law14_OfValue_of (law14_OfOk w0 d) h hb hw
theorem law14_Of {w : World} {d : Nat} {v : Value} {x : M d} (h : MsgAt d w v x) (hw : mwt d x ≤ 1099511627776) :
    Calls Tryz.prog 10 #[v] w fun e w' => ∃ v', e = .returned v' ∧ Below w.heap.size w w' ∧ MsgAt d w' v' x :=
  (law14_OfOk w d w v x h (Below.refl _ _) hw).mono fun _ _ ⟨v', h1, h2, h3⟩ => ⟨v', h1, h2, h3.here⟩
end Go.Proofs.YtaefpjecalnbcaaGreat
namespace Go.Proofs.YtaefpjecalnbcaaGreat
open Go.RowKit
/-! Literals: a block as a slice. -/
theorem words_blk {w : World} {g : Nat} {l : List Nat} {T : TypeId} (h : Blk w g (l.map wordV) T) (n : Nat) (hl : n = l.length) (hn : n ≤ 140737488355328) (h64 : ∀ x ∈ l, x < 2 ^ 64) : WordsAt w (.slice (some ⟨g, 0, none⟩) n n) l := by
  subst hl
  exact ⟨seg_blk h 1 _ (by simp) hn, h64⟩
theorem strs_nil (w : World) : StrsAt w (.slice none 0 0) [] := ⟨⟨rfl, by simp, _, _, rfl, Nat.le_refl _, by omega, fun _ => rfl, fun j u hu => by simp at hu⟩, by simp⟩
theorem rowsAt_nil {α : Type} (P : World → List Value → α → Prop) (k : Nat) (w : World) : RowsAt P k w (.slice none 0 0) [] := ⟨[], rfl, by simp, ⟨by simp, by simp, _, _, rfl, Nat.le_refl _, by omega, fun _ => rfl, fun j u hu => by simp at hu⟩, by simp⟩
theorem fields_blk {w : World} {g : Nat} {fs : List Fld} {T : TypeId} (h : Blk w g (fs.flatMap Fld.cells) T) (n : Nat) (hl : n = fs.length) (hn : n ≤ 140737488355328) (hok : ∀ f ∈ fs, f.Ok) : FieldsAt w (.slice (some ⟨g, 0, none⟩) n n) fs := by
  subst hl
  refine ⟨seg_blk h 6 _ ?_ hn, hok⟩
  clear h hok hn
  induction fs with
  | nil => rfl
  | cons f r ih => rw [List.flatMap_cons, List.length_append, ih, List.length_cons, Nat.succ_mul]; show 6 + _ = _; omega
theorem schema_one {w : World} {g : Nat} {name : ByteArray} {fs : List Fld} {fv : Value} {T : TypeId} (h : Blk w g [.string name, fv] T) (hn : name.size ≤ 140737488355328) (hf : FieldsAt w fv fs) : SchemaAt w (.slice (some ⟨g, 0, none⟩) 1 1) [⟨name, fs⟩] := by
  refine ⟨[fv], rfl, seg_blk h 2 1 rfl (by omega), by simpa using hn, fun i hi => ?_⟩
  have : i = 0 := by simp at hi; omega
  subst this
  exact hf
theorem vals_one {d : Nat} {w : World} {g : Nat} {wv tv sv : Value} {x : Val (M d)} {T : TypeId} (h : Blk w g [.int .i64 x.num, wv, tv, sv] T) (hv : ValAt (MsgAt d) w (.agg #[.int .i64 x.num, wv, tv, sv]) x) : ValsAt (MsgAt d) w (.slice (some ⟨g, 0, none⟩) 1 1) [x] := by
  refine ⟨[[.int .i64 x.num, wv, tv, sv]], rfl, by simp, by simpa using seg_blk h 4 1 rfl (by omega), fun i r y hr hy => ?_⟩
  match i with
  | 0 =>
    simp at hr hy
    subst hr
    subst hy
    exact hv
  | i + 1 => simp at hr
end Go.Proofs.YtaefpjecalnbcaaGreat
namespace Go.Proofs.YtaefpjecalnbcaaGreat
open Go.RowKit
structure MB (d : Nat) (T : TypeId) (W : World) (B : Nat) (a : Option Addr) (n c : Nat) (b : Option Addr) (m k : Nat) (z : M d) : Prop where
  blk : Blk W B [.slice a n c, .slice b m k] T
  msg : MsgAt d W (.agg #[.slice a n c, .slice b m k]) z
variable {d : Nat} {T : TypeId} {W W' : World} {B : Nat} {a : Option Addr} {n c : Nat} {b : Option Addr} {m k : Nat} {z : M d}
theorem MB.below (h : MB d T W B a n c b m k z) (hb : Below W.heap.size W W') : MB d T W' B a n c b m k z := ⟨h.blk.below hb, h.msg.below hb⟩
theorem MB.c0 (h : MB d T W B a n c b m k z) : W.cell? ⟨B, 0, none⟩ = some (.slice a n c) := h.blk.cell 0 _ rfl
theorem MB.c1 (h : MB d T W B a n c b m k z) : W.cell? ⟨B, 1, none⟩ = some (.slice b m k) := h.blk.cell 1 _ rfl
theorem MB.lt (h : MB d T W B a n c b m k z) : B < W.heap.size := h.blk.lt
theorem MB.new (W : World) (h : MsgAt d W (.agg #[.slice a n c, .slice b m k]) z) (T : TypeId) : MB d T (W.alloc (.cells #[.slice a n c, .slice b m k] T)) W.heap.size a n c b m k z ∧ Below W.heap.size W (W.alloc (.cells #[.slice a n c, .slice b m k] T)) := by
  have hb : Below W.heap.size W (W.alloc (.cells #[.slice a n c, .slice b m k] T)) := (Below.refl _ _).alloc (Nat.le_refl _) _
  exact ⟨⟨Blk.new W [.slice a n c, .slice b m k] T, h.below hb⟩, hb⟩
structure WB (V : World) (N d : Nat) (T : TypeId) (W : World) (B : Nat) (a : Option Addr) (n c : Nat) (b : Option Addr) (m k : Nat) (z : M d) : Prop where
  blk : Blk W B [.slice a n c, .slice b m k] T
  out : Apart V.heap.size N W fun W' => MsgAt d W' (.agg #[.slice a n c, .slice b m k]) z
theorem WB.below {V : World} {N : Nat} (h : WB V N d T W B a n c b m k z) (hb : Below W.heap.size W W') : WB V N d T W' B a n c b m k z := ⟨h.blk.below hb, h.out.later hb⟩
theorem WB.msg {V : World} {N : Nat} (h : WB V N d T W B a n c b m k z) : MsgAt d W (.agg #[.slice a n c, .slice b m k]) z := h.out.here
theorem WB.c0 {V : World} {N : Nat} (h : WB V N d T W B a n c b m k z) : W.cell? ⟨B, 0, none⟩ = some (.slice a n c) := h.blk.cell 0 _ rfl
theorem WB.c1 {V : World} {N : Nat} (h : WB V N d T W B a n c b m k z) : W.cell? ⟨B, 1, none⟩ = some (.slice b m k) := h.blk.cell 1 _ rfl
theorem WB.lt {V : World} {N : Nat} (h : WB V N d T W B a n c b m k z) : B < W.heap.size := h.blk.lt
theorem apart_set2 {n0 N B : Nat} {P : World → Prop} {u v : Value} (h : Apart n0 N W P) (hB : n0 ≤ B ∧ B < N) : Apart n0 N ((W.setCell ⟨B, 0, none⟩ u).setCell ⟨B, 1, none⟩ v) P := fun W' hW => h W' fun c hlt hc => by
  have hne : c ≠ B := by omega
  rw [hW c (by simpa using hlt) hc, Below.heap_setCell _ _ _ c hne, Below.heap_setCell _ _ _ c hne]
theorem WB.fill {V : World} {N : Nat} {a' b' : Option Addr} {n' c' m' k' : Nat} {z' : M d} (h : Blk W B [.slice a n c, .slice b m k] T) (ho : Apart V.heap.size N W fun W' => MsgAt d W' (.agg #[.slice a' n' c', .slice b' m' k']) z') (hB : V.heap.size ≤ B ∧ B < N) :
    WB V N d T ((W.setCell ⟨B, 0, none⟩ (.slice a' n' c')).setCell ⟨B, 1, none⟩ (.slice b' m' k')) B a' n' c' b' m' k' z' := ⟨(h.set 0 _).set 1 _, apart_set2 ho hB⟩
theorem WB.other {V : World} {N C : Nat} {u v : Value} (h : WB V N d T W B a n c b m k z) (hC : V.heap.size ≤ C ∧ C < N) (hne : B ≠ C) : WB V N d T ((W.setCell ⟨C, 0, none⟩ u).setCell ⟨C, 1, none⟩ v) B a n c b m k z :=
  ⟨(h.blk.set_other _ _ hne).set_other _ _ hne, apart_set2 h.out hC⟩
def emptyMs (d : Nat) : M (d + 1) := (⟨[], []⟩ : Msgd (M d))
theorem empty_msg (w : World) (d : Nat) : MsgAt (d + 1) w (.agg #[.slice none 0 0, .slice none 0 0]) (emptyMs d) := ⟨_, _, rfl, rowsAt_nil _ _ _, strs_nil _⟩
end Go.Proofs.YtaefpjecalnbcaaGreat
