/- Canonical words and their bytes: kind.Canon, darningref06.Canon (kcanon), bits.Little, darningref01.Little (little), scalar.Put, darningref08.Put (kput), run.Pack, darningref09.Pack (kpack). The kind is a number's; words are below 2^64; a list's length is at most 2^36. What darninglaw14.Size and SizeValue return of any meaning whose weight is at most 2^40: szM, szV; where these are small they are the weight. -/
import Derived.Test.YtbhiddafbpingaaGreatZ17
import Derived.Test.YtbhiddafbpingaaGreatZ18
import Derived.Test.YtbhiddafbpingaaGreatZ19
namespace Go.Proofs.YtbhiddafbpingaaGreat
open Go.RowKit
theorem knum_cases {k : Int} (h : knumber k = true) : k = 1 ∨ k = 2 ∨ k = 3 ∨ k = 4 ∨ k = 5 ∨ k = 6 ∨ k = 7 ∨ k = 8 ∨ k = 9 ∨ k = 10 ∨ k = 11 ∨ k = 12 ∨ k = 13 ∨ k = 14 := by
  have h' : 1 ≤ k ∧ k ≤ 14 := of_decide_eq_true h
  omega
set_option maxRecDepth 100000 in
set_option maxHeartbeats 4000000 in
theorem kind_Canon_32 (k : Int) (hk : k = 1 ∨ k = 8) (x : Nat) (w : World) :
    Calls Tryz.prog 130 #[.int .i64 k, .int .u64 x] w fun e w' => e = .returned (.tuple #[.int .u64 (kcanon k x), .int .u8 0]) ∧ Below w.heap.size w w' := by
  have HC : Hid (kcanon k x = w32 x) := by rw [Hid, kcanon, if_pos hk]
  have HK : Hid (knumber k = true) := by rcases hk with rfl | rfl <;> rfl
  rcases hk with rfl | rfl
  all_goals
    go_enter Tryz.func130, Tryz.ntmps130
    go_wp2_with (first | (go_at_call 106; refine (kind_Number _ _).mono ?_; rintro e w1 ⟨rfl, hb⟩; rw [HK.out]) | (go_at_call 155; refine (bits_Sign32 x _).mono ?_; rintro e w2 ⟨rfl, rfl⟩) | (go_at_call 154; refine (bits_Wide32 x _).mono ?_; rintro e w3 ⟨rfl, rfl⟩))
    go_ret2
    exact ⟨by rw [HC.out]; rfl, hb⟩
set_option maxRecDepth 100000 in
set_option maxHeartbeats 4000000 in
theorem kind_Canon_7 (x : Nat) (w : World) :
    Calls Tryz.prog 130 #[.int .i64 7, .int .u64 x] w fun e w' => e = .returned (.tuple #[.int .u64 (kcanon 7 x), .int .u8 0]) ∧ Below w.heap.size w w' := by
  have HK : Hid (knumber 7 = true) := rfl
  by_cases h : 0 < x
  · have HC : Hid (kcanon 7 x = 1) := by simp [Hid, kcanon, h]
    go_enter Tryz.func130, Tryz.ntmps130
    go_wp2_with (go_at_call 106; refine (kind_Number _ _).mono ?_; rintro e w1 ⟨rfl, hb⟩; rw [HK.out])
    go_ret2
    exact ⟨by rw [HC.out]; rfl, hb⟩
  · have HC : Hid (kcanon 7 x = 0) := by simp [Hid, kcanon, h]
    obtain rfl : x = 0 := by omega
    go_enter Tryz.func130, Tryz.ntmps130
    go_wp2_with (go_at_call 106; refine (kind_Number _ _).mono ?_; rintro e w1 ⟨rfl, hb⟩; rw [HK.out])
    go_ret2
    exact ⟨by rw [HC.out]; rfl, hb⟩
theorem field_form (s : ByteArray) (a b : Int) (w : World) : (Instr.field 221 (.agg #[.string s, .int .i64 a, .int .i64 b]) 2).run Tryz.prog w = .ok (.int .i64 b) w := by kernel_rfl
theorem forms_at {k : Int} {n : Nat} (h : kright k = true) (hn : kbits k = n) : ∀ (W : World) (r : Nat), MapIs W r intK formsL →
    (Instr.lookup 223 (.map (some r)) (.int .i64 k) false).run Tryz.prog W = .ok (.agg #[.string (kname k), .int .i64 (kwire k), .int .i64 n]) W := by
  intro W r hm
  have hl := map_lookup (P := Tryz.prog) intK_ok Tryz.underlying223 form_zero hm k false
  rw [getOf_forms, if_pos h, hn] at hl
  exact hl
set_option maxRecDepth 100000 in
set_option maxHeartbeats 4000000 in
theorem kind_Canon_low (k : Int) (hk : k = 3 ∨ k = 5 ∨ k = 9 ∨ k = 10 ∨ k = 11) (x : Nat) (w : World) :
    Calls Tryz.prog 130 #[.int .i64 k, .int .u64 x] w fun e w' => e = .returned (.tuple #[.int .u64 (kcanon k x), .int .u8 0]) ∧ Below w.heap.size w w' := by
  have HC : Hid (kcanon k x = x % 4294967296) := by rw [Hid, kcanon, if_neg (by omega), if_neg (by omega), if_pos hk]
  have HK : Hid (knumber k = true) := by rcases hk with rfl | rfl | rfl | rfl | rfl <;> rfl
  have HL := hid (forms_at (k := k) (n := 32) (by rcases hk with rfl | rfl | rfl | rfl | rfl <;> rfl) (by rcases hk with rfl | rfl | rfl | rfl | rfl <;> rfl))
  rcases hk with rfl | rfl | rfl | rfl | rfl
  all_goals
    go_enter Tryz.func130, Tryz.ntmps130
    go_wp2_with (go_at_call 106; refine (kind_Number _ _).mono ?_; rintro e w1 ⟨rfl, hb⟩; rw [HK.out])
    refine (kind_forms _).mono ?_
    rintro e w2 ⟨r, hm, hr, hb2, rfl⟩
    have hl := HL.out w2 r hm
    have hfd := field_form
    have HB : Hid (Below w.heap.size w w2) := hb.trans (hb2.mono hb.size)
    clear hb hb2
    go_wp2_with (go_at_call 156; refine (bits_Low32 x _).mono ?_; rintro e w3 ⟨rfl, rfl⟩)
    go_ret2
    exact ⟨by rw [HC.out]; first | rfl | go_num | (simp [go_sem]; omega), HB.out⟩
set_option maxRecDepth 100000 in
set_option maxHeartbeats 4000000 in
theorem kind_Canon_whole (k : Int) (hk : k = 2 ∨ k = 4 ∨ k = 6 ∨ k = 12 ∨ k = 13 ∨ k = 14) (x : Nat) (w : World) :
    Calls Tryz.prog 130 #[.int .i64 k, .int .u64 x] w fun e w' => e = .returned (.tuple #[.int .u64 (kcanon k x), .int .u8 0]) ∧ Below w.heap.size w w' := by
  have HC : Hid (kcanon k x = x) := by rw [Hid, kcanon, if_neg (by omega), if_neg (by omega), if_neg (by omega)]
  have HK : Hid (knumber k = true) := by rcases hk with rfl | rfl | rfl | rfl | rfl | rfl <;> rfl
  have HL := hid (forms_at (k := k) (n := 64) (by rcases hk with rfl | rfl | rfl | rfl | rfl | rfl <;> rfl) (by rcases hk with rfl | rfl | rfl | rfl | rfl | rfl <;> rfl))
  rcases hk with rfl | rfl | rfl | rfl | rfl | rfl
  all_goals
    go_enter Tryz.func130, Tryz.ntmps130
    go_wp2_with (go_at_call 106; refine (kind_Number _ _).mono ?_; rintro e w1 ⟨rfl, hb⟩; rw [HK.out])
    refine (kind_forms _).mono ?_
    rintro e w2 ⟨r, hm, hr, hb2, rfl⟩
    have hl := HL.out w2 r hm
    have hfd := field_form
    have HB : Hid (Below w.heap.size w w2) := hb.trans (hb2.mono hb.size)
    clear hb hb2
    go_wp2_with fail
    go_ret2
    exact ⟨by rw [HC.out]; rfl, HB.out⟩
theorem kind_Canon {k : Int} (hk : knumber k = true) (x : Nat) (w : World) :
    Calls Tryz.prog 130 #[.int .i64 k, .int .u64 x] w fun e w' => e = .returned (.tuple #[.int .u64 (kcanon k x), .int .u8 0]) ∧ Below w.heap.size w w' := by
  rcases knum_cases hk with h | h | h | h | h | h | h | h | h | h | h | h | h | h
  case inr.inr.inr.inr.inr.inr.inl => subst h; exact kind_Canon_7 x w
  all_goals first
    | exact kind_Canon_32 k (by omega) x w
    | exact kind_Canon_low k (by omega) x w
    | exact kind_Canon_whole k (by omega) x w
end Go.Proofs.YtbhiddafbpingaaGreat
namespace Go.Proofs.YtbhiddafbpingaaGreat
open Go.RowKit
def szGo {α : Type} (f : α → Nat) : List α → Nat → Nat
  | [], n => n
  | x :: t, n => if 5000 ≤ n + f x then 5000 else szGo f t (n + f x)
def szV {α : Type} (f : α → Nat) (v : Val α) : Nat := szGo f v.subs (1 + v.words.length + twt v.texts)
def szM : (k d : Nat) → M d → Nat
  | 0, _, _ => 5000
  | _ + 1, 0, _ => 0
  | k + 1, d + 1, x => szGo (szV (szM k d)) (M.vals x) (1 + twt (M.unk x))
theorem szGo_lt {α : Type} (f : α → Nat) : ∀ (l : List α) (n : Nat), n < 5000 → szGo f l n ≤ 5000
  | [], n, h => by simp only [szGo]; omega
  | x :: t, n, h => by
    unfold szGo
    split
    · omega
    · exact szGo_lt f t (n + f x) (by omega)
theorem szGo_le {α : Type} (f : α → Nat) : ∀ (l : List α) (n : Nat), szGo f l n ≤ 5000 + n
  | [], n => by simp [szGo]
  | x :: t, n => by
    unfold szGo
    split
    · omega
    · have := szGo_lt f t (n + f x) (by omega)
      omega
theorem szGo_exact {α : Type} (f : α → Nat) : ∀ (l : List α) (n : Nat), szGo f l n < 5000 → szGo f l n = n + (l.map f).sum ∧ ∀ x ∈ l, f x < 5000
  | [], n, _ => by simp [szGo]
  | x :: t, n, h => by
    unfold szGo at h ⊢
    split at h
    · omega
    · rename_i hx
      rw [if_neg hx]
      obtain ⟨h1, h2⟩ := szGo_exact f t (n + f x) h
      refine ⟨by rw [h1, List.map_cons, List.sum_cons]; omega, fun y hy => ?_⟩
      rcases List.mem_cons.1 hy with rfl | hy
      · omega
      · exact h2 y hy
theorem sum_congr {α : Type} {f g : α → Nat} : ∀ {l : List α}, (∀ x ∈ l, f x = g x) → (l.map f).sum = (l.map g).sum
  | [], _ => rfl
  | x :: t, h => by rw [List.map_cons, List.map_cons, List.sum_cons, List.sum_cons, h x (by simp), sum_congr fun y hy => h y (by simp [hy])]
theorem szV_exact {α : Type} {f g : α → Nat} {v : Val α} (hfg : ∀ x ∈ v.subs, f x < 5000 → f x = g x) (h : szV f v < 5000) : szV f v = vwt g v := by
  obtain ⟨h1, h2⟩ := szGo_exact f v.subs _ h
  have h3 : szV f v = 1 + v.words.length + twt v.texts + (v.subs.map f).sum := h1
  rw [h3, vwt, sum_congr fun x hx => hfg x hx (h2 x hx)]
theorem szM_exact : ∀ (k d : Nat) (x : M d), szM k d x < 5000 → szM k d x = mwt d x
  | 0, _, _, h => by simp [szM] at h
  | _ + 1, 0, _, _ => rfl
  | k + 1, d + 1, x, h => by
    have hs : szM (k + 1) (d + 1) x = szGo (szV (szM k d)) (M.vals x) (1 + twt (M.unk x)) := rfl
    rw [hs] at h
    obtain ⟨h1, h2⟩ := szGo_exact _ _ _ h
    rw [hs, h1]
    show _ = 1 + twt (M.unk x) + ((M.vals x).map (vwt (mwt d))).sum
    rw [sum_congr fun y hy => szV_exact (g := mwt d) (fun z _ hz => szM_exact k d z hz) (h2 y hy)]
theorem szM_le : ∀ (k d : Nat) (x : M d), szM k d x ≤ 5000 + mwt d x
  | 0, _, _ => by simp [szM]
  | _ + 1, 0, _ => by simp [szM]
  | k + 1, d + 1, x => by
    have h := szGo_le (szV (szM k d)) (M.vals x) (1 + twt (M.unk x))
    have e : mwt (d + 1) x = 1 + twt (M.unk x) + ((M.vals x).map (vwt (mwt d))).sum := rfl
    show szGo _ _ _ ≤ _
    omega
theorem szV_le {α : Type} (f : α → Nat) (g : α → Nat) (v : Val α) : szV f v ≤ 5000 + vwt g v := by
  have h := szGo_le f v.subs (1 + v.words.length + twt v.texts)
  unfold szV vwt
  omega
theorem szGo_at {α : Type} (f : α → Nat) (l : List α) (j y : Nat) (m : α) (h : l[j]? = some m) : szGo f (l.drop j) y = if 5000 ≤ y + f m then 5000 else szGo f (l.drop (j + 1)) (y + f m) := by
  obtain ⟨hj, rfl⟩ := List.getElem?_eq_some_iff.1 h
  rw [List.drop_eq_getElem_cons hj]
  rfl
theorem size_val (w : World) : (sizeOf 109).run Tryz.prog w = .ok 4 w := by kernel_rfl
theorem size_msg (w : World) : (sizeOf 58).run Tryz.prog w = .ok 2 w := by kernel_rfl
theorem size_str (w : World) : (sizeOf 9).run Tryz.prog w = .ok 1 w := by kernel_rfl
theorem size_u64 (w : World) : (sizeOf 27).run Tryz.prog w = .ok 1 w := by kernel_rfl
/-- the contract of Size at messages at most d deep -/
def SizeOk (k d : Nat) : Prop := ∀ (w : World) (v : Value) (x : M d), MsgAt d w v x → mwt d x ≤ 1099511627776 →
  Calls Tryz.prog 24 #[v, .int .i64 ((k : Int) - 1)] w fun e w' => e = .returned (.int .i64 (szM k d x)) ∧ Below w.heap.size w w'
theorem twt_take (l : List (List UInt8)) (k : Nat) (t : List UInt8) (h : l[k]? = some t) : twt (l.take (k + 1)) = twt (l.take k) + (1 + t.length) := sum_take _ l k t h
theorem twt_take_le (l : List (List UInt8)) (k : Nat) : twt (l.take k) ≤ twt l := sum_take_le _ l k
set_option maxRecDepth 100000 in
set_option maxHeartbeats 4000000 in
theorem law14_SizeValue_of {d k : Nat} (ih : SizeOk k d) (hk : k ≤ 1000) {w : World} {v : Value} {x : Val (M d)} (h : ValAt (MsgAt d) w v x) (hw : vwt (mwt d) x ≤ 1099511627776) :
    Calls Tryz.prog 48 #[v, .int .i64 k] w fun e w' => e = .returned (.int .i64 (szV (szM k d) x)) ∧ Below w.heap.size w w' := by
  obtain ⟨wv, tv, sv, rfl, hnum, hW, hT, hS⟩ := h
  obtain ⟨hwl, wa, wc, rfl, -, -⟩ := hW.open
  obtain ⟨htl, ta, tc, rfl, -, hta⟩ := hT.open
  obtain ⟨hsl, sa, sc, rfl, -, hsa⟩ := hS.open
  obtain ⟨wn, HWN⟩ : ∃ n, Hid (n = x.words.length) := ⟨_, rfl⟩
  obtain ⟨tn, HTN⟩ : ∃ n, Hid (n = x.texts.length) := ⟨_, rfl⟩
  obtain ⟨sn, HSN⟩ : ∃ n, Hid (n = x.subs.length) := ⟨_, rfl⟩
  have HV : Hid (1 + wn + twt x.texts + (x.subs.map (mwt d)).sum ≤ 1099511627776) := by rw [Hid, HWN.out]; exact hw
  rw [← HWN.out] at hwl ⊢
  rw [← HTN.out] at htl ⊢
  rw [← HSN.out] at hsl ⊢
  have HTA := hid hta
  have HSA := hid hsa
  have HIH := hid ih
  generalize x.num = num at *
  clear hta hsa ih hW hT hS hw
  go_enter Tryz.func48, Tryz.ntmps48
  go_wp2_with fail
  obtain ⟨W0, HW0⟩ : ∃ W0, Hid (W0 = w.alloc (.cells #[.int .i64 num, .slice wa wn wc, .slice ta tn tc, .slice sa sn sc] 109)) := ⟨_, rfl⟩
  rw [← HW0.out]
  have hB0 : Below w.heap.size w W0 := by rw [HW0.out]; exact (Below.refl _ _).alloc (Nat.le_refl _) _
  have hsz0 : w.heap.size < W0.heap.size := by rw [HW0.out]; simp
  have hc2 : W0.cell? ⟨w.heap.size, 2, none⟩ = some (.slice ta tn tc) := by rw [HW0.out]; simp [go_sem]
  have hc3 : W0.cell? ⟨w.heap.size, 3, none⟩ = some (.slice sa sn sc) := by rw [HW0.out]; simp [go_sem]
  have HB0 := hid hB0
  have HC3 := hid hc3
  clear hB0 hc3
  go_loopw [5, 6] (fun v5 v6 wr => ∃ (z i : Nat), v5 = .int .i64 z ∧ i ≤ tn ∧ z ≤ 1099511627776 ∧ v6 = .int .i64 i ∧ Hid (z = 1 + wn + twt (x.texts.take i)) ∧ wr = W0) (fun _ v6 _ => tn - (intOf v6).toNat)
  case atStart =>
    have h1 := HV.out
    refine ⟨1 + wn, 0, ?_, by omega, by omega, rfl, by simp [Hid, twt], rfl⟩
    go_num
  case round =>
    obtain ⟨z, i, rfl, hi, hz, rfl, HZ, hwr⟩ := hrel
    have hwr' := hwr.symm
    subst hwr'
    by_cases hlt : i < tn
    · have hti : x.texts[i]? = some (x.texts[i]'(by rw [← HTN.out]; exact hlt)) := List.getElem?_eq_getElem _
      generalize x.texts[i]'(by rw [← HTN.out]; exact hlt) = t at hti
      have hta := HTA.out
      obtain ⟨ht1, b, o, ha, g0⟩ := hta i t hti
      clear hta
      have HST : Hid (z + 1 + t.length = 1 + wn + twt (x.texts.take (i + 1)) ∧ z + 1 + t.length ≤ 1099511627776) := by
        have h1 := twt_take _ _ _ hti
        have h2 := twt_take_le x.texts (i + 1)
        have h3 := HV.out
        have h4 := HZ.out
        refine ⟨by omega, by omega⟩
      have hsb : (⟨t.toArray⟩ : ByteArray).size = t.length := by simp [ByteArray.size]
      unfold strV at g0
      generalize (⟨t.toArray⟩ : ByteArray) = bt at *
      generalize t.length = tl at *
      have hix := index_run1 Tryz.underlying39 size_str ha i hlt (cap := tc)
      replace g0 := below_keeps HB0.out _ _ g0
      clear ha hti
      go_wp2_with fail
      go_roundw
      case rel => exact ⟨z + 1 + tl, i + 1, by first | go_num | (rw [hsb]; go_num), hlt, HST.out.2, by go_num, HST.out.1, by first | trivial | rfl⟩
      case measure => simp [intOf]; omega
    · obtain rfl : i = tn := by omega
      have HZ2 : Hid (z = 1 + wn + twt x.texts) := by
        have := HZ.out
        rwa [HTN.out, List.take_length] at this
      go_wp2_with fail
      clear hc2
      go_loopw [5, 7] (fun v5 v7 wq => ∃ (y j : Nat), v5 = .int .i64 y ∧ j ≤ sn ∧ y ≤ 1099511627776 ∧ v7 = .int .i64 j ∧ Hid (szGo (szM k d) (x.subs.drop j) y = szV (szM k d) x) ∧ Hid (Below W0.heap.size W0 wq)) (fun _ v7 _ => sn - (intOf v7).toNat)
      case atStart =>
        refine ⟨z, 0, rfl, by omega, hz, rfl, ?_, Below.refl _ _⟩
        show szGo _ (x.subs.drop 0) z = _
        rw [List.drop_zero, HZ2.out, HWN.out]; rfl
      case round =>
        obtain ⟨y, j, rfl, hj, hy, rfl, HG, HBQ⟩ := hrel
        have c3 := below_keeps HBQ.out _ _ HC3.out
        have hbl3 : w.heap.size < wr.heap.size := World.block_lt_of_cell? wr _ c3
        by_cases hls : j < sn
        · have hmi : x.subs[j]? = some (x.subs[j]'(by rw [← HSN.out]; exact hls)) := List.getElem?_eq_getElem _
          generalize x.subs[j]'(by rw [← HSN.out]; exact hls) = m at hmi
          have hsa := HSA.out
          obtain ⟨b, o, v1, v2, ha, g0, g1, hM⟩ := hsa j m hmi
          clear hsa
          have hBq : Below w.heap.size w wr := HB0.out.trans (HBQ.out.mono HB0.out.size)
          have hkr := below_keeps hBq
          replace g0 := hkr _ _ g0
          replace g1 := hkr _ _ g1
          have HMM := hid (hM.below hBq)
          have HMB : Hid (mwt d m ≤ 1099511627776) := by
            have h1 := mem_sum_le (mwt d) x.subs m (List.mem_of_getElem? hmi)
            have h2 := HV.out
            show _ ≤ _; omega
          have HGO : Hid (szV (szM k d) x = if 5000 ≤ y + szM k d m then 5000 else szGo (szM k d) (x.subs.drop (j + 1)) (y + szM k d m)) := by
            rw [Hid, ← HG.out, szGo_at _ _ _ _ _ hmi]
          have hs : szM k d m ≤ 5000 + 1099511627776 := Nat.le_trans (szM_le k d m) (by have := HMB.out; omega)
          have HBQ2 := hid hBq
          have hix := index_run Tryz.underlying107 size_msg ha j hls (cap := sc)
          have hbl : b < wr.heap.size := World.block_lt_of_cell? wr _ g0
          clear ha hkr hM hBq hmi HG
          go_wp2_with fail
          refine (HIH.out wr _ m HMM.out HMB.out).mono ?_
          rintro e w3 ⟨rfl, hb3⟩
          generalize szM k d m = s at *
          have HB3 : Hid (Below W0.heap.size W0 w3) := HBQ.out.trans (hb3.mono HBQ.out.size)
          by_cases h5 : 5000 ≤ y + s
          · go_wp2_with fail
            go_ret
            refine ⟨ret1 (int_eq ?_), HB0.out.trans (HB3.out.mono HB0.out.size)⟩
            rw [HGO.out, if_pos h5]
            rfl
          · go_wp2_with fail
            go_roundw
            case rel =>
              refine ⟨y + s, j + 1, by go_num, hls, by omega, by go_num, ?_, HB3⟩
              rw [Hid, HGO.out, if_neg h5]
            case measure => simp [intOf]; omega
        · obtain rfl : j = sn := by omega
          go_wp2_with fail
          go_ret
          refine ⟨ret1 (int_eq ?_), HB0.out.trans (HBQ.out.mono HB0.out.size)⟩
          have := HG.out
          rw [HSN.out, List.drop_length] at this
          rw [← this]; rfl
set_option maxRecDepth 100000 in
set_option maxHeartbeats 4000000 in
theorem law14_Size_zero {w : World} {va ua : Option Addr} {n1 vc n2 uc : Nat} :
    Calls Tryz.prog 24 #[.agg #[.slice va n1 vc, .slice ua n2 uc], .int .i64 (-1)] w fun e w' => e = .returned (.int .i64 5000) ∧ Below w.heap.size w w' := by
  go_enter Tryz.func24, Tryz.ntmps24
  go_wp2_with fail
  go_ret
  exact ⟨rfl, (Below.refl _ _).alloc (Nat.le_refl _) _⟩
set_option maxRecDepth 100000 in
set_option maxHeartbeats 4000000 in
theorem law14_Size : ∀ (k d : Nat), k ≤ 1000 → SizeOk k d := by
  intro k
  induction k with
  | zero =>
    intro d _ w v x h _
    cases d with
    | zero => exact h.elim
    | succ d =>
      obtain ⟨vv, uv, rfl, hV, hU⟩ := h
      obtain ⟨-, va, vc, rfl, -, -⟩ := hV.open
      obtain ⟨-, ua, uc, rfl, -, -⟩ := hU.open
      exact law14_Size_zero.mono fun e w' h => h
  | succ k ihk =>
    intro d hk w v x h hw
    cases d with
    | zero => exact h.elim
    | succ d =>
    have ih : ∀ (w : World) (v : Value) (x : Val (M d)), ValAt (MsgAt d) w v x → vwt (mwt d) x ≤ 1099511627776 →
        Calls Tryz.prog 48 #[v, .int .i64 k] w fun e w' => e = .returned (.int .i64 (szV (szM k d) x)) ∧ Below w.heap.size w w' := fun _ _ _ h => law14_SizeValue_of (ihk d (by omega)) (by omega) h
    obtain ⟨vv, uv, rfl, hS, hT⟩ := h
    obtain ⟨htl, ta, tc, rfl, -, hta⟩ := hT.open
    obtain ⟨hsl, sa, sc, rfl, -, hsa⟩ := hS.open
    obtain ⟨tn, HTN⟩ : ∃ n, Hid (n = (M.unk x).length) := ⟨_, rfl⟩
    obtain ⟨sn, HSN⟩ : ∃ n, Hid (n = (M.vals x).length) := ⟨_, rfl⟩
    have HV : Hid (1 + twt (M.unk x) + ((M.vals x).map (vwt (mwt d))).sum ≤ 1099511627776) := hw
    rw [← HTN.out] at htl ⊢
    rw [← HSN.out] at hsl ⊢
    have HTA := hid hta
    have HSA := hid hsa
    have HIH := hid ih
    clear hta hsa ih hT hS hw ihk
    show Calls _ _ #[_, .int .i64 (((k + 1 : Nat) : Int) - 1)] _ fun e w' => e = .returned (.int .i64 (szGo (szV (szM k d)) (M.vals x) (1 + twt (M.unk x)) : Nat)) ∧ _
    rw [show ((k + 1 : Nat) : Int) - 1 = (k : Int) by omega]
    obtain ⟨us, HUS⟩ : ∃ us, Hid (us = M.unk x) := ⟨_, rfl⟩
    obtain ⟨vs, HVS⟩ : ∃ vs, Hid (vs = M.vals x) := ⟨_, rfl⟩
    rw [← HUS.out] at HTN HV HTA ⊢
    rw [← HVS.out] at HSN HV HSA ⊢
    clear HUS HVS
    clear x
    go_enter Tryz.func24, Tryz.ntmps24
    go_wp2_with fail
    obtain ⟨W0, HW0⟩ : ∃ W0, Hid (W0 = w.alloc (.cells #[.slice sa sn sc, .slice ta tn tc] 58)) := ⟨_, rfl⟩
    rw [← HW0.out]
    have hB0 : Below w.heap.size w W0 := by rw [HW0.out]; exact (Below.refl _ _).alloc (Nat.le_refl _) _
    have hsz0 : w.heap.size < W0.heap.size := by rw [HW0.out]; simp
    have hc2 : W0.cell? ⟨w.heap.size, 1, none⟩ = some (.slice ta tn tc) := by rw [HW0.out]; simp [go_sem]
    have hc3 : W0.cell? ⟨w.heap.size, 0, none⟩ = some (.slice sa sn sc) := by rw [HW0.out]; simp [go_sem]
    have HB0 := hid hB0
    have HC3 := hid hc3
    clear hB0 hc3
    go_loopw [5, 6] (fun v5 v6 wr => ∃ (z i : Nat), v5 = .int .i64 z ∧ i ≤ tn ∧ z ≤ 1099511627776 ∧ v6 = .int .i64 i ∧ Hid (z = 1 + twt (us.take i)) ∧ wr = W0) (fun _ v6 _ => tn - (intOf v6).toNat)
    case atStart => exact ⟨1, 0, rfl, by omega, by omega, rfl, by simp [Hid, twt], rfl⟩
    case round =>
      obtain ⟨z, i, rfl, hi, hz, rfl, HZ, hwr⟩ := hrel
      have hwr' := hwr.symm
      subst hwr'
      by_cases hlt : i < tn
      · have hti : us[i]? = some (us[i]'(by rw [← HTN.out]; exact hlt)) := List.getElem?_eq_getElem _
        generalize us[i]'(by rw [← HTN.out]; exact hlt) = t at hti
        have hta := HTA.out
        obtain ⟨ht1, b, o, ha, g0⟩ := hta i t hti
        clear hta
        have HST : Hid (z + 1 + t.length = 1 + twt (us.take (i + 1)) ∧ z + 1 + t.length ≤ 1099511627776) := by
          have h1 := twt_take _ _ _ hti
          have h2 := twt_take_le us (i + 1)
          have h3 := HV.out
          have h4 := HZ.out
          refine ⟨by omega, by omega⟩
        have hsb : (⟨t.toArray⟩ : ByteArray).size = t.length := by simp [ByteArray.size]
        unfold strV at g0
        generalize (⟨t.toArray⟩ : ByteArray) = bt at *
        generalize t.length = tl at *
        have hix := index_run1 Tryz.underlying39 size_str ha i hlt (cap := tc)
        replace g0 := below_keeps HB0.out _ _ g0
        clear ha hti
        go_wp2_with fail
        go_roundw
        case rel => exact ⟨z + 1 + tl, i + 1, by first | go_num | (rw [hsb]; go_num), hlt, HST.out.2, by go_num, HST.out.1, by first | trivial | rfl⟩
        case measure => simp [intOf]; omega
      · obtain rfl : i = tn := by omega
        have HZ2 : Hid (z = 1 + twt us) := by
          have := HZ.out
          rwa [HTN.out, List.take_length] at this
        go_wp2_with fail
        clear hc2
        go_loopw [5, 7] (fun v5 v7 wq => ∃ (y j : Nat), v5 = .int .i64 y ∧ j ≤ sn ∧ y ≤ 1099511627776 ∧ v7 = .int .i64 j ∧ Hid (szGo (szV (szM k d)) (vs.drop j) y = szGo (szV (szM k d)) vs (1 + twt us)) ∧ Hid (Below W0.heap.size W0 wq)) (fun _ v7 _ => sn - (intOf v7).toNat)
        case atStart =>
          refine ⟨z, 0, rfl, by omega, hz, rfl, ?_, Below.refl _ _⟩
          rw [Hid, List.drop_zero, HZ2.out]
        case round =>
          obtain ⟨y, j, rfl, hj, hy, rfl, HG, HBQ⟩ := hrel
          have c3 := below_keeps HBQ.out _ _ HC3.out
          have hbl3 : w.heap.size < wr.heap.size := World.block_lt_of_cell? wr _ c3
          by_cases hls : j < sn
          · have hmi : vs[j]? = some (vs[j]'(by rw [← HSN.out]; exact hls)) := List.getElem?_eq_getElem _
            generalize vs[j]'(by rw [← HSN.out]; exact hls) = m at hmi
            have hsa := HSA.out
            obtain ⟨b, o, v1, v2, v3, ha, g0, g1, g2, g3, hM⟩ := hsa j m hmi
            clear hsa
            have hBq : Below w.heap.size w wr := HB0.out.trans (HBQ.out.mono HB0.out.size)
            have hkr := below_keeps hBq
            replace g0 := hkr _ _ g0
            replace g1 := hkr _ _ g1
            replace g2 := hkr _ _ g2
            replace g3 := hkr _ _ g3
            have HMM := hid (VMsg.below hM hBq)
            have HMB : Hid (vwt (mwt d) m ≤ 1099511627776) := by
              have h1 := mem_sum_le (vwt (mwt d)) vs m (List.mem_of_getElem? hmi)
              have h2 := HV.out
              show _ ≤ _; omega
            have HGO : Hid (szGo (szV (szM k d)) vs (1 + twt us) = if 5000 ≤ y + szV (szM k d) m then 5000 else szGo (szV (szM k d)) (vs.drop (j + 1)) (y + szV (szM k d) m)) := by
              rw [Hid, ← HG.out, szGo_at _ _ _ _ _ hmi]
            have hs : szV (szM k d) m ≤ 5000 + 1099511627776 := Nat.le_trans (szV_le (szM k d) (mwt d) m) (by have := HMB.out; omega)
            have hix := index_run Tryz.underlying56 size_val ha j hls (cap := sc)
            have hbl : b < wr.heap.size := World.block_lt_of_cell? wr _ g0
            clear ha hkr hM hBq hmi HG
            generalize m.num = num at *
            go_wp2_with fail
            refine (HIH.out _ _ _ HMM.out HMB.out).mono ?_
            rintro e w3 ⟨rfl, hb3⟩
            generalize szV (szM k d) m = s at *
            have HB3 : Hid (Below W0.heap.size W0 w3) := HBQ.out.trans (hb3.mono HBQ.out.size)
            by_cases h5 : 5000 ≤ y + s
            · go_wp2_with fail
              go_ret
              refine ⟨ret1 (int_eq ?_), HB0.out.trans (HB3.out.mono HB0.out.size)⟩
              rw [HGO.out, if_pos h5]
              rfl
            · go_wp2_with fail
              go_roundw
              case rel =>
                refine ⟨y + s, j + 1, by go_num, hls, by omega, by go_num, ?_, HB3⟩
                rw [Hid, HGO.out, if_neg h5]
              case measure => simp [intOf]; omega
          · obtain rfl : j = sn := by omega
            go_wp2_with fail
            go_ret
            refine ⟨ret1 (int_eq ?_), HB0.out.trans (HBQ.out.mono HB0.out.size)⟩
            have := HG.out
            rw [HSN.out, List.drop_length] at this
            rw [← this]; rfl
end Go.Proofs.YtbhiddafbpingaaGreat
