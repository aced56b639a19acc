/- Parts of a proof: texts of the author, merged. No condition of their own. -/
import Derived.Test.YtbdeclkccchnoaaGreatZ04
import Derived.Test.YtbdeclkccchnoaaGreatZ08
import Derived.Deep.AppendLies
import Derived.Deep.RegionHeld3
import Derived.Deep.DeepCutAuto
namespace Go.Proofs.YtbdeclkccchnoaaGreat
open Go.RowKit Go.Shelf
attribute [local go_sem] Oper.semAt_some
end Go.Proofs.YtbdeclkccchnoaaGreat
namespace Go.Proofs.YtbdeclkccchnoaaGreat
open Go.RowKit
set_option maxRecDepth 100000 in
set_option maxHeartbeats 4000000 in
theorem law07_Few {w : World} {v : Value} {s : List Mes} (hS : SchemaAt w v s) :
    Calls Tryz.prog 5 #[v] w fun e w' => (∃ b, e = .returned (.bool b)) ∧ Below w.heap.size w w' := by
  obtain ⟨hlen, a, cap, rfl, hat⟩ := hS.open
  obtain ⟨n, HN⟩ : ∃ n, Hid (n = s.length) := ⟨_, rfl⟩
  rw [← HN.out] at hat hlen ⊢
  have HAT := hid hat
  clear hat hS
  go_enter Tryz.func5, Tryz.ntmps5
  go_wp2_with fail
  go_loopw [3, 4, 5] (fun v3 v4 _ wr => ∃ (z : Int) (i : Nat), v3 = .int .i64 z ∧ i ≤ n ∧ v4 = .int .i64 i ∧ Hid (Below w.heap.size w wr)) (fun _ v4 _ _ => n - (intOf v4).toNat)
  case atStart => exact ⟨0, 0, rfl, by omega, rfl, Below.refl _ _⟩
  case round =>
    obtain ⟨z, i, rfl, hi, rfl, HB⟩ := hrel
    by_cases hlt : i < n
    · have hat := HAT.out
      obtain ⟨b, o, fv, ha, hnm, c0, c1, hfs⟩ := hat i hlt
      obtain ⟨fl, fa, fcap, rfl, hft⟩ := hfs.open
      clear hat hfs
      obtain ⟨fn, HFN⟩ : ∃ fn, Hid (fn = (s.getD i .zero).fields.length) := ⟨_, rfl⟩
      obtain ⟨nm, HNM⟩ : ∃ nm, Hid (nm = (s.getD i .zero).name) := ⟨_, rfl⟩
      rw [← HFN.out] at fl c1 hft
      rw [← HNM.out] at hnm c0
      have HFT := hid hft
      clear hft
      have hkr := below_keeps HB.out
      replace c0 := hkr _ _ c0
      replace c1 := hkr _ _ c1
      clear hkr
      have hix := index_run Tryz.underlying23 size_mes ha i hlt (cap := cap)
      have hbl : b < wr.heap.size := World.block_lt_of_cell? wr _ c0
      clear ha
      go_wp2_with fail
      go_quiet (fail)
      go_wp2_with fail
      obtain ⟨wo, HWO⟩ : ∃ wo, Hid (wo = wr.drewN nq) := ⟨_, rfl⟩
      rw [← HWO.out]
      have HBO : Hid (Below w.heap.size w wo) := by rw [HWO.out]; exact below_drewN HB.out _
      replace c1 : wo.cell? ⟨b, o + i * 2 + 1, none⟩ = some (.slice fa fn fcap) := by rw [HWO.out]; exact c1
      clear c0 hbl
      have HC1 := hid c1
      clear c1
      go_loopw [3, 5] (fun v3 v5 wq => ∃ (z : Int) (k : Nat), v3 = .int .i64 z ∧ k ≤ fn ∧ v5 = .int .i64 k ∧ Hid (Below wo.heap.size wo wq)) (fun _ v5 _ => fn - (intOf v5).toNat)
      case atStart => exact ⟨_, 0, rfl, by omega, rfl, Below.refl _ _⟩
      case round =>
        obtain ⟨z2, k, rfl, hk, rfl, HBQ⟩ := hrel
        have c1 := below_keeps HBQ.out _ _ HC1.out
        have hbl : b < wr.heap.size := World.block_lt_of_cell? wr _ c1
        by_cases hlk : k < fn
        · have hft := HFT.out
          obtain ⟨b2, o2, ha2, hok, g0, -⟩ := hft k hlk
          clear hft
          have hkr := below_keeps (HBO.out.trans (HBQ.out.mono HBO.out.size))
          replace g0 := hkr _ _ g0
          clear hkr
          obtain ⟨fx, HFX⟩ : ∃ fx, Hid (fx = (s.getD i .zero).fields.getD k .zero) := ⟨_, rfl⟩
          rw [← HFX.out] at hok g0
          have hsz := hok.name
          have hix2 := index_run Tryz.underlying45 size_fld ha2 k hlk (cap := fcap)
          have hbl2 : b2 < wr.heap.size := World.block_lt_of_cell? wr _ g0
          clear ha2 hok
          go_wp2_with fail
          go_roundw
          case rel => exact ⟨_, k + 1, rfl, hlk, by go_num, HBQ⟩
          case measure => simp [intOf]; omega
        · go_wp2_with fail
          go_roundw
          case rel => exact ⟨_, i + 1, rfl, hlt, by go_num, HBO.out.trans (HBQ.out.mono HBO.out.size)⟩
          case measure => simp [intOf]; omega
    · go_wp2_with fail
      go_ret
      exact ⟨⟨_, rfl⟩, HB.out⟩
end Go.Proofs.YtbdeclkccchnoaaGreat
namespace Go.Proofs.YtbdeclkccchnoaaGreat
open Go.RowKit Go.Shelf
def Rows (W : World) (base : Nat) (lv : Value) (ls : List (List UInt8)) : Prop :=
  ∃ vs : List Value, W.ownsRow base 32 1 lv ls.length vs ∧ vs.length = ls.length ∧ ∀ j, j < ls.length → Own W base (vs.getD j undef) (ls.getD j [])
theorem Own.mono {W : World} {b b' : Nat} {v : Value} {l : List UInt8} (h : Own W b v l) (hb : b' ≤ b) : Own W b' v l :=
  ⟨h.1, h.2.imp id (fun ⟨g, cap, cur, hv, hg, r⟩ => ⟨g, cap, cur, hv, Nat.le_trans hb hg, r⟩)⟩
theorem Own.form {w : World} {base : Nat} {v : Value} {l : List UInt8} (h : Own w base v l) : ∃ a c, v = .slice a l.length c := by
  rcases h.2 with ⟨rfl, h0⟩ | ⟨g, cap, cur, rfl, _⟩
  · exact ⟨none, 0, by rw [h0]⟩
  · exact ⟨_, _, rfl⟩
end Go.Proofs.YtbdeclkccchnoaaGreat
namespace Go.Proofs.YtbdeclkccchnoaaGreat
open Go.RowKit
theorem knum_cases {k : Int} (h : knumber k = true) : k = 1 ∨ k = 2 ∨ k = 3 ∨ k = 4 ∨ k = 5 ∨ k = 6 ∨ k = 7 ∨ k = 8 ∨ k = 9 ∨ k = 10 ∨ k = 11 ∨ k = 12 ∨ k = 13 ∨ k = 14 := by
  have h' : 1 ≤ k ∧ k ≤ 14 := of_decide_eq_true h
  omega
set_option maxRecDepth 100000 in
set_option maxHeartbeats 4000000 in
theorem kind_Canon_32 (k : Int) (hk : k = 1 ∨ k = 8) (x : Nat) (w : World) :
    Calls Tryz.prog 78 #[.int .i64 k, .int .u64 x] w fun e w' => e = .returned (.tuple #[.int .u64 (kcanon k x), .int .u8 0]) ∧ Below w.heap.size w w' := by
  have HC : Hid (kcanon k x = w32 x) := by rw [Hid, kcanon, if_pos hk]
  have HK : Hid (knumber k = true) := by rcases hk with rfl | rfl <;> rfl
  rcases hk with rfl | rfl
  all_goals
    go_enter Tryz.func78, Tryz.ntmps78
    go_wp2_with (first | (go_at_call 54; refine (kind_Number _ _).mono ?_; rintro e w1 ⟨rfl, hb⟩; rw [HK.out]) | (go_at_call 108; refine (bits_Sign32 x _).mono ?_; rintro e w2 ⟨rfl, rfl⟩) | (go_at_call 107; refine (bits_Wide32 x _).mono ?_; rintro e w3 ⟨rfl, rfl⟩))
    go_ret2
    exact ⟨by rw [HC.out]; rfl, hb⟩
set_option maxRecDepth 100000 in
set_option maxHeartbeats 4000000 in
theorem kind_Canon_7 (x : Nat) (w : World) :
    Calls Tryz.prog 78 #[.int .i64 7, .int .u64 x] w fun e w' => e = .returned (.tuple #[.int .u64 (kcanon 7 x), .int .u8 0]) ∧ Below w.heap.size w w' := by
  have HK : Hid (knumber 7 = true) := rfl
  by_cases h : 0 < x
  · have HC : Hid (kcanon 7 x = 1) := by simp [Hid, kcanon, h]
    go_enter Tryz.func78, Tryz.ntmps78
    go_wp2_with (go_at_call 54; refine (kind_Number _ _).mono ?_; rintro e w1 ⟨rfl, hb⟩; rw [HK.out])
    go_ret2
    exact ⟨by rw [HC.out]; rfl, hb⟩
  · have HC : Hid (kcanon 7 x = 0) := by simp [Hid, kcanon, h]
    obtain rfl : x = 0 := by omega
    go_enter Tryz.func78, Tryz.ntmps78
    go_wp2_with (go_at_call 54; refine (kind_Number _ _).mono ?_; rintro e w1 ⟨rfl, hb⟩; rw [HK.out])
    go_ret2
    exact ⟨by rw [HC.out]; rfl, hb⟩
theorem field_form (s : ByteArray) (a b : Int) (w : World) : (Instr.field 157 (.agg #[.string s, .int .i64 a, .int .i64 b]) 2).run Tryz.prog w = .ok (.int .i64 b) w := by kernel_rfl
theorem forms_at {k : Int} {n : Nat} (h : kright k = true) (hn : kbits k = n) : ∀ (W : World) (r : Nat), MapIs W r intK formsL →
    (Instr.lookup 159 (.map (some r)) (.int .i64 k) false).run Tryz.prog W = .ok (.agg #[.string (kname k), .int .i64 (kwire k), .int .i64 n]) W := by
  intro W r hm
  have hl := map_lookup (P := Tryz.prog) intK_ok Tryz.underlying159 form_zero hm k false
  rw [getOf_forms, if_pos h, hn] at hl
  exact hl
set_option maxRecDepth 100000 in
set_option maxHeartbeats 4000000 in
theorem kind_Canon_low (k : Int) (hk : k = 3 ∨ k = 5 ∨ k = 9 ∨ k = 10 ∨ k = 11) (x : Nat) (w : World) :
    Calls Tryz.prog 78 #[.int .i64 k, .int .u64 x] w fun e w' => e = .returned (.tuple #[.int .u64 (kcanon k x), .int .u8 0]) ∧ Below w.heap.size w w' := by
  have HC : Hid (kcanon k x = x % 4294967296) := by rw [Hid, kcanon, if_neg (by omega), if_neg (by omega), if_pos hk]
  have HK : Hid (knumber k = true) := by rcases hk with rfl | rfl | rfl | rfl | rfl <;> rfl
  have HL := hid (forms_at (k := k) (n := 32) (by rcases hk with rfl | rfl | rfl | rfl | rfl <;> rfl) (by rcases hk with rfl | rfl | rfl | rfl | rfl <;> rfl))
  rcases hk with rfl | rfl | rfl | rfl | rfl
  all_goals
    go_enter Tryz.func78, Tryz.ntmps78
    go_wp2_with (go_at_call 54; refine (kind_Number _ _).mono ?_; rintro e w1 ⟨rfl, hb⟩; rw [HK.out])
    refine (kind_forms _).mono ?_
    rintro e w2 ⟨r, hm, hr, hb2, rfl⟩
    have hl := HL.out w2 r hm
    have hfd := field_form
    have HB : Hid (Below w.heap.size w w2) := hb.trans (hb2.mono hb.size)
    clear hb hb2
    go_wp2_with (go_at_call 109; refine (bits_Low32 x _).mono ?_; rintro e w3 ⟨rfl, rfl⟩)
    go_ret2
    exact ⟨by rw [HC.out]; first | rfl | go_num | (simp [go_sem]; omega), HB.out⟩
set_option maxRecDepth 100000 in
set_option maxHeartbeats 4000000 in
theorem kind_Canon_whole (k : Int) (hk : k = 2 ∨ k = 4 ∨ k = 6 ∨ k = 12 ∨ k = 13 ∨ k = 14) (x : Nat) (w : World) :
    Calls Tryz.prog 78 #[.int .i64 k, .int .u64 x] w fun e w' => e = .returned (.tuple #[.int .u64 (kcanon k x), .int .u8 0]) ∧ Below w.heap.size w w' := by
  have HC : Hid (kcanon k x = x) := by rw [Hid, kcanon, if_neg (by omega), if_neg (by omega), if_neg (by omega)]
  have HK : Hid (knumber k = true) := by rcases hk with rfl | rfl | rfl | rfl | rfl | rfl <;> rfl
  have HL := hid (forms_at (k := k) (n := 64) (by rcases hk with rfl | rfl | rfl | rfl | rfl | rfl <;> rfl) (by rcases hk with rfl | rfl | rfl | rfl | rfl | rfl <;> rfl))
  rcases hk with rfl | rfl | rfl | rfl | rfl | rfl
  all_goals
    go_enter Tryz.func78, Tryz.ntmps78
    go_wp2_with (go_at_call 54; refine (kind_Number _ _).mono ?_; rintro e w1 ⟨rfl, hb⟩; rw [HK.out])
    refine (kind_forms _).mono ?_
    rintro e w2 ⟨r, hm, hr, hb2, rfl⟩
    have hl := HL.out w2 r hm
    have hfd := field_form
    have HB : Hid (Below w.heap.size w w2) := hb.trans (hb2.mono hb.size)
    clear hb hb2
    go_wp2_with fail
    go_ret2
    exact ⟨by rw [HC.out]; rfl, HB.out⟩
theorem kind_Canon {k : Int} (hk : knumber k = true) (x : Nat) (w : World) :
    Calls Tryz.prog 78 #[.int .i64 k, .int .u64 x] w fun e w' => e = .returned (.tuple #[.int .u64 (kcanon k x), .int .u8 0]) ∧ Below w.heap.size w w' := by
  rcases knum_cases hk with h | h | h | h | h | h | h | h | h | h | h | h | h | h
  case inr.inr.inr.inr.inr.inr.inl => subst h; exact kind_Canon_7 x w
  all_goals first
    | exact kind_Canon_32 k (by omega) x w
    | exact kind_Canon_low k (by omega) x w
    | exact kind_Canon_whole k (by omega) x w
end Go.Proofs.YtbdeclkccchnoaaGreat
namespace Go.Proofs.YtbdeclkccchnoaaGreat
open Go.RowKit
def szGo {α : Type} (f : α → Nat) : List α → Nat → Nat
  | [], n => n
  | x :: t, n => if 5000 ≤ n + f x then 5000 else szGo f t (n + f x)
def szV {α : Type} (f : α → Nat) (v : Val α) : Nat := szGo f v.subs (1 + v.words.length + twt v.texts)
def szM : (k d : Nat) → M d → Nat
  | 0, _, _ => 5000
  | _ + 1, 0, _ => 0
  | k + 1, d + 1, x => szGo (szV (szM k d)) (M.vals x) (1 + twt (M.unk x))
theorem szGo_lt {α : Type} (f : α → Nat) : ∀ (l : List α) (n : Nat), n < 5000 → szGo f l n ≤ 5000
  | [], n, h => by simp only [szGo]; omega
  | x :: t, n, h => by
    unfold szGo
    split
    · omega
    · exact szGo_lt f t (n + f x) (by omega)
theorem szGo_le {α : Type} (f : α → Nat) : ∀ (l : List α) (n : Nat), szGo f l n ≤ 5000 + n
  | [], n => by simp [szGo]
  | x :: t, n => by
    unfold szGo
    split
    · omega
    · have := szGo_lt f t (n + f x) (by omega)
      omega
theorem szGo_exact {α : Type} (f : α → Nat) : ∀ (l : List α) (n : Nat), szGo f l n < 5000 → szGo f l n = n + (l.map f).sum ∧ ∀ x ∈ l, f x < 5000
  | [], n, _ => by simp [szGo]
  | x :: t, n, h => by
    unfold szGo at h ⊢
    split at h
    · omega
    · rename_i hx
      rw [if_neg hx]
      obtain ⟨h1, h2⟩ := szGo_exact f t (n + f x) h
      refine ⟨by rw [h1, List.map_cons, List.sum_cons]; omega, fun y hy => ?_⟩
      rcases List.mem_cons.1 hy with rfl | hy
      · omega
      · exact h2 y hy
theorem sum_congr {α : Type} {f g : α → Nat} : ∀ {l : List α}, (∀ x ∈ l, f x = g x) → (l.map f).sum = (l.map g).sum
  | [], _ => rfl
  | x :: t, h => by rw [List.map_cons, List.map_cons, List.sum_cons, List.sum_cons, h x (by simp), sum_congr fun y hy => h y (by simp [hy])]
theorem szV_exact {α : Type} {f g : α → Nat} {v : Val α} (hfg : ∀ x ∈ v.subs, f x < 5000 → f x = g x) (h : szV f v < 5000) : szV f v = vwt g v := by
  obtain ⟨h1, h2⟩ := szGo_exact f v.subs _ h
  have h3 : szV f v = 1 + v.words.length + twt v.texts + (v.subs.map f).sum := h1
  rw [h3, vwt, sum_congr fun x hx => hfg x hx (h2 x hx)]
theorem szM_exact : ∀ (k d : Nat) (x : M d), szM k d x < 5000 → szM k d x = mwt d x
  | 0, _, _, h => by simp [szM] at h
  | _ + 1, 0, _, _ => rfl
  | k + 1, d + 1, x, h => by
    have hs : szM (k + 1) (d + 1) x = szGo (szV (szM k d)) (M.vals x) (1 + twt (M.unk x)) := rfl
    rw [hs] at h
    obtain ⟨h1, h2⟩ := szGo_exact _ _ _ h
    rw [hs, h1]
    show _ = 1 + twt (M.unk x) + ((M.vals x).map (vwt (mwt d))).sum
    rw [sum_congr fun y hy => szV_exact (g := mwt d) (fun z _ hz => szM_exact k d z hz) (h2 y hy)]
theorem szM_le : ∀ (k d : Nat) (x : M d), szM k d x ≤ 5000 + mwt d x
  | 0, _, _ => by simp [szM]
  | _ + 1, 0, _ => by simp [szM]
  | k + 1, d + 1, x => by
    have h := szGo_le (szV (szM k d)) (M.vals x) (1 + twt (M.unk x))
    have e : mwt (d + 1) x = 1 + twt (M.unk x) + ((M.vals x).map (vwt (mwt d))).sum := rfl
    show szGo _ _ _ ≤ _
    omega
theorem szV_le {α : Type} (f : α → Nat) (g : α → Nat) (v : Val α) : szV f v ≤ 5000 + vwt g v := by
  have h := szGo_le f v.subs (1 + v.words.length + twt v.texts)
  unfold szV vwt
  omega
theorem szGo_at {α : Type} (f : α → Nat) (l : List α) (j y : Nat) (m : α) (h : l[j]? = some m) : szGo f (l.drop j) y = if 5000 ≤ y + f m then 5000 else szGo f (l.drop (j + 1)) (y + f m) := by
  obtain ⟨hj, rfl⟩ := List.getElem?_eq_some_iff.1 h
  rw [List.drop_eq_getElem_cons hj]
  rfl
theorem size_val (w : World) : (sizeOf 52).run Tryz.prog w = .ok 4 w := by kernel_rfl
theorem size_msg (w : World) : (sizeOf 27).run Tryz.prog w = .ok 2 w := by kernel_rfl
theorem size_str (w : World) : (sizeOf 9).run Tryz.prog w = .ok 1 w := by kernel_rfl
theorem size_u64 (w : World) : (sizeOf 48).run Tryz.prog w = .ok 1 w := by kernel_rfl
def SizeOk (k d : Nat) : Prop := ∀ (w : World) (v : Value) (x : M d), MsgAt d w v x → mwt d x ≤ 1099511627776 →
  Calls Tryz.prog 6 #[v, .int .i64 ((k : Int) - 1)] w fun e w' => e = .returned (.int .i64 (szM k d x)) ∧ Below w.heap.size w w'
theorem twt_take (l : List (List UInt8)) (k : Nat) (t : List UInt8) (h : l[k]? = some t) : twt (l.take (k + 1)) = twt (l.take k) + (1 + t.length) := sum_take _ l k t h
theorem twt_take_le (l : List (List UInt8)) (k : Nat) : twt (l.take k) ≤ twt l := sum_take_le _ l k
set_option maxRecDepth 100000 in
set_option maxHeartbeats 4000000 in
theorem law14_SizeValue_of {d k : Nat} (ih : SizeOk k d) (hk : k ≤ 1000) {w : World} {v : Value} {x : Val (M d)} (h : ValAt (MsgAt d) w v x) (hw : vwt (mwt d) x ≤ 1099511627776) :
    Calls Tryz.prog 14 #[v, .int .i64 k] w fun e w' => e = .returned (.int .i64 (szV (szM k d) x)) ∧ Below w.heap.size w w' := by
  obtain ⟨wv, tv, sv, rfl, hnum, hW, hT, hS⟩ := h
  obtain ⟨hwl, wa, wc, rfl, -, -⟩ := hW.open
  obtain ⟨htl, ta, tc, rfl, -, hta⟩ := hT.open
  obtain ⟨hsl, sa, sc, rfl, -, hsa⟩ := hS.open
  obtain ⟨wn, HWN⟩ : ∃ n, Hid (n = x.words.length) := ⟨_, rfl⟩
  obtain ⟨tn, HTN⟩ : ∃ n, Hid (n = x.texts.length) := ⟨_, rfl⟩
  obtain ⟨sn, HSN⟩ : ∃ n, Hid (n = x.subs.length) := ⟨_, rfl⟩
  have HV : Hid (1 + wn + twt x.texts + (x.subs.map (mwt d)).sum ≤ 1099511627776) := by rw [Hid, HWN.out]; exact hw
  rw [← HWN.out] at hwl ⊢
  rw [← HTN.out] at htl ⊢
  rw [← HSN.out] at hsl ⊢
  have HTA := hid hta
  have HSA := hid hsa
  have HIH := hid ih
  generalize x.num = num at *
  clear hta hsa ih hW hT hS hw
  go_enter Tryz.func14, Tryz.ntmps14
  go_wp2_with fail
  obtain ⟨W0, HW0⟩ : ∃ W0, Hid (W0 = w.alloc (.cells #[.int .i64 num, .slice wa wn wc, .slice ta tn tc, .slice sa sn sc] 52)) := ⟨_, rfl⟩
  rw [← HW0.out]
  have hB0 : Below w.heap.size w W0 := by rw [HW0.out]; exact (Below.refl _ _).alloc (Nat.le_refl _) _
  have hsz0 : w.heap.size < W0.heap.size := by rw [HW0.out]; simp
  have hc2 : W0.cell? ⟨w.heap.size, 2, none⟩ = some (.slice ta tn tc) := by rw [HW0.out]; simp [go_sem]
  have hc3 : W0.cell? ⟨w.heap.size, 3, none⟩ = some (.slice sa sn sc) := by rw [HW0.out]; simp [go_sem]
  have HB0 := hid hB0
  have HC3 := hid hc3
  clear hB0 hc3
  go_loopw [5, 6] (fun v5 v6 wr => ∃ (z i : Nat), v5 = .int .i64 z ∧ i ≤ tn ∧ z ≤ 1099511627776 ∧ v6 = .int .i64 i ∧ Hid (z = 1 + wn + twt (x.texts.take i)) ∧ wr = W0) (fun _ v6 _ => tn - (intOf v6).toNat)
  case atStart =>
    have h1 := HV.out
    refine ⟨1 + wn, 0, ?_, by omega, by omega, rfl, by simp [Hid, twt], rfl⟩
    go_num
  case round =>
    obtain ⟨z, i, rfl, hi, hz, rfl, HZ, hwr⟩ := hrel
    have hwr' := hwr.symm
    subst hwr'
    by_cases hlt : i < tn
    · have hti : x.texts[i]? = some (x.texts[i]'(by rw [← HTN.out]; exact hlt)) := List.getElem?_eq_getElem _
      generalize x.texts[i]'(by rw [← HTN.out]; exact hlt) = t at hti
      have hta := HTA.out
      obtain ⟨ht1, b, o, ha, g0⟩ := hta i t hti
      clear hta
      have HST : Hid (z + 1 + t.length = 1 + wn + twt (x.texts.take (i + 1)) ∧ z + 1 + t.length ≤ 1099511627776) := by
        have h1 := twt_take _ _ _ hti
        have h2 := twt_take_le x.texts (i + 1)
        have h3 := HV.out
        have h4 := HZ.out
        refine ⟨by omega, by omega⟩
      have hsb : (⟨t.toArray⟩ : ByteArray).size = t.length := by simp [ByteArray.size]
      unfold strV at g0
      generalize (⟨t.toArray⟩ : ByteArray) = bt at *
      generalize t.length = tl at *
      have hix := index_run1 Tryz.underlying25 size_str ha i hlt (cap := tc)
      replace g0 := below_keeps HB0.out _ _ g0
      clear ha hti
      go_wp2_with fail
      go_roundw
      case rel => exact ⟨z + 1 + tl, i + 1, by first | go_num | (rw [hsb]; go_num), hlt, HST.out.2, by go_num, HST.out.1, by first | trivial | rfl⟩
      case measure => simp [intOf]; omega
    · obtain rfl : i = tn := by omega
      have HZ2 : Hid (z = 1 + wn + twt x.texts) := by
        have := HZ.out
        rwa [HTN.out, List.take_length] at this
      go_wp2_with fail
      clear hc2
      go_loopw [5, 7] (fun v5 v7 wq => ∃ (y j : Nat), v5 = .int .i64 y ∧ j ≤ sn ∧ y ≤ 1099511627776 ∧ v7 = .int .i64 j ∧ Hid (szGo (szM k d) (x.subs.drop j) y = szV (szM k d) x) ∧ Hid (Below W0.heap.size W0 wq)) (fun _ v7 _ => sn - (intOf v7).toNat)
      case atStart =>
        refine ⟨z, 0, rfl, by omega, hz, rfl, ?_, Below.refl _ _⟩
        show szGo _ (x.subs.drop 0) z = _
        rw [List.drop_zero, HZ2.out, HWN.out]; rfl
      case round =>
        obtain ⟨y, j, rfl, hj, hy, rfl, HG, HBQ⟩ := hrel
        have c3 := below_keeps HBQ.out _ _ HC3.out
        have hbl3 : w.heap.size < wr.heap.size := World.block_lt_of_cell? wr _ c3
        by_cases hls : j < sn
        · have hmi : x.subs[j]? = some (x.subs[j]'(by rw [← HSN.out]; exact hls)) := List.getElem?_eq_getElem _
          generalize x.subs[j]'(by rw [← HSN.out]; exact hls) = m at hmi
          have hsa := HSA.out
          obtain ⟨b, o, v1, v2, ha, g0, g1, hM⟩ := hsa j m hmi
          clear hsa
          have hBq : Below w.heap.size w wr := HB0.out.trans (HBQ.out.mono HB0.out.size)
          have hkr := below_keeps hBq
          replace g0 := hkr _ _ g0
          replace g1 := hkr _ _ g1
          have HMM := hid (hM.below hBq)
          have HMB : Hid (mwt d m ≤ 1099511627776) := by
            have h1 := mem_sum_le (mwt d) x.subs m (List.mem_of_getElem? hmi)
            have h2 := HV.out
            show _ ≤ _; omega
          have HGO : Hid (szV (szM k d) x = if 5000 ≤ y + szM k d m then 5000 else szGo (szM k d) (x.subs.drop (j + 1)) (y + szM k d m)) := by
            rw [Hid, ← HG.out, szGo_at _ _ _ _ _ hmi]
          have hs : szM k d m ≤ 5000 + 1099511627776 := Nat.le_trans (szM_le k d m) (by have := HMB.out; omega)
          have HBQ2 := hid hBq
          have hix := index_run Tryz.underlying50 size_msg ha j hls (cap := sc)
          have hbl : b < wr.heap.size := World.block_lt_of_cell? wr _ g0
          clear ha hkr hM hBq hmi HG
          go_wp2_with fail
          refine (HIH.out wr _ m HMM.out HMB.out).mono ?_
          rintro e w3 ⟨rfl, hb3⟩
          generalize szM k d m = s at *
          have HB3 : Hid (Below W0.heap.size W0 w3) := HBQ.out.trans (hb3.mono HBQ.out.size)
          by_cases h5 : 5000 ≤ y + s
          · go_wp2_with fail
            go_ret
            refine ⟨ret1 (int_eq ?_), HB0.out.trans (HB3.out.mono HB0.out.size)⟩
            rw [HGO.out, if_pos h5]
            rfl
          · go_wp2_with fail
            go_roundw
            case rel =>
              refine ⟨y + s, j + 1, by go_num, hls, by omega, by go_num, ?_, HB3⟩
              rw [Hid, HGO.out, if_neg h5]
            case measure => simp [intOf]; omega
        · obtain rfl : j = sn := by omega
          go_wp2_with fail
          go_ret
          refine ⟨ret1 (int_eq ?_), HB0.out.trans (HBQ.out.mono HB0.out.size)⟩
          have := HG.out
          rw [HSN.out, List.drop_length] at this
          rw [← this]; rfl
set_option maxRecDepth 100000 in
set_option maxHeartbeats 4000000 in
theorem law14_Size_zero {w : World} {va ua : Option Addr} {n1 vc n2 uc : Nat} :
    Calls Tryz.prog 6 #[.agg #[.slice va n1 vc, .slice ua n2 uc], .int .i64 (-1)] w fun e w' => e = .returned (.int .i64 5000) ∧ Below w.heap.size w w' := by
  go_enter Tryz.func6, Tryz.ntmps6
  go_wp2_with fail
  go_ret
  exact ⟨rfl, (Below.refl _ _).alloc (Nat.le_refl _) _⟩
set_option maxRecDepth 100000 in
set_option maxHeartbeats 4000000 in
theorem law14_Size : ∀ (k d : Nat), k ≤ 1000 → SizeOk k d := by
  intro k
  induction k with
  | zero =>
    intro d _ w v x h _
    cases d with
    | zero => exact h.elim
    | succ d =>
      obtain ⟨vv, uv, rfl, hV, hU⟩ := h
      obtain ⟨-, va, vc, rfl, -, -⟩ := hV.open
      obtain ⟨-, ua, uc, rfl, -, -⟩ := hU.open
      exact law14_Size_zero.mono fun e w' h => h
  | succ k ihk =>
    intro d hk w v x h hw
    cases d with
    | zero => exact h.elim
    | succ d =>
    have ih : ∀ (w : World) (v : Value) (x : Val (M d)), ValAt (MsgAt d) w v x → vwt (mwt d) x ≤ 1099511627776 →
        Calls Tryz.prog 14 #[v, .int .i64 k] w fun e w' => e = .returned (.int .i64 (szV (szM k d) x)) ∧ Below w.heap.size w w' := fun _ _ _ h => law14_SizeValue_of (ihk d (by omega)) (by omega) h
    obtain ⟨vv, uv, rfl, hS, hT⟩ := h
    obtain ⟨htl, ta, tc, rfl, -, hta⟩ := hT.open
    obtain ⟨hsl, sa, sc, rfl, -, hsa⟩ := hS.open
    obtain ⟨tn, HTN⟩ : ∃ n, Hid (n = (M.unk x).length) := ⟨_, rfl⟩
    obtain ⟨sn, HSN⟩ : ∃ n, Hid (n = (M.vals x).length) := ⟨_, rfl⟩
    have HV : Hid (1 + twt (M.unk x) + ((M.vals x).map (vwt (mwt d))).sum ≤ 1099511627776) := hw
    rw [← HTN.out] at htl ⊢
    rw [← HSN.out] at hsl ⊢
    have HTA := hid hta
    have HSA := hid hsa
    have HIH := hid ih
    clear hta hsa ih hT hS hw ihk
    show Calls _ _ #[_, .int .i64 (((k + 1 : Nat) : Int) - 1)] _ fun e w' => e = .returned (.int .i64 (szGo (szV (szM k d)) (M.vals x) (1 + twt (M.unk x)) : Nat)) ∧ _
    rw [show ((k + 1 : Nat) : Int) - 1 = (k : Int) by omega]
    obtain ⟨us, HUS⟩ : ∃ us, Hid (us = M.unk x) := ⟨_, rfl⟩
    obtain ⟨vs, HVS⟩ : ∃ vs, Hid (vs = M.vals x) := ⟨_, rfl⟩
    rw [← HUS.out] at HTN HV HTA ⊢
    rw [← HVS.out] at HSN HV HSA ⊢
    clear HUS HVS
    clear x
    go_enter Tryz.func6, Tryz.ntmps6
    go_wp2_with fail
    obtain ⟨W0, HW0⟩ : ∃ W0, Hid (W0 = w.alloc (.cells #[.slice sa sn sc, .slice ta tn tc] 27)) := ⟨_, rfl⟩
    rw [← HW0.out]
    have hB0 : Below w.heap.size w W0 := by rw [HW0.out]; exact (Below.refl _ _).alloc (Nat.le_refl _) _
    have hsz0 : w.heap.size < W0.heap.size := by rw [HW0.out]; simp
    have hc2 : W0.cell? ⟨w.heap.size, 1, none⟩ = some (.slice ta tn tc) := by rw [HW0.out]; simp [go_sem]
    have hc3 : W0.cell? ⟨w.heap.size, 0, none⟩ = some (.slice sa sn sc) := by rw [HW0.out]; simp [go_sem]
    have HB0 := hid hB0
    have HC3 := hid hc3
    clear hB0 hc3
    go_loopw [5, 6] (fun v5 v6 wr => ∃ (z i : Nat), v5 = .int .i64 z ∧ i ≤ tn ∧ z ≤ 1099511627776 ∧ v6 = .int .i64 i ∧ Hid (z = 1 + twt (us.take i)) ∧ wr = W0) (fun _ v6 _ => tn - (intOf v6).toNat)
    case atStart => exact ⟨1, 0, rfl, by omega, by omega, rfl, by simp [Hid, twt], rfl⟩
    case round =>
      obtain ⟨z, i, rfl, hi, hz, rfl, HZ, hwr⟩ := hrel
      have hwr' := hwr.symm
      subst hwr'
      by_cases hlt : i < tn
      · have hti : us[i]? = some (us[i]'(by rw [← HTN.out]; exact hlt)) := List.getElem?_eq_getElem _
        generalize us[i]'(by rw [← HTN.out]; exact hlt) = t at hti
        have hta := HTA.out
        obtain ⟨ht1, b, o, ha, g0⟩ := hta i t hti
        clear hta
        have HST : Hid (z + 1 + t.length = 1 + twt (us.take (i + 1)) ∧ z + 1 + t.length ≤ 1099511627776) := by
          have h1 := twt_take _ _ _ hti
          have h2 := twt_take_le us (i + 1)
          have h3 := HV.out
          have h4 := HZ.out
          refine ⟨by omega, by omega⟩
        have hsb : (⟨t.toArray⟩ : ByteArray).size = t.length := by simp [ByteArray.size]
        unfold strV at g0
        generalize (⟨t.toArray⟩ : ByteArray) = bt at *
        generalize t.length = tl at *
        have hix := index_run1 Tryz.underlying25 size_str ha i hlt (cap := tc)
        replace g0 := below_keeps HB0.out _ _ g0
        clear ha hti
        go_wp2_with fail
        go_roundw
        case rel => exact ⟨z + 1 + tl, i + 1, by first | go_num | (rw [hsb]; go_num), hlt, HST.out.2, by go_num, HST.out.1, by first | trivial | rfl⟩
        case measure => simp [intOf]; omega
      · obtain rfl : i = tn := by omega
        have HZ2 : Hid (z = 1 + twt us) := by
          have := HZ.out
          rwa [HTN.out, List.take_length] at this
        go_wp2_with fail
        clear hc2
        go_loopw [5, 7] (fun v5 v7 wq => ∃ (y j : Nat), v5 = .int .i64 y ∧ j ≤ sn ∧ y ≤ 1099511627776 ∧ v7 = .int .i64 j ∧ Hid (szGo (szV (szM k d)) (vs.drop j) y = szGo (szV (szM k d)) vs (1 + twt us)) ∧ Hid (Below W0.heap.size W0 wq)) (fun _ v7 _ => sn - (intOf v7).toNat)
        case atStart =>
          refine ⟨z, 0, rfl, by omega, hz, rfl, ?_, Below.refl _ _⟩
          rw [Hid, List.drop_zero, HZ2.out]
        case round =>
          obtain ⟨y, j, rfl, hj, hy, rfl, HG, HBQ⟩ := hrel
          have c3 := below_keeps HBQ.out _ _ HC3.out
          have hbl3 : w.heap.size < wr.heap.size := World.block_lt_of_cell? wr _ c3
          by_cases hls : j < sn
          · have hmi : vs[j]? = some (vs[j]'(by rw [← HSN.out]; exact hls)) := List.getElem?_eq_getElem _
            generalize vs[j]'(by rw [← HSN.out]; exact hls) = m at hmi
            have hsa := HSA.out
            obtain ⟨b, o, v1, v2, v3, ha, g0, g1, g2, g3, hM⟩ := hsa j m hmi
            clear hsa
            have hBq : Below w.heap.size w wr := HB0.out.trans (HBQ.out.mono HB0.out.size)
            have hkr := below_keeps hBq
            replace g0 := hkr _ _ g0
            replace g1 := hkr _ _ g1
            replace g2 := hkr _ _ g2
            replace g3 := hkr _ _ g3
            have HMM := hid (VMsg.below hM hBq)
            have HMB : Hid (vwt (mwt d) m ≤ 1099511627776) := by
              have h1 := mem_sum_le (vwt (mwt d)) vs m (List.mem_of_getElem? hmi)
              have h2 := HV.out
              show _ ≤ _; omega
            have HGO : Hid (szGo (szV (szM k d)) vs (1 + twt us) = if 5000 ≤ y + szV (szM k d) m then 5000 else szGo (szV (szM k d)) (vs.drop (j + 1)) (y + szV (szM k d) m)) := by
              rw [Hid, ← HG.out, szGo_at _ _ _ _ _ hmi]
            have hs : szV (szM k d) m ≤ 5000 + 1099511627776 := Nat.le_trans (szV_le (szM k d) (mwt d) m) (by have := HMB.out; omega)
            have hix := index_run Tryz.underlying24 size_val ha j hls (cap := sc)
            have hbl : b < wr.heap.size := World.block_lt_of_cell? wr _ g0
            clear ha hkr hM hBq hmi HG
            generalize m.num = num at *
            go_wp2_with fail
            refine (HIH.out _ _ _ HMM.out HMB.out).mono ?_
            rintro e w3 ⟨rfl, hb3⟩
            generalize szV (szM k d) m = s at *
            have HB3 : Hid (Below W0.heap.size W0 w3) := HBQ.out.trans (hb3.mono HBQ.out.size)
            by_cases h5 : 5000 ≤ y + s
            · go_wp2_with fail
              go_ret
              refine ⟨ret1 (int_eq ?_), HB0.out.trans (HB3.out.mono HB0.out.size)⟩
              rw [HGO.out, if_pos h5]
              rfl
            · go_wp2_with fail
              go_roundw
              case rel =>
                refine ⟨y + s, j + 1, by go_num, hls, by omega, by go_num, ?_, HB3⟩
                rw [Hid, HGO.out, if_neg h5]
              case measure => simp [intOf]; omega
          · obtain rfl : j = sn := by omega
            go_wp2_with fail
            go_ret
            refine ⟨ret1 (int_eq ?_), HB0.out.trans (HBQ.out.mono HB0.out.size)⟩
            have := HG.out
            rw [HSN.out, List.drop_length] at this
            rw [← this]; rfl
end Go.Proofs.YtbdeclkccchnoaaGreat
namespace Go.Proofs.YtbdeclkccchnoaaGreat
open Go.RowKit
theorem little_byte (x k : Nat) : (x : Int) / 2 ^ (8 * k) % 256 = ((b8 (x / 256 ^ k % 256)).toNat : Int) := by
  have e : (2 : Int) ^ (8 * k) = ((256 ^ k : Nat) : Int) := by
    rw [Int.pow_mul]
    simp
  rw [e]
  simp [b8]
set_option maxRecDepth 100000 in
set_option maxHeartbeats 4000000 in
theorem bits_Little_4 (x : Nat) (w : World) :
    Calls Tryz.prog 89 #[.int .u64 x, .int .i64 4] w fun e w' => ∃ v', e = .returned v' ∧ Own w' w.heap.size v' (little 4 x) ∧ Below w.heap.size w w' := by
  go_enter Tryz.func89, Tryz.ntmps89
  go_wp2_with fail
  go_loopw [5, 6, 10] (fun v5 _ v10 wr => ∃ k : Nat, k ≤ 4 ∧ v10 = .int .i64 k ∧ Hid (Below w.heap.size w wr ∧ Own wr w.heap.size v5 (little k x))) (fun _ _ v10 _ => 4 - (intOf v10).toNat)
  case atStart => exact ⟨0, by omega, rfl, Below.refl _ _, own_nil _ _⟩
  case round =>
    obtain ⟨k, hk, rfl, HB⟩ := hrel
    by_cases hlt : k < 4
    · have hB := bytes_one wr 5 (b8 (x / 256 ^ k % 256)) ((x : Int) / 2 ^ (8 * k) % 256) (little_byte x k)
      have hlen := little_len k x
      obtain ⟨v', w', hr, hO', hg, -⟩ := own_append (w := wr.alloc (.cells #[.int .u8 ((x : Int) / 2 ^ (8 * k) % 256)] 5)) (World.ownsRow.alloc HB.out.2 _) hB (by rw [hlen]; simp; omega) (by have := HB.out.1.size; simp; omega)
      have HR := hid hr
      have HO2 := hid hO'
      have hg2 := own_grown (w := wr.alloc (.cells #[.int .u8 ((x : Int) / 2 ^ (8 * k) % 256)] 5)) (World.ownsRow.alloc HB.out.2 _) (HB.out.1.alloc HB.out.1.size _) hg
      have HG2 := hid hg2
      clear hB hlen hr hO' hg hg2
      go_wp2_with (at_builtin; refine wpList_append_eq rfl _ _ _ rfl _ _ rfl rfl HR.out ?_)
      go_roundw
      case rel => exact ⟨k + 1, hlt, by go_num, HG2.out, by rw [little_succ]; exact HO2.out⟩
      case measure => simp [intOf]; omega
    · obtain rfl : k = 4 := by omega
      go_wp2_with fail
      go_ret
      exact ⟨_, rfl, HB.out.2, HB.out.1⟩
set_option maxRecDepth 100000 in
set_option maxHeartbeats 4000000 in
theorem bits_Little_8 (x : Nat) (w : World) :
    Calls Tryz.prog 89 #[.int .u64 x, .int .i64 8] w fun e w' => ∃ v', e = .returned v' ∧ Own w' w.heap.size v' (little 8 x) ∧ Below w.heap.size w w' := by
  go_enter Tryz.func89, Tryz.ntmps89
  go_wp2_with fail
  go_loopw [5, 6, 10] (fun v5 _ v10 wr => ∃ k : Nat, k ≤ 8 ∧ v10 = .int .i64 k ∧ Hid (Below w.heap.size w wr ∧ Own wr w.heap.size v5 (little k x))) (fun _ _ v10 _ => 8 - (intOf v10).toNat)
  case atStart => exact ⟨0, by omega, rfl, Below.refl _ _, own_nil _ _⟩
  case round =>
    obtain ⟨k, hk, rfl, HB⟩ := hrel
    by_cases hlt : k < 8
    · have hB := bytes_one wr 5 (b8 (x / 256 ^ k % 256)) ((x : Int) / 2 ^ (8 * k) % 256) (little_byte x k)
      have hlen := little_len k x
      obtain ⟨v', w', hr, hO', hg, -⟩ := own_append (w := wr.alloc (.cells #[.int .u8 ((x : Int) / 2 ^ (8 * k) % 256)] 5)) (World.ownsRow.alloc HB.out.2 _) hB (by rw [hlen]; simp; omega) (by have := HB.out.1.size; simp; omega)
      have HR := hid hr
      have HO2 := hid hO'
      have hg2 := own_grown (w := wr.alloc (.cells #[.int .u8 ((x : Int) / 2 ^ (8 * k) % 256)] 5)) (World.ownsRow.alloc HB.out.2 _) (HB.out.1.alloc HB.out.1.size _) hg
      have HG2 := hid hg2
      clear hB hlen hr hO' hg hg2
      go_wp2_with (at_builtin; refine wpList_append_eq rfl _ _ _ rfl _ _ rfl rfl HR.out ?_)
      go_roundw
      case rel => exact ⟨k + 1, hlt, by go_num, HG2.out, by rw [little_succ]; exact HO2.out⟩
      case measure => simp [intOf]; omega
    · obtain rfl : k = 8 := by omega
      go_wp2_with fail
      go_ret
      exact ⟨_, rfl, HB.out.2, HB.out.1⟩
set_option maxRecDepth 100000 in
set_option maxHeartbeats 4000000 in
theorem scalar_wide (k : Int) (hk : k = 0 ∨ k = 1 ∨ k = 5) (w : World) :
    Calls Tryz.prog 88 #[.int .i64 k] w fun e w' => e = .returned (.int .i64 (if k = 1 then 8 else if k = 5 then 4 else 0)) ∧ w = w' := by
  rcases hk with rfl | rfl | rfl
  all_goals
    go_enter Tryz.func88, Tryz.ntmps88
    go_wp2_with fail
    go_ret
    exact ⟨rfl, rfl⟩
theorem kput_cases {k : Int} (hk : knumber k = true) : (kwire k = 1 ∧ ∀ x, kput k x = little 8 (kcanon k x)) ∨ (kwire k = 5 ∧ ∀ x, kput k x = little 4 (kcanon k x)) ∨ (kwire k = 0 ∧ ∀ x, kput k x = vput (kcanon k x)) := by
  have hk' : 1 ≤ k ∧ k ≤ 14 := of_decide_eq_true hk
  unfold kwire kput
  rw [if_neg (by omega), if_neg (by omega)]
  by_cases h1 : 12 ≤ k
  · exact .inl ⟨by rw [if_pos h1], fun x => by rw [if_pos h1]⟩
  · by_cases h2 : 9 ≤ k
    · exact .inr (.inl ⟨by rw [if_neg h1, if_pos h2], fun x => by rw [if_neg h1, if_pos h2]⟩)
    · exact .inr (.inr ⟨by rw [if_neg h1, if_neg h2], fun x => by rw [if_neg h1, if_neg h2]⟩)
set_option maxRecDepth 100000 in
set_option maxHeartbeats 4000000 in
theorem scalar_Put {k : Int} (hk : knumber k = true) (x : Nat) (hx : x < 2 ^ 64) (w : World) :
    Calls Tryz.prog 57 #[.int .i64 k, .int .u64 x] w fun e w' => ∃ v', e = .returned (.tuple #[v', .int .u8 0]) ∧ Own w' w.heap.size v' (kput k x) ∧ Below w.heap.size w w' := by
  have HK := hid hk
  have hkr : kright k = true := by
    have h : 1 ≤ k ∧ k ≤ 14 := of_decide_eq_true hk
    simp [kright]; omega
  have HKR := hid hkr
  have HC64 := hid (kcanon_lt k hx)
  obtain ⟨y, HY⟩ : ∃ y, Hid (y = kcanon k x) := ⟨_, rfl⟩
  rw [← HY.out] at HC64
  have HYL : Hid (y ≤ 18446744073709551615) := by have := HC64.out; show _ ≤ _; omega
  have hc := kput_cases hk
  clear hk hkr hx
  rcases hc with ⟨h1, h2⟩ | ⟨h1, h2⟩ | ⟨h1, h2⟩
  all_goals
    have H1 := hid h1
    have H2 := hid (h2 x)
    rw [← HY.out] at H2
    clear h1 h2
  · go_enter Tryz.func57, Tryz.ntmps57
    go_wp2_with (first | (go_at_call 78; refine (kind_Canon HK.out _ _).mono ?_; rintro e w1 ⟨rfl, hb1⟩; rw [← HY.out]) | (go_at_call 53; refine (kind_Wire _ _).mono ?_; rintro e w2 ⟨rfl, hb2⟩; rw [HKR.out, H1.out]) | (go_at_call 88; refine (scalar_wide 1 (by decide) _).mono ?_; rintro e w3 ⟨rfl, rfl⟩) | (go_at_call 89; refine (bits_Little_8 y _).mono ?_; rintro e w4 ⟨v4, rfl, hO, hb4⟩))
    have hb := hb1.trans (hb2.mono hb1.size)
    go_ret2
    exact ⟨_, rfl, by rw [H2.out]; exact hO.mono hb.size, hb.trans (hb4.mono hb.size)⟩
  · go_enter Tryz.func57, Tryz.ntmps57
    go_wp2_with (first | (go_at_call 78; refine (kind_Canon HK.out _ _).mono ?_; rintro e w1 ⟨rfl, hb1⟩; rw [← HY.out]) | (go_at_call 53; refine (kind_Wire _ _).mono ?_; rintro e w2 ⟨rfl, hb2⟩; rw [HKR.out, H1.out]) | (go_at_call 88; refine (scalar_wide 5 (by decide) _).mono ?_; rintro e w3 ⟨rfl, rfl⟩) | (go_at_call 89; refine (bits_Little_4 y _).mono ?_; rintro e w4 ⟨v4, rfl, hO, hb4⟩))
    have hb := hb1.trans (hb2.mono hb1.size)
    go_ret2
    exact ⟨_, rfl, by rw [H2.out]; exact hO.mono hb.size, hb.trans (hb4.mono hb.size)⟩
  · go_enter Tryz.func57, Tryz.ntmps57
    go_wp2_with (first | (go_at_call 78; refine (kind_Canon HK.out _ _).mono ?_; rintro e w1 ⟨rfl, hb1⟩; rw [← HY.out]) | (go_at_call 53; refine (kind_Wire _ _).mono ?_; rintro e w2 ⟨rfl, hb2⟩; rw [HKR.out, H1.out]) | (go_at_call 88; refine (scalar_wide 0 (by decide) _).mono ?_; rintro e w3 ⟨rfl, rfl⟩) | (go_at_call 90; refine (varint_Put (l := []) (bytes_nil _) (by simp) y HC64.out).mono ?_; rintro e w4 ⟨v4, rfl, hO, hb4⟩))
    have hb := hb1.trans (hb2.mono hb1.size)
    go_ret2
    exact ⟨_, rfl, by rw [H2.out]; exact hO.mono hb.size, hb.trans (hb4.mono hb.size)⟩
set_option maxRecDepth 100000 in
set_option maxHeartbeats 4000000 in
theorem run_Pack {k : Int} (hk : knumber k = true) {w : World} {v : Value} {l : List Nat} (h : WordsAt w v l) (hl : l.length ≤ 68719476736) :
    Calls Tryz.prog 55 #[.int .i64 k, v] w fun e w' => ∃ v', e = .returned (.tuple #[v', .int .u8 0]) ∧ Own w' w.heap.size v' (kpack k l) ∧ Below w.heap.size w w' := by
  have HK := hid hk
  have HL64 : Hid (∀ x ∈ l, x < 2 ^ 64) := h.2
  obtain ⟨hlen, a, cap, rfl, -, hat⟩ := h.open
  have HPL : Hid (∀ i, (kpack k (l.take i)).length ≤ 10 * l.length) := by
    intro i
    have h1 := kpack_le k (l.take i) (fun x hx => HL64.out x (List.mem_of_mem_take hx))
    have h2 : (l.take i).length ≤ l.length := by rw [List.length_take]; omega
    omega
  obtain ⟨n, HN⟩ : ∃ n, Hid (n = l.length) := ⟨_, rfl⟩
  rw [← HN.out] at hlen hl HPL ⊢
  have HAT := hid hat
  have HNL := hid hl
  clear hat h hk hl
  go_enter Tryz.func55, Tryz.ntmps55
  go_wp2_with (go_at_call 54; refine (kind_Number _ _).mono ?_; rintro e w1 ⟨rfl, hb1⟩; rw [HK.out])
  have HB1 := hid hb1
  clear hb1
  go_loopw [6, 8, 9, 10, 16] (fun v6 _ _ _ v16 wr => ∃ i : Nat, i ≤ n ∧ v16 = .int .i64 i ∧ Hid (Below w.heap.size w wr ∧ Own wr w.heap.size v6 (kpack k (l.take i)))) (fun _ _ _ _ v16 _ => n - (intOf v16).toNat)
  case atStart => exact ⟨0, by omega, rfl, HB1.out, own_nil _ _⟩
  case round =>
    obtain ⟨i, hi, rfl, HB⟩ := hrel
    by_cases hlt : i < n
    · have hat := HAT.out
      have hxi : l[i]? = some (l[i]'(by rw [← HN.out]; exact hlt)) := List.getElem?_eq_getElem _
      generalize l[i]'(by rw [← HN.out]; exact hlt) = x at hxi
      obtain ⟨hx64, b, o, ha, cj⟩ := hat i x hxi
      clear hat
      have hix := index_run1 Tryz.underlying49 size_u64 ha i hlt (cap := cap)
      have cj' := below_keeps HB.out.1 _ _ cj
      have hbl : b < wr.heap.size := World.block_lt_of_cell? wr _ cj'
      have HX := hid hx64
      have HT := hid (kpack_take k l i x hxi)
      have HTL : Hid ((kpack k (l.take i)).length + (kput k x).length ≤ 687194767360) := by
        have h1 := HPL.out (i + 1)
        rw [HT.out, List.length_append] at h1
        have := HNL.out
        show _ ≤ _; omega
      have HU : Hid (wordV x = .int .u64 x) := rfl
      rw [HU.out] at cj'
      clear ha cj hx64 hxi
      go_wp2_with fail
      refine (scalar_Put HK.out x HX.out _).mono ?_
      rintro e w2 ⟨v2, rfl, hO2, hb2⟩
      have hO := HB.out.2.below_of hb2
      have hB2 := HB.out.1.trans (hb2.mono HB.out.1.size)
      obtain ⟨v3, w3, hr3, hO3, hg3, -⟩ := own_append hO (hO2.bytes (by have := HTL.out; omega)) (by have := HTL.out; omega) hB2.size
      have HR3 := hid hr3
      have HO3 := hid hO3
      have HB3 := hid (own_grown hO hB2 hg3)
      clear hO2 hb2 hO hB2 hr3 hO3 hg3
      go_wp2_with (at_builtin; refine wpList_append_eq rfl _ _ _ rfl _ _ rfl rfl HR3.out ?_)
      go_roundw
      case rel => exact ⟨i + 1, hlt, by go_num, HB3.out, by rw [HT.out]; exact HO3.out⟩
      case measure => simp [intOf]; omega
    · obtain rfl : i = n := by omega
      have hO := HB.out.2
      rw [List.take_of_length_le (by rw [HN.out]; exact Nat.le_refl _)] at hO
      have HO := hid hO
      clear hO
      go_wp2_with fail
      go_ret2
      exact ⟨_, rfl, HO.out, HB.out.1⟩
end Go.Proofs.YtbdeclkccchnoaaGreat
