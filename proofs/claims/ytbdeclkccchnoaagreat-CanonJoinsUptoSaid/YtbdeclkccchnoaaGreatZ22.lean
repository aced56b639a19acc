/- Parts of a proof: texts of the author, merged. No condition of their own. -/
import Derived.Test.YtbdeclkccchnoaaGreatZ11
import Derived.Test.YtbdeclkccchnoaaGreatZ21
import Derived.Deep.CutBlock
namespace Go.Proofs.YtbdeclkccchnoaaGreat
open Go.RowKit
theorem fits_num {α : Type} {R : Int → α → Bool} {f : Fld} {x : Val α} (h : fitsB R f x = true) (hk : knumber f.kind = true) :
    x.texts = [] ∧ x.subs = [] ∧ 1 ≤ x.words.length ∧ (f.rep = false → x.words.length = 1) := by
  unfold fitsB at h
  by_cases h1 : x.words.length + x.texts.length + x.subs.length = 0 ∨ 1 < x.words.length + x.texts.length + x.subs.length ∧ f.rep = false
  · rw [if_pos h1] at h; exact absurd h (by decide)
  · rw [if_neg h1, if_pos hk, Bool.and_eq_true] at h
    have h2 := of_decide_eq_true h.1
    refine ⟨List.length_eq_zero_iff.1 h2.1, List.length_eq_zero_iff.1 h2.2, by omega, fun hr => ?_⟩
    rcases Nat.lt_or_ge 1 x.words.length with h3 | h3
    · exact absurd (.inr ⟨by omega, hr⟩) h1
    · omega
theorem fits_kind {α : Type} {R : Int → α → Bool} {f : Fld} {x : Val α} (h : fitsB R f x = true) : kright f.kind = true := by
  rw [fitsB_ref] at h
  by_cases hk : kright f.kind = true
  · exact hk
  · rw [if_pos (.inr (by simpa using hk))] at h
    exact absurd h (by decide)
theorem fits_words {α : Type} {R : Int → α → Bool} {f : Fld} {x : Val α} (h : fitsB R f x = true) (hk : knumber f.kind = false) : x.words = [] := by
  unfold fitsB at h
  by_cases h1 : x.words.length + x.texts.length + x.subs.length = 0 ∨ 1 < x.words.length + x.texts.length + x.subs.length ∧ f.rep = false
  · rw [if_pos h1] at h; exact absurd h (by decide)
  · rw [if_neg h1, if_neg (by rw [hk]; decide)] at h
    by_cases h17 : f.kind = 17
    · rw [if_pos h17, Bool.and_eq_true] at h
      exact List.length_eq_zero_iff.1 (of_decide_eq_true h.1).1
    · rw [if_neg h17] at h
      by_cases h15 : f.kind = 15
      · rw [if_pos h15, Bool.and_eq_true] at h
        exact List.length_eq_zero_iff.1 (of_decide_eq_true h.1).1
      · rw [if_neg h15, Bool.and_eq_true] at h
        exact List.length_eq_zero_iff.1 (of_decide_eq_true h.2).1
def encN (f : Fld) (ws : List Nat) : List UInt8 := if knumber f.kind = true then (if f.rep = true then rput f.number 2 (kpack f.kind ws) else rput f.number (kwire f.kind) (kput f.kind (ws.getD 0 0))) else []
theorem encV_parts {α : Type} (E : Int → α → List UInt8) (f : Fld) (x : Val α) (h : knumber f.kind = true → x.texts = [] ∧ x.subs = []) :
    encV E f x = encN f x.words ++ (x.texts.flatMap (rput f.number 2) ++ x.subs.flatMap fun y => rput f.number 2 (E f.of y)) := by
  unfold encV encN
  by_cases hk : knumber f.kind = true
  · obtain ⟨h1, h2⟩ := h hk
    rw [if_pos hk, if_pos hk, h1, h2]
    simp
  · rw [if_neg hk, if_neg hk]
    simp
theorem WrAt.later {w w' : World} {g : Nat} {sv bv : Value} {l : List UInt8} (h : WrAt w g sv bv l) (hb : Below w.heap.size w w') : WrAt w' g sv bv l := ⟨h.1.below hb, h.2.below_of hb⟩
theorem WrAt.free {w : World} {g b : Nat} {sv bv : Value} {l : List UInt8} (h : WrAt w g sv bv l) (hb : w.heap.size ≤ b) : b ≠ g ∧ bv.ownBlock ≠ some b :=
  ⟨by have := h.1.lt; omega, fun e => by have := (World.ownsRow.lt h.2 b e).2; omega⟩
def MessageOk (w0 : World) (s : List Mes) (d : Nat) : Prop := ∀ (w : World) (g : Nat) (sv bv v : Value) (l : List UInt8) (root : Int) (x : M d), SchemaAt w0 sv s → MsgAt d w0 v x → Below w0.heap.size w0 w → w0.heap.size ≤ g → WrAt w g sv bv l → rightB s d root x = true →
  l.length + (encM s d root x).length ≤ 68719476736 → mwt d x ≤ 34359738368 →
  Calls Tryz.prog 17 #[.pointer (some ⟨g, 0, none⟩), .int .i64 root, v] w fun e w' => e = .returned (.tuple #[]) ∧ ∃ bv', WrAt w' g sv bv' (l ++ encM s d root x) ∧ WrStep g bv w bv' w'
def ValueOk (w0 : World) (s : List Mes) (d : Nat) : Prop := ∀ (w : World) (g : Nat) (sv bv v : Value) (l : List UInt8) (f : Fld) (x : Val (M d)), SchemaAt w0 sv s → ValAt (MsgAt d) w0 v x → Below w0.heap.size w0 w → w0.heap.size ≤ g → WrAt w g sv bv l → fitsB (rightB s d) f x = true →
  1 ≤ f.number ∧ f.number ≤ 536870911 → l.length + (encV (encM s d) f x).length ≤ 68719476736 → vwt (mwt d) x ≤ 34359738368 →
  Calls Tryz.prog 29 #[.pointer (some ⟨g, 0, none⟩), f.val, v] w fun e w' => e = .returned (.tuple #[]) ∧ ∃ bv', WrAt w' g sv bv' (l ++ encV (encM s d) f x) ∧ WrStep g bv w bv' w'
structure WrMid (W : World) (g : Nat) (sv bv : Value) (b1 b2 : Nat) (B1 B2 : List Value) (wx : World) (bv' : Value) (l' : List UInt8) : Prop where
  at_ : WrAt wx g sv bv' l'
  step : WrStep g bv W bv' wx
  blk1 : Blk wx b1 B1 44
  blk2 : Blk wx b2 B2 52
def Apt (W : World) (g : Nat) (bv : Value) (b : Nat) : Prop := b < W.heap.size ∧ b ≠ g ∧ bv.ownBlock ≠ some b
theorem WrStep.apt {g : Nat} {bv bv' : Value} {W wx : World} (h : WrStep g bv W bv' wx) {b : Nat} (hb : Apt W g bv b) : bv'.ownBlock ≠ some b := by
  obtain ⟨h1, h2, h3⟩ := hb
  rcases h.own with e | e | ⟨k, hk, e⟩
  · rw [e]; exact h3
  · rw [e]; simp
  · rw [e]; intro e2; simp at e2; omega
theorem WrMid.put {W : World} {g : Nat} {sv bv : Value} {b1 b2 : Nat} {B1 B2 : List Value} {wx wy wz : World} {bv' bv'' : Value} {l' l'' : List UInt8} (h : WrMid W g sv bv b1 b2 B1 B2 wx bv' l')
    (hb : Below wx.heap.size wx wy) (hA : WrAt wz g sv bv'' l'') (hS : WrStep g bv' wy bv'' wz) (h1 : Apt W g bv b1) (h2 : Apt W g bv b2) : WrMid W g sv bv b1 b2 B1 B2 wz bv'' l'' :=
  ⟨hA, (h.step.trans (WrStep.of_below hb)).trans hS, hS.blk (h.blk1.below hb) h1.2.1 (h.step.apt h1), hS.blk (h.blk2.below hb) h2.2.1 (h.step.apt h2)⟩
theorem WrMid.free {W : World} {g : Nat} {sv bv : Value} {b1 b2 : Nat} {B1 B2 : List Value} {wx : World} {bv' : Value} {l' : List UInt8} (h : WrMid W g sv bv b1 b2 B1 B2 wx bv' l') (l'' : List UInt8) (e : l' = l'') : WrMid W g sv bv b1 b2 B1 B2 wx bv' l'' := e ▸ h
theorem flat_take_len {α : Type} (f : α → List UInt8) (l : List α) (k : Nat) : ((l.take k).flatMap f).length ≤ (l.flatMap f).length := by
  conv => rhs; rw [← List.take_append_drop k l]
  rw [List.flatMap_append, List.length_append]
  omega
theorem flat_take_succ {α : Type} (f : α → List UInt8) (l : List α) (k : Nat) (x : α) (h : l[k]? = some x) : (l.take (k + 1)).flatMap f = (l.take k).flatMap f ++ f x := by
  rw [List.take_add_one, h, List.flatMap_append]
  simp
theorem rput_len (n x : Int) (t : List UInt8) : t.length ≤ (rput n x t).length := by
  unfold rput
  rw [List.length_append, List.length_append]
  omega
theorem fits_subs {α : Type} {R : Int → α → Bool} {f : Fld} {x : Val α} (h : fitsB R f x = true) {y : α} (hy : y ∈ x.subs) : knumber f.kind = false ∧ R f.of y = true := by
  have hl : x.subs.length ≠ 0 := fun e => by rw [List.length_eq_zero_iff.1 e] at hy; simp at hy
  unfold fitsB at h
  by_cases h1 : x.words.length + x.texts.length + x.subs.length = 0 ∨ 1 < x.words.length + x.texts.length + x.subs.length ∧ f.rep = false
  · rw [if_pos h1] at h; exact absurd h (by decide)
  · rw [if_neg h1] at h
    by_cases hk : knumber f.kind = true
    · rw [if_pos hk, Bool.and_eq_true] at h
      exact absurd (of_decide_eq_true h.1).2 hl
    · rw [if_neg hk] at h
      refine ⟨by simpa using hk, ?_⟩
      by_cases h17 : f.kind = 17
      · rw [if_pos h17, Bool.and_eq_true] at h
        exact List.all_eq_true.1 h.2 y hy
      · rw [if_neg h17] at h
        by_cases h15 : f.kind = 15
        · rw [if_pos h15, Bool.and_eq_true] at h
          exact absurd (of_decide_eq_true h.1).2 hl
        · rw [if_neg h15, Bool.and_eq_true] at h
          exact absurd (of_decide_eq_true h.2).2 hl
theorem msg_form {d : Nat} {w : World} {v1 v2 : Value} {x : M d} (h : MsgAt d w (.agg #[v1, v2]) x) : ∃ a n c a' n' c', v1 = .slice a n c ∧ v2 = .slice a' n' c' := by
  cases d with
  | zero => exact h.elim
  | succ d =>
    obtain ⟨vv, uv, e, hV, hU⟩ := h
    cases e
    obtain ⟨-, va, vc, rfl, -, -⟩ := hV.open
    obtain ⟨-, ua, uc, rfl, -, -⟩ := hU.open
    exact ⟨_, _, _, _, _, _, rfl, rfl⟩
theorem wire_two {k : Int} (h : kright k = true) (hk : knumber k = false) : kwire k = 2 := by
  unfold kright at h
  unfold knumber at hk
  simp at h hk
  unfold kwire
  rw [if_neg (by omega), if_pos (by omega)]
set_option maxRecDepth 100000 in
set_option maxHeartbeats 4000000 in
theorem writer_value {w0 : World} {s : List Mes} {d : Nat} (ih : MessageOk w0 s d) : ValueOk w0 s d := by
  intro w g sv bv v l f x hS hx hb hg hA hfit hnum hlen hwt
  obtain ⟨name, number, kind, rep, packed, of⟩ := f
  obtain ⟨wv, tv, sv', rfl, hn64, hW, hT, hSu⟩ := hx
  obtain ⟨-, ssa, ssc, rfl, -⟩ := hS.open
  obtain ⟨sln, HSLN⟩ : ∃ n, Hid (n = s.length) := ⟨_, rfl⟩
  rw [← HSLN.out] at hS hA ⊢
  obtain ⟨sv, HSV⟩ : ∃ sv, Hid (sv = Value.slice ssa sln ssc) := ⟨_, rfl⟩
  rw [← HSV.out] at hS hA ⊢
  obtain ⟨hwl, wa, wcp, rfl, -, hwa⟩ := hW.open
  obtain ⟨htl, ta, tc, rfl, -, hta⟩ := hT.open
  obtain ⟨hsl, sa, sc, rfl, -, hsa⟩ := hSu.open
  obtain ⟨nm, rfl⟩ : ∃ n : Nat, number = n := ⟨number.toNat, by have := hnum.1; simp at this; omega⟩
  have HFN := hid (fun h => fits_num hfit h)
  have HFW := hid (fun h => fits_words hfit h)
  generalize x.num = num at *
  simp only [Fld.val]
  have hkr := fits_kind hfit
  simp only at hkr hnum
  have HKR := hid hkr
  have HS := hid hS
  have HB := hid hb
  have HG := hid hg
  have HWD := hid hW
  have HIH := hid ih
  have HNUM := hid hnum
  have HLEN := hid hlen
  have HWT := hid hwt
  have HWA := hid hwa
  have HTA := hid hta
  have HSA := hid hsa
  have HSU := hid hSu
  have HTX := hid hT
  have HFIT := hid hfit
  obtain ⟨wn, HWN⟩ : ∃ n, Hid (n = x.words.length) := ⟨_, rfl⟩
  obtain ⟨tn, HTN⟩ : ∃ n, Hid (n = x.texts.length) := ⟨_, rfl⟩
  obtain ⟨sn, HSN⟩ : ∃ n, Hid (n = x.subs.length) := ⟨_, rfl⟩
  rw [← HWN.out] at hwl ⊢
  rw [← HTN.out] at htl ⊢
  rw [← HSN.out] at hsl ⊢
  obtain ⟨L1, HL1⟩ : ∃ L1 : List Value, Hid (L1 = [.string name, .int .i64 nm, .int .i64 kind, .bool rep, .bool packed, .int .i64 of]) := ⟨_, rfl⟩
  obtain ⟨L2, HL2⟩ : ∃ L2 : List Value, Hid (L2 = [.int .i64 num, .slice wa wn wcp, .slice ta tn tc, .slice sa sn sc]) := ⟨_, rfl⟩
  have H2 : Hid (∀ W, W = ((w.alloc (.cells #[.string name, .int .i64 nm, .int .i64 kind, .bool rep, .bool packed, .int .i64 of] 44)).alloc (.cells #[.int .i64 num, .slice wa wn wcp, .slice ta tn tc, .slice sa sn sc] 52)) →
      Blk W w.heap.size L1 44 ∧ Blk W (w.heap.size + 1) L2 52 ∧ Below w.heap.size w W ∧ w.heap.size + 1 < W.heap.size) := by
    rintro W rfl
    rw [HL1.out, HL2.out]
    refine ⟨(Blk.new w _ _).alloc _, ?_, ((Below.refl w.heap.size w).alloc (Nat.le_refl _) _).alloc (by simp) _, by simp⟩
    have := Blk.new (w.alloc (.cells #[.string name, .int .i64 nm, .int .i64 kind, .bool rep, .bool packed, .int .i64 of] 44)) [.int .i64 num, .slice wa wn wcp, .slice ta tn tc, .slice sa sn sc] 52
    rw [show (w.alloc (.cells #[.string name, .int .i64 nm, .int .i64 kind, .bool rep, .bool packed, .int .i64 of] 44)).heap.size = w.heap.size + 1 by simp] at this
    exact this
  have HHA := hid hA
  have HTG : Hid (tagOk nm 2 = true) := decide_eq_true ⟨by have := hnum.1; omega, by have := hnum.2; omega, by omega⟩
  have HTAG : Hid (tagOk nm (kwire kind) = true) := by
    refine decide_eq_true ⟨by have := hnum.1; omega, by have := hnum.2; omega, ?_⟩
    unfold kwire
    repeat' split
    all_goals omega
  have HPARTS := hid (encV_parts (encM s d) ⟨name, nm, kind, rep, packed, of⟩ x fun h => ⟨(fits_num hfit h).1, (fits_num hfit h).2.1⟩)
  clear hkr hS hb hg hW hT hSu ih hA hnum hlen hwt hwa hta hsa hfit
  go_enter Tryz.func29, Tryz.ntmps29
  go_wp2_with fail
  have h2 := H2.out _ rfl
  clear H2
  obtain ⟨W2, HW2⟩ : ∃ W2, Hid (W2 = ((w.alloc (.cells #[.string name, .int .i64 nm, .int .i64 kind, .bool rep, .bool packed, .int .i64 of] 44)).alloc (.cells #[.int .i64 num, .slice wa wn wcp, .slice ta tn tc, .slice sa sn sc] 52))) := ⟨_, rfl⟩
  rw [← HW2.out] at h2 ⊢
  obtain ⟨hk1, hk2, hb1, hsz⟩ := h2
  obtain ⟨b1, HB1E⟩ : ∃ b1, Hid (b1 = w.heap.size) := ⟨_, rfl⟩
  have hg1 : g < w.heap.size := HHA.out.1.lt
  have HAP1 : Hid (Apt W2 g bv b1) := by
    have := HHA.out.free (Nat.le_of_eq HB1E.out.symm)
    exact ⟨by rw [HB1E.out]; omega, this.1, this.2⟩
  have HAP2 : Hid (Apt W2 g bv (b1 + 1)) := by
    have := HHA.out.free (b := b1 + 1) (by rw [HB1E.out]; omega)
    exact ⟨by rw [HB1E.out]; omega, this.1, this.2⟩
  have HMID0 : Hid (WrMid W2 g sv bv b1 (b1 + 1) L1 L2 W2 bv l) := by
    refine ⟨HHA.out.later hb1, WrStep.refl _ _ _, ?_, ?_⟩
    · rw [HB1E.out]; exact hk1
    · rw [HB1E.out]; exact hk2
  rw [← HB1E.out]
  have HBW := hid hb1
  have HD0 : Hid (Below w0.heap.size w0 W2) := HB.out.trans (hb1.mono HB.out.size)
  have HAW2 : Hid (WrAt W2 g sv bv l) := HHA.out.later hb1
  have hgs : w0.heap.size ≤ g := HG.out
  clear hk1 hk2 hb1 HW2 HHA hsz hg1
  refine (kind_Wire kind _).mono ?_
  rintro e w1 ⟨rfl, hb2⟩
  rw [HKR.out]
  have HMID1 : Hid (WrMid W2 g sv bv b1 (b1 + 1) L1 L2 w1 bv l) :=
    ⟨HMID0.out.at_.later hb2, HMID0.out.step.trans (WrStep.of_below hb2), HMID0.out.blk1.below hb2, HMID0.out.blk2.below hb2⟩
  clear hb2 HMID0
  go_upto_block 0 with fail
  go_cut [] (fun wx => ∃ bv', Hid (WrMid W2 g sv bv b1 (b1 + 1) L1 L2 wx bv' (l ++ encN ⟨name, nm, kind, rep, packed, of⟩ x.words)))
  case first =>
    go_upto_region 2 with fail
    go_cut [23] (fun s23 wx => s23 = .bool (knumber kind && rep) ∧ Hid (WrMid W2 g sv bv b1 (b1 + 1) L1 L2 wx bv l))
    case first =>
      have h1 := HMID1.out.blk1
      rw [HL1.out] at h1
      have l1 := h1.lt
      have k2 := h1.cell 2 _ rfl
      clear h1
      go_wp2_with fail
      refine (kind_Number kind _).mono ?_
      rintro e w2 ⟨rfl, hb3⟩
      have HFF : Hid (WrMid W2 g sv bv b1 (b1 + 1) L1 L2 w2 bv l) :=
        ⟨HMID1.out.at_.later hb3, HMID1.out.step.trans (WrStep.of_below hb3), HMID1.out.blk1.below hb3, HMID1.out.blk2.below hb3⟩
      have h1 := HMID1.out.blk1.below hb3
      rw [HL1.out] at h1
      have l1 := h1.lt
      have k3 := h1.cell 3 _ rfl
      clear hb3 h1 hgs
      cases hkn : knumber kind <;> (have HKN := hid hkn; clear hkn; go_wp2_with fail; go_meet; exact ⟨by rw [HKN.out]; rfl, HFF⟩)
    case rest =>
      obtain ⟨rfl, HFF⟩ := hcut
      clear HMID1
      have HDX : Hid (Below w0.heap.size w0 wc) := HFF.out.step.below HAW2.out hgs HD0.out
      clear hgs
      have h1 := HFF.out.blk1
      have h2 := HFF.out.blk2
      rw [HL1.out] at h1
      rw [HL2.out] at h2
      have l1 := h1.lt
      have l2 := h2.lt
      have k1 := h1.cell 1 _ rfl
      have k2 := h1.cell 2 _ rfl
      have x1 := h2.cell 1 _ rfl
      clear h1 h2
      have hwt := HWT.out
      unfold vwt at hwt
      have hwn : x.words.length ≤ 34359738368 := by omega
      have hlen := HLEN.out
      rw [HPARTS.out] at hlen
      have hll : l.length ≤ 549755813888 := by omega
      have HLN := hid (And.intro hwn hll)
      clear hwt hlen hwn hll
      by_cases hkn : knumber kind = true
      · rw [hkn]
        have HKN := hid hkn
        obtain ⟨h1, h2, h3, h4⟩ := HFN.out HKN.out
        have HW1 := hid (And.intro h3 h4)
        clear h1 h2 h3 h4 hkn
        cases rep with
        | true =>
          have hW := HWD.out.keep (below_keeps HDX.out)
          rw [← HWN.out] at hW
          have HP := hid (run_Pack HKN.out hW (by have := HLN.out.1; omega))
          clear hW
          go_wp2_with fail
          refine HP.out.mono ?_
          rintro e w3 ⟨v3, rfl, hO3, hb4⟩
          have h1 := HFF.out.blk1.below hb4
          rw [HL1.out] at h1
          have l1 := h1.lt
          have k1 := h1.cell 1 _ rfl
          have hpl := kpack_le kind x.words HWD.out.2
          have hln := HLN.out
          have HP2 := hid (writer_put nm 2 HTG.out (HFF.out.at_.later hb4) hln.2 (hO3.bytes (by omega)) (by omega) (by simp [rfits]))
          obtain ⟨a3, c3, rfl⟩ := hO3.form
          have HB4 := hid hb4
          clear hO3 hb4 h1 hpl hln
          go_wp2_with fail
          refine HP2.out.mono ?_
          rintro e w4 ⟨rfl, bv4, hA4, hS4⟩
          have HR : Hid (WrMid W2 g sv bv b1 (b1 + 1) L1 L2 w4 bv4 (l ++ encN ⟨name, nm, kind, true, packed, of⟩ x.words)) := by
            refine (HFF.out.put HB4.out hA4 hS4 HAP1.out HAP2.out).free _ ?_
            simp [encN, HKN.out]
          clear hA4 hS4 l1 k1 k2 x1 l2
          go_wp2_with fail
          go_meet
          exact ⟨bv4, HR⟩
        | false =>
          go_wp2_with fail
          refine (kind_Number kind _).mono ?_
          rintro e w2 ⟨rfl, hb3⟩
          rw [HKN.out]
          have HF3 : Hid (WrMid W2 g sv bv b1 (b1 + 1) L1 L2 w2 bv l) :=
            ⟨HFF.out.at_.later hb3, HFF.out.step.trans (WrStep.of_below hb3), HFF.out.blk1.below hb3, HFF.out.blk2.below hb3⟩
          have HD3 : Hid (Below w0.heap.size w0 w2) := HDX.out.trans (hb3.mono HDX.out.size)
          clear hb3 HFF HDX k1 k2 x1 l1 l2
          have h1 := HF3.out.blk1
          have h2 := HF3.out.blk2
          rw [HL1.out] at h1
          rw [HL2.out] at h2
          have l1 := h1.lt
          have l2 := h2.lt
          have k1 := h1.cell 1 _ rfl
          have k2 := h1.cell 2 _ rfl
          have x1 := h2.cell 1 _ rfl
          obtain ⟨x0, h0⟩ : ∃ x0, x.words[0]? = some x0 := by
            have := HW1.out.1
            exact ⟨_, List.getElem?_eq_getElem (by omega)⟩
          have hwa := HWA.out
          obtain ⟨h64, b, o, ha, g0⟩ := hwa 0 x0 h0
          have H64 := hid h64
          have HX0 : Hid (x.words.getD 0 0 = x0) := by rw [Hid, List.getD, h0]; rfl
          have hw0 : 0 < wn := by have := HW1.out.1; rw [HWN.out]; omega
          replace g0 := below_keeps HD3.out _ _ g0
          have hbl : b < w2.heap.size := World.block_lt_of_cell? w2 _ g0
          unfold wordV at g0
          have hix := index_0 Tryz.underlying49 size_u64 ha hw0 (cap := wcp)
          have HP := hid (scalar_Put HKN.out x0 h64 w2.drew)
          clear h1 h2 hwa ha h0 h64
          rw [Nat.add_zero] at g0
          have k0 : w2.drew.cell? ⟨b1, 2, none⟩ = some (.int .i64 kind) ∧ w2.drew.cell? ⟨b1 + 1, 1, none⟩ = some (.slice wa wn wcp) ∧ w2.drew.cell? ⟨b, o, none⟩ = some (.int .u64 x0) := ⟨k2, x1, g0⟩
          go_wp2_with fail
          go_region_held3 (fun w' => w'.cell? ⟨b1, 2, none⟩ = some (.int .i64 kind) ∧ w'.cell? ⟨b1 + 1, 1, none⟩ = some (.slice wa wn wcp) ∧ w'.cell? ⟨b, o, none⟩ = some (.int .u64 x0)) (first | (with_reducible exact k0) | (with_reducible exact k3) | go_keep) (first | (go_at_call 57; (with_reducible refine (HP.out).mono ?_); rintro e w3 ⟨v3, rfl, hO3, hb4'⟩; have k3 : w3.cell? ⟨b1, 2, none⟩ = some (.int .i64 kind) ∧ w3.cell? ⟨b1 + 1, 1, none⟩ = some (.slice wa wn wcp) ∧ w3.cell? ⟨b, o, none⟩ = some (.int .u64 x0) := ⟨below_keeps hb4' _ _ k0.1, below_keeps hb4' _ _ k0.2.1, below_keeps hb4' _ _ k0.2.2⟩))
          have hb4 : Below w2.heap.size w2 w3 := ((Below.refl w2.heap.size w2).drew).trans hb4'
          have h1 := HF3.out.blk1.below hb4
          rw [HL1.out] at h1
          have l1 := h1.lt
          have k1 := h1.cell 1 _ rfl
          have hpl := kput_le kind H64.out
          have HP2 := hid (writer_put nm (kwire kind) HTAG.out (HF3.out.at_.later hb4) HLN.out.2 (hO3.bytes (by omega)) (by omega) (kput_fits HKN.out H64.out))
          obtain ⟨a3, c3, rfl⟩ := hO3.form
          have HB4 := hid hb4
          clear hO3 hb4 hb4' h1 hpl k2 x1 l2 hix g0 hbl k0 k3
          go_wp2_with fail
          refine HP2.out.mono ?_
          rintro e w4 ⟨rfl, bv4, hA4, hS4⟩
          have HR : Hid (WrMid W2 g sv bv b1 (b1 + 1) L1 L2 w4 bv4 (l ++ encN ⟨name, nm, kind, false, packed, of⟩ x.words)) := by
            refine (HF3.out.put HB4.out hA4 hS4 HAP1.out HAP2.out).free _ ?_
            simp only [encN, HKN.out, HX0.out]
            rfl
          clear hA4 hS4 l1 k1
          go_wp2_with fail
          go_meet
          exact ⟨bv4, HR⟩
      · have hkf : knumber kind = false := by simpa using hkn
        rw [hkf, Bool.false_and]
        have HKN := hid hkf
        clear hkn hkf
        go_wp2_with fail
        refine (kind_Number kind _).mono ?_
        rintro e w2 ⟨rfl, hb3⟩
        rw [HKN.out]
        have HF3 : Hid (WrMid W2 g sv bv b1 (b1 + 1) L1 L2 w2 bv (l ++ encN ⟨name, nm, kind, rep, packed, of⟩ x.words)) := by
          refine WrMid.free (l' := l) ⟨HFF.out.at_.later hb3, HFF.out.step.trans (WrStep.of_below hb3), HFF.out.blk1.below hb3, HFF.out.blk2.below hb3⟩ _ ?_
          simp [encN, HKN.out]
        clear hb3 HFF HDX k1 k2 x1 l1 l2
        go_wp2_with fail
        go_meet
        exact ⟨bv, HF3⟩
  case rest =>
    obtain ⟨bv1, HMID⟩ := hcut
    obtain ⟨L, HLE⟩ : ∃ L, Hid (L = l ++ encN ⟨name, nm, kind, rep, packed, of⟩ x.words) := ⟨_, rfl⟩
    rw [← HLE.out] at HMID
    clear HMID1
    have h2 := HMID.out.blk2
    rw [HL2.out] at h2
    have l2 := h2.lt
    have x2 := h2.cell 2 _ rfl
    clear h2
    go_wp2_with fail
    go_loopw [67] (fun v67 wr => ∃ (i : Nat), v67 = .int .i64 i ∧ i ≤ tn ∧ ∃ (bv' : Value), Hid (WrMid W2 g sv bv b1 (b1 + 1) L1 L2 wr bv' (L ++ (x.texts.take i).flatMap (rput nm 2))))  (fun v67 _ => tn - (intOf v67).toNat)
    case atStart => exact ⟨0, rfl, Nat.zero_le _, bv1, by simpa using HMID⟩
    case round =>
      obtain ⟨i, rfl, hi, bv', HMI⟩ := hrel
      clear HMID l2 x2
      by_cases hlt : i < tn
      · have hxi : x.texts[i]? = some (x.texts[i]'(by rw [← HTN.out]; exact hlt)) := List.getElem?_eq_getElem _
        generalize x.texts[i]'(by rw [← HTN.out]; exact hlt) = z at hxi
        have hta := HTA.out
        obtain ⟨hzl, b, o, ha, g0⟩ := hta i z hxi
        have hU : strV z = .string ⟨z.toArray⟩ := rfl
        rw [hU] at g0
        have HDX : Hid (Below w0.heap.size w0 wr) := HMI.out.step.below HAW2.out hgs HD0.out
        replace g0 := below_keeps HDX.out _ _ g0
        have hbl : b < wr.heap.size := World.block_lt_of_cell? wr _ g0
        have hix := index_run1 Tryz.underlying25 size_str ha i hlt (cap := tc)
        have hkf : knumber kind = false := by
          cases hk : knumber kind with
          | false => rfl
          | true =>
            have := (HFN.out hk).1
            rw [this] at hxi
            simp at hxi
        have HW := hid (wire_two HKR.out hkf)
        have hzw : z.length ≤ 34359738368 := by
          have h1 := mem_sum_le (fun t : List UInt8 => 1 + t.length) x.texts z (List.mem_of_getElem? hxi)
          have h2 := HWT.out
          unfold vwt twt at h2
          omega
        have hlen : (L ++ (x.texts.take i).flatMap (rput nm 2)).length ≤ 549755813888 := by
          have h1 := HLEN.out
          rw [HPARTS.out] at h1
          have h2 := flat_take_len (rput nm 2) x.texts i
          rw [HLE.out]
          simp only [List.length_append] at h1 ⊢
          omega
        obtain ⟨gz, cz, wz, hcv, hbz, hby⟩ := str_bytes wr z hzl
        have HP := hid (writer_put nm (kwire kind) HTAG.out (HMI.out.at_.later hbz) hlen hby (by omega) (by rw [HW.out]; simp [rfits]))
        have HTK := hid (flat_take_succ (rput nm 2) x.texts i z hxi)
        have HBZ := hid hbz
        obtain ⟨zn, HZN⟩ : ∃ n, Hid (n = z.length) := ⟨_, rfl⟩
        rw [← HZN.out] at hcv HP
        have h1 := HMI.out.blk1.below HBZ.out
        rw [HL1.out] at h1
        have h1' := HMI.out.blk1
        rw [HL1.out] at h1'
        have l1 := h1'.lt
        have k1 := h1'.cell 1 _ rfl
        clear hta hzl ha hxi hU hkf hzw hlen hbz hby h1 h1'
        go_wp2_with fail
        refine HP.out.mono ?_
        rintro e w4 ⟨rfl, bv4, hA4, hS4⟩
        have HR : Hid (WrMid W2 g sv bv b1 (b1 + 1) L1 L2 w4 bv4 (L ++ (x.texts.take (i + 1)).flatMap (rput nm 2))) := by
          refine (HMI.out.put HBZ.out hA4 hS4 HAP1.out HAP2.out).free _ ?_
          rw [HTK.out, List.append_assoc, HW.out]
          rfl
        clear hA4 hS4 l1 k1 hcv hix g0 hbl
        go_wp2_with fail
        go_roundw
        case rel => exact ⟨i + 1, by go_num, hlt, bv4, HR⟩
        case measure => simp [intOf]; omega
      · obtain rfl : i = tn := by omega
        rw [List.take_of_length_le (by rw [HTN.out]; exact Nat.le_refl _)] at HMI
        obtain ⟨L', HLE'⟩ : ∃ L', Hid (L' = L ++ x.texts.flatMap (rput nm 2)) := ⟨_, rfl⟩
        rw [← HLE'.out] at HMI
        have h2 := HMI.out.blk2
        rw [HL2.out] at h2
        have l2 := h2.lt
        have x3 := h2.cell 3 _ rfl
        clear h2
        go_wp2_with fail
        clear x3 l2
        go_loopw [82] (fun v82 wr => ∃ (j : Nat), v82 = .int .i64 j ∧ j ≤ sn ∧ ∃ (bv' : Value), Hid (WrMid W2 g sv bv b1 (b1 + 1) L1 L2 wr bv' (L' ++ (x.subs.take j).flatMap (fun y => rput nm 2 (encM s d of y))))) (fun v82 _ => sn - (intOf v82).toNat)
        case atStart => exact ⟨0, rfl, Nat.zero_le _, bv', by simpa using HMI⟩
        case round =>
          obtain ⟨j, rfl, hj, bv3, HMJ⟩ := hrel
          clear HMI
          by_cases hlt : j < sn
          · have hxi : x.subs[j]? = some (x.subs[j]'(by rw [← HSN.out]; exact hlt)) := List.getElem?_eq_getElem _
            generalize x.subs[j]'(by rw [← HSN.out]; exact hlt) = m at hxi
            have hsa := HSA.out
            obtain ⟨b, o, v1, v2, ha, g0, g1, hM⟩ := hsa j m hxi
            have hmem := List.mem_of_getElem? hxi
            have HFS := hid (fits_subs HFIT.out hmem)
            have HW := hid (wire_two HKR.out HFS.out.1)
            obtain ⟨va, vn, vc, ua, un, uc, rfl, rfl⟩ := msg_form hM
            have HDX : Hid (Below w0.heap.size w0 wr) := HMJ.out.step.below HAW2.out hgs HD0.out
            replace g0 := below_keeps HDX.out _ _ g0
            replace g1 := below_keeps HDX.out _ _ g1
            have hbl : b < wr.heap.size := World.block_lt_of_cell? wr _ g0
            have hix := index_run Tryz.underlying50 size_msg ha j hlt (cap := sc)
            have HTK := hid (flat_take_succ (fun y => rput nm 2 (encM s d of y)) x.subs j m hxi)
            have hlen : (L' ++ (x.subs.take (j + 1)).flatMap (fun y => rput nm 2 (encM s d of y))).length ≤ 68719476736 := by
              have h1 := HLEN.out
              rw [HPARTS.out] at h1
              have h2 := flat_take_len (fun y => rput nm 2 (encM s d of y)) x.subs (j + 1)
              rw [HLE'.out, HLE.out]
              simp only [List.length_append] at h1 ⊢
              have h3 : (encV (encM s d) ⟨name, nm, kind, rep, packed, of⟩ x) = (encV (encM s d) ⟨name, nm, kind, rep, packed, of⟩ x) := rfl
              omega
            rw [HTK.out, List.length_append, List.length_append] at hlen
            have hrl := rput_len nm 2 (encM s d of m)
            have HLL : Hid ((L' ++ (x.subs.take j).flatMap (fun y => rput nm 2 (encM s d of y))).length ≤ 68719476736 ∧ (encM s d of m).length ≤ 68719476736) := by
              refine ⟨?_, by omega⟩
              rw [List.length_append]; omega
            have HMW : Hid (mwt d m ≤ 34359738368) := by
              have h1 := mem_sum_le (mwt d) x.subs m hmem
              have h2 := HWT.out
              unfold vwt at h2
              exact Nat.le_trans h1 (by omega)
            have HMM := hid hM
            have h1 := HMJ.out.blk1
            rw [HL1.out] at h1
            have l1 := h1.lt
            have k5 := h1.cell 5 _ rfl
            have hg := HMJ.out.at_.1
            have lg := hg.lt
            have c0 := hg.cell 0 _ rfl
            rw [HSV.out] at c0
            have H2 : Hid (∀ W, W = ((wr.alloc (.cells #[.slice va vn vc, .slice ua un uc] 27)).alloc (.cells #[.slice ssa sln ssc, .slice none 0 0] 58)) →
                WrAt W (wr.heap.size + 1) sv (.slice none 0 0) [] ∧ Below wr.heap.size wr W) := by
              rintro W rfl
              rw [HSV.out]
              refine ⟨⟨?_, own_nil _ _⟩, ((Below.refl wr.heap.size wr).alloc (Nat.le_refl _) _).alloc (by simp) _⟩
              have := Blk.new (wr.alloc (.cells #[.slice va vn vc, .slice ua un uc] 27)) [.slice ssa sln ssc, .slice none 0 0] 58
              rw [show (wr.alloc (.cells #[.slice va vn vc, .slice ua un uc] 27)).heap.size = wr.heap.size + 1 by simp] at this
              exact this
            clear hsa ha hxi hM hlen hrl hmem h1 hg
            go_wp2_with fail
            obtain ⟨hA5, hB5⟩ := H2.out _ rfl
            obtain ⟨W5, HW5⟩ : ∃ W5, Hid (W5 = ((wr.alloc (.cells #[.slice va vn vc, .slice ua un uc] 27)).alloc (.cells #[.slice ssa sln ssc, .slice none 0 0] 58))) := ⟨_, rfl⟩
            rw [← HW5.out] at hA5 hB5 ⊢
            have hsz5 : wr.heap.size + 1 < W5.heap.size := hA5.1.lt
            obtain ⟨g2, HG2⟩ : ∃ g2, Hid (g2 = wr.heap.size + 1) := ⟨_, rfl⟩
            rw [← HG2.out] at hA5 hsz5 ⊢
            have hg2 : w0.heap.size ≤ g2 := by have := HDX.out.size; have := HG2.out; omega
            have HA5 := hid hA5
            have HB5 := hid hB5
            have HSZ := hid hsz5
            have HM5 := hid (HIH.out W5 g2 sv (.slice none 0 0) _ [] of m HS.out HMM.out (HDX.out.trans (hB5.mono HDX.out.size)) hg2 hA5 HFS.out.2 (by have := HLL.out.2; simpa using this) HMW.out)
            have HIN : Hid (wr.heap.size ≤ g2) := by have := HG2.out; show wr.heap.size ≤ g2; omega
            clear hA5 hB5 H2 hsz5 hg2 hix g0 g1 hbl c0 lg k5 l1 HW5
            refine HM5.out.mono ?_
            rintro e w6 ⟨rfl, bv6, hA6, hS6⟩
            have hB6 : Below wr.heap.size wr w6 := hS6.below HA5.out HIN.out HB5.out
            rw [List.nil_append] at hA6
            obtain ⟨a6, c6, rfl⟩ := hA6.2.form
            obtain ⟨n6, HN6⟩ : ∃ n, Hid (n = (encM s d of m).length) := ⟨_, rfl⟩
            rw [← HN6.out] at hA6
            have hBy := hA6.2.bytes (by have := HLL.out.2; omega)
            have hd6 : Below w6.heap.size w6 w6.drew := (Below.refl w6.heap.size w6).drew
            have HB7 : Hid (Below wr.heap.size wr w6.drew) := hB6.drew
            have HP := hid (writer_put nm (kwire kind) HTAG.out (HMJ.out.at_.later HB7.out) (by have := HLL.out.1; omega) (hBy.below hd6) (by have := HLL.out.2; omega) (by rw [HW.out]; simp [rfits]))
            have h1 := HMJ.out.blk1.below hB6
            rw [HL1.out] at h1
            have l1 := h1.lt
            have k1 := h1.cell 1 _ rfl
            have l6 := hA6.1.lt
            have q1 := hA6.1.cell 1 _ rfl
            clear hA6 hS6 hB6 hBy hd6 h1
            go_wp2_with fail
            go_still_tail 8, (by kernel_rfl)
            change wpList _ _ _ _ _ w6.drew
            go_wp2_with fail
            refine HP.out.mono ?_
            rintro e w7 ⟨rfl, bv7, hA7, hS7⟩
            have HR : Hid (WrMid W2 g sv bv b1 (b1 + 1) L1 L2 w7 bv7 (L' ++ (x.subs.take (j + 1)).flatMap (fun y => rput nm 2 (encM s d of y)))) := by
              refine (HMJ.out.put HB7.out hA7 hS7 HAP1.out HAP2.out).free _ ?_
              rw [HTK.out, List.append_assoc, HW.out]
              rfl
            clear hA7 hS7 l1 k1 l6 q1
            go_wp2_with fail
            go_roundw
            case rel => exact ⟨j + 1, by go_num, hlt, bv7, HR⟩
            case measure => simp [intOf]; omega
          · obtain rfl : j = sn := by omega
            rw [List.take_of_length_le (by rw [HSN.out]; exact Nat.le_refl _)] at HMJ
            go_wp2_with fail
            go_end0
            refine ⟨rfl, bv3, ?_⟩
            rw [HPARTS.out]
            refine ⟨?_, (WrStep.of_below HBW.out).trans HMJ.out.step⟩
            have := HMJ.out.at_
            rw [HLE'.out, HLE.out] at this
            simpa [List.append_assoc] using this
end Go.Proofs.YtbdeclkccchnoaaGreat
namespace Go.Proofs.YtbdeclkccchnoaaGreat
open Go.RowKit
theorem own_append_str {w : World} {base : Nat} {v : Value} {l : List UInt8} (h : Own w base v l) (t : List UInt8) (hlen : l.length + t.length ≤ 140737488355328) (hbase : base ≤ w.heap.size) :
    ∃ v' w', (Builtin.append_ #[32, 9] 32 #[v, .string ⟨t.toArray⟩]).run Tryz.prog w = .ok v' w' ∧ Own w' base v' (l ++ t) ∧ w.grownBy w' v.ownBlock ∧ (v'.ownBlock = v.ownBlock ∨ v'.ownBlock = some w.heap.size) := by
  have hs := Src.ofString (P := Tryz.prog) w under_str ⟨t.toArray⟩
  have hsz : (⟨t.toArray⟩ : ByteArray).size = t.length := by simp [ByteArray.size]
  have hby : byteCells ⟨t.toArray⟩ = t.map byteV := by simp [byteCells, byteV]
  rw [hsz, hby] at hs
  obtain ⟨v', w', h1, h2, h3, h4⟩ := src_append (P := Tryz.prog) w base 32 9 32 5 (.int .u8 0) 1 1 under_bytes info_u8 rfl v (.string ⟨t.toArray⟩) l.length t.length _ _ h hs hlen (by omega) hbase
  exact ⟨v', w', h1, by unfold Own; rw [List.length_append, List.map_append]; exact h2, h3, h4⟩
end Go.Proofs.YtbdeclkccchnoaaGreat
namespace Go.Proofs.YtbdeclkccchnoaaGreat
open Go.RowKit
theorem valsB_all {α : Type} {F : Fld → Val α → Bool} {fs : List Fld} : ∀ {l : List (Val α)} {last : Int}, valsB F fs l last = true → ∀ x ∈ l, 0 ≤ fieldAt fs x.num ∧ F (fs.getD (fieldAt fs x.num).toNat .zero) x = true
  | [], _, _, x, hx => by simp at hx
  | y :: r, last, h, x, hx => by
    rw [valsB] at h
    split at h
    · exact absurd h (by decide)
    · rename_i hn
      rcases List.mem_cons.1 hx with rfl | hx
      · refine ⟨by omega, ?_⟩
        cases hf : F (fs.getD (fieldAt fs x.num).toNat .zero) x with
        | true => rfl
        | false => exact absurd (.inr (.inr hf)) hn
      · exact valsB_all h x hx
theorem rightB_parts {s : List Mes} {d : Nat} {root : Int} {x : M (d + 1)} (h : rightB s (d + 1) root x = true) :
    0 ≤ root ∧ root < s.length ∧ (∀ v ∈ M.vals x, 0 ≤ fieldAt (s.getD root.toNat .zero).fields v.num ∧ fitsB (rightB s d) ((s.getD root.toNat .zero).fields.getD (fieldAt (s.getD root.toNat .zero).fields v.num).toNat .zero) v = true) ∧
      (M.unk x).all (strangeB (s.getD root.toNat .zero).fields) = true := by
  rw [rightB] at h
  split at h
  · exact absurd h (by decide)
  · rename_i hn
    rw [Bool.and_eq_true] at h
    exact ⟨by omega, by omega, valsB_all h.1, h.2⟩
theorem fieldAt_lt {fs : List Fld} {n : Int} (h : 0 ≤ fieldAt fs n) : ∃ j : Nat, j < fs.length ∧ fieldAt fs n = j := by
  rcases firstAt_bd (fun f : Fld => decide (f.number = n)) fs 0 with h1 | ⟨jn, h1, h2, h3⟩
  · unfold fieldAt at h; omega
  · exact ⟨jn, by omega, h1⟩
structure WrOne (W : World) (g : Nat) (sv bv : Value) (b1 : Nat) (B1 : List Value) (wx : World) (bv' : Value) (l' : List UInt8) : Prop where
  at_ : WrAt wx g sv bv' l'
  step : WrStep g bv W bv' wx
  blk : Blk wx b1 B1 27
theorem WrOne.put {W : World} {g : Nat} {sv bv : Value} {b1 : Nat} {B1 : List Value} {wx wy wz : World} {bv' bv'' : Value} {l' l'' : List UInt8} (h : WrOne W g sv bv b1 B1 wx bv' l')
    (hb : Below wx.heap.size wx wy) (hA : WrAt wz g sv bv'' l'') (hS : WrStep g bv' wy bv'' wz) (h1 : Apt W g bv b1) : WrOne W g sv bv b1 B1 wz bv'' l'' :=
  ⟨hA, (h.step.trans (WrStep.of_below hb)).trans hS, hS.blk (h.blk.below hb) h1.2.1 (h.step.apt h1)⟩
theorem WrOne.app {W : World} {g : Nat} {sv bv : Value} {b1 : Nat} {B1 : List Value} {wr w6 : World} {bv3 v6 : Value} {l' l'' : List UInt8} (h : WrOne W g sv bv b1 B1 wr bv3 l')
    (hg6 : wr.grownBy w6 bv3.ownBlock) (hO6 : Own w6 (g + 1) v6 l'') (hown6 : v6.ownBlock = bv3.ownBlock ∨ v6.ownBlock = some wr.heap.size) (h1 : Apt W g bv b1) : WrOne W g sv bv b1 B1 (w6.setCell ⟨g, 1, none⟩ v6) v6 l'' := by
  have hgb := h.at_.1
  have lg := hgb.lt
  have hbo : ∀ b, bv3.ownBlock = some b → g + 1 ≤ b := fun b e => (World.ownsRow.lt h.at_.2 b e).1
  have hgb6 : Blk w6 g [sv, bv3] 58 := (hg6.block g lg (fun e => by have := hbo g e.symm; omega)).trans hgb
  have hS : WrStep g bv3 wr v6 (w6.setCell ⟨g, 1, none⟩ v6) := by
    refine ⟨hg6.os, hg6.tape, hg6.output, by simpa using hg6.size, fun b hb hg ho => (Below.heap_setCell w6 _ _ b hg).trans (hg6.block b hb (fun e => ho e.symm)), ?_⟩
    rcases hown6 with e | e
    · exact .inl e
    · exact .inr (.inr ⟨_, Nat.le_refl _, e⟩)
  refine ⟨⟨Blk.set hgb6 1 _, row_keep hO6 fun b cur hb he => Below.heap_setCell w6 _ _ b ?_⟩, h.step.trans hS, hS.blk h.blk h1.2.1 (h.step.apt h1)⟩
  show b ≠ g
  omega
set_option maxRecDepth 100000 in
set_option maxHeartbeats 4000000 in
theorem writer_message_step {w0 : World} {s : List Mes} {d : Nat} (hs : sright s = true) (ih : ValueOk w0 s d) : MessageOk w0 s (d + 1) := by
  intro w g sv bv v l root x hS hM hb hg hA hR hlen hwt
  obtain ⟨vv, uv, rfl, hV, hU⟩ := hM
  obtain ⟨hvl, va, vc, rfl, -, hva⟩ := hV.open
  obtain ⟨hul, ua, uc, rfl, -, hua⟩ := hU.open
  obtain ⟨hr0, hr1, hvals, -⟩ := rightB_parts hR
  obtain ⟨r, rfl⟩ : ∃ r : Nat, root = r := ⟨root.toNat, by omega⟩
  simp only [Int.toNat_natCast] at hvals
  have hr : r < s.length := by omega
  have hnum := sright_num hs r hr
  have HS := hid hS
  obtain ⟨hsl, sa, sc, rfl, hsat⟩ := hS.open
  obtain ⟨sn, HSN⟩ : ∃ n, Hid (n = s.length) := ⟨_, rfl⟩
  rw [← HSN.out] at hsl HS hA ⊢
  have hrn : r < sn := by rw [HSN.out]; exact hr
  obtain ⟨b, o, fv, ha, -, hc0, hc1, hF⟩ := hsat r hr
  have HF := hid hF
  obtain ⟨hfl, fa, fc, rfl, hfat⟩ := hF.open
  have HENC : Hid (encM s (d + 1) r x = (M.vals x).flatMap (fun v => encV (encM s d) ((s.getD r .zero).fields.getD (fieldAt (s.getD r .zero).fields v.num).toNat .zero) v) ++ (M.unk x).flatMap id) := rfl
  obtain ⟨fs, HFS⟩ : ∃ f, Hid (f = (s.getD r .zero).fields) := ⟨_, rfl⟩
  rw [← HFS.out] at hfl hc1 HF hF hfat hvals hnum HENC
  obtain ⟨fl, HFL⟩ : ∃ n, Hid (n = fs.length) := ⟨_, rfl⟩
  rw [← HFL.out] at hfl hc1 HF hF hfat
  obtain ⟨vn, HVN⟩ : ∃ n, Hid (n = (M.vals x).length) := ⟨_, rfl⟩
  obtain ⟨un, HUN⟩ : ∃ n, Hid (n = (M.unk x).length) := ⟨_, rfl⟩
  rw [← HVN.out] at hvl ⊢
  rw [← HUN.out] at hul ⊢
  obtain ⟨sv, HSV⟩ : ∃ sv, Hid (sv = Value.slice sa sn sc) := ⟨_, rfl⟩
  rw [← HSV.out] at HS hA ⊢
  have HVALS := hid hvals
  have HNUM := hid hnum
  have HIH := hid ih
  have HVA := hid hva
  have HUA := hid hua
  have HFA := hid hfat
  have HB := hid hb
  have HG := hid hg
  have HLEN := hid hlen
  have HWT : Hid ((∀ m ∈ M.vals x, vwt (mwt d) m ≤ 34359738368) ∧ ∀ t ∈ M.unk x, t.length ≤ 34359738368) := by
    have h3 : 1 + twt (M.unk x) + ((M.vals x).map (vwt (mwt d))).sum ≤ 34359738368 := hwt
    refine ⟨fun m hm => ?_, fun t ht => ?_⟩
    · have h1 := mem_sum_le (vwt (mwt d)) (M.vals x) m hm
      omega
    · have h1 := mem_sum_le (fun t : List UInt8 => 1 + t.length) (M.unk x) t ht
      unfold twt at h3
      omega
  have HHA := hid hA
  have hix := index_run Tryz.underlying23 size_mes ha r hrn (cap := sc)
  have hbl : b < w0.heap.size := World.block_lt_of_cell? w0 _ hc0
  generalize (s.getD r .zero).name = nm at *
  obtain ⟨L1, HL1⟩ : ∃ L1 : List Value, Hid (L1 = [.slice va vn vc, .slice ua un uc]) := ⟨_, rfl⟩
  have H2 : Hid (∀ W, W = (w.alloc (.cells #[.slice va vn vc, .slice ua un uc] 27)) → Blk W w.heap.size L1 27 ∧ Below w.heap.size w W ∧ w.heap.size < W.heap.size) := by
    rintro W rfl
    rw [HL1.out]
    exact ⟨Blk.new w _ _, (Below.refl w.heap.size w).alloc (Nat.le_refl _) _, by simp⟩
  clear hV hU hsat hS hwt hF hva hfat ih ha hua hb hg hA hR hlen hvals hnum hr0 hr1 hr
  go_enter Tryz.func17, Tryz.ntmps17
  go_wp2_with fail
  have h2 := H2.out _ rfl
  clear H2
  obtain ⟨W2, HW2⟩ : ∃ W2, Hid (W2 = (w.alloc (.cells #[.slice va vn vc, .slice ua un uc] 27))) := ⟨_, rfl⟩
  rw [← HW2.out] at h2 ⊢
  obtain ⟨hk1, hb1, hsz⟩ := h2
  obtain ⟨b1, HB1E⟩ : ∃ b1, Hid (b1 = w.heap.size) := ⟨_, rfl⟩
  have hg1 : g < w.heap.size := HHA.out.1.lt
  have HAP1 : Hid (Apt W2 g bv b1) := by
    have := HHA.out.free (Nat.le_of_eq HB1E.out.symm)
    exact ⟨by rw [HB1E.out]; omega, this.1, this.2⟩
  have HMID : Hid (WrOne W2 g sv bv b1 L1 W2 bv l) := by
    refine ⟨HHA.out.later hb1, WrStep.refl _ _ _, ?_⟩
    rw [HB1E.out]; exact hk1
  rw [← HB1E.out]
  have HBW := hid hb1
  have HD0 : Hid (Below w0.heap.size w0 W2) := HB.out.trans (hb1.mono HB.out.size)
  have HAW2 : Hid (WrAt W2 g sv bv l) := HHA.out.later hb1
  have hgs : w0.heap.size ≤ g := HG.out
  clear hk1 hb1 HW2 HHA hsz hg1
  have h2 := HMID.out.blk
  rw [HL1.out] at h2
  have l2 := h2.lt
  have x0 := h2.cell 0 _ rfl
  clear h2
  obtain ⟨FV, HFV⟩ : ∃ FV : Val (M d) → List UInt8, Hid (FV = fun v => encV (encM s d) (fs.getD (fieldAt fs v.num).toNat .zero) v) := ⟨_, rfl⟩
  rw [← HFV.out] at HENC
  go_wp2_with fail
  go_loopw [15] (fun v15 wr => ∃ (i : Nat), v15 = .int .i64 i ∧ i ≤ vn ∧ ∃ (bv' : Value), Hid (WrOne W2 g sv bv b1 L1 wr bv' (l ++ ((M.vals x).take i).flatMap FV))) (fun v15 _ => vn - (intOf v15).toNat)
  case atStart => exact ⟨0, rfl, Nat.zero_le _, bv, by simpa using HMID⟩
  case round =>
    obtain ⟨i, rfl, hi, bv1, HMI⟩ := hrel
    clear HMID l2 x0
    by_cases hlt : i < vn
    · have hmi : (M.vals x)[i]? = some ((M.vals x)[i]'(by rw [← HVN.out]; exact hlt)) := List.getElem?_eq_getElem _
      generalize (M.vals x)[i]'(by rw [← HVN.out]; exact hlt) = m at hmi
      have hva := HVA.out
      obtain ⟨b2, o2, v1, v2, v3, ha2, g0, g1, g2, g3, hM⟩ := hva i m hmi
      clear hva
      have hmem := List.mem_of_getElem? hmi
      obtain ⟨hfa0, hfit⟩ := HVALS.out m hmem
      obtain ⟨jn, hjl, hj⟩ := fieldAt_lt hfa0
      have HWM := hid (HWT.out.1 m hmem)
      have HM := hid hM
      have hnb : -9223372036854775808 ≤ m.num ∧ m.num ≤ 9223372036854775807 := by
        obtain ⟨_, _, _, _, h, _⟩ := hM
        exact h
      obtain ⟨mm, a1, n1, q1, a2, n2, q2, a3, n3, q3, he⟩ := hM.form
      cases he
      have HDX : Hid (Below w0.heap.size w0 wr) := HMI.out.step.below HAW2.out hgs HD0.out
      have hk := below_keeps HDX.out
      replace g0 := hk _ _ g0
      replace g1 := hk _ _ g1
      replace g2 := hk _ _ g2
      replace g3 := hk _ _ g3
      have m0 := hk _ _ hc0
      have m1 := hk _ _ hc1
      have hblr : b < wr.heap.size := World.block_lt_of_cell? wr _ m0
      have hbl2 : b2 < wr.heap.size := World.block_lt_of_cell? wr _ g0
      have hix2 := index_run Tryz.underlying24 size_val ha2 i hlt (cap := vc)
      have HTK := hid (flat_take_succ FV (M.vals x) i m hmi)
      have hFVm : FV m = encV (encM s d) (fs.getD jn .zero) m := by
        rw [HFV.out]
        show encV (encM s d) (fs.getD (fieldAt fs m.num).toNat .zero) m = _
        rw [hj]; rfl
      rw [hj, Int.toNat_natCast] at hfit
      have hll : (l ++ ((M.vals x).take i).flatMap FV).length + (FV m).length ≤ 68719476736 := by
        have h1 := HLEN.out
        rw [HENC.out, List.length_append] at h1
        have h2 := flat_take_len FV (M.vals x) (i + 1)
        rw [HTK.out, List.length_append] at h2
        rw [List.length_append]
        omega
      have hmf : fs.getD jn .zero ∈ fs := by
        have : fs.getD jn .zero = fs[jn] := by simp [List.getD, hjl]
        rw [this]; exact List.getElem_mem hjl
      have HNB := hid (HNUM.out _ hmf)
      rw [← HFL.out] at hjl
      have HFM := hid (And.intro hfit hll)
      have hfa := HFA.out
      obtain ⟨b3, o3, ha3, hok, f0, f1, f2, f3, f4, f5⟩ := hfa jn hjl
      clear hfa
      obtain ⟨⟨name, number, kind, rep, packed, of⟩, HFD⟩ : ∃ f, Hid (fs.getD jn .zero = f) := ⟨_, rfl⟩
      rw [HFD.out] at f0 f1 f2 f3 f4 f5 HFM HNB hFVm
      have HFVM := hid hFVm
      replace f0 := hk _ _ f0
      replace f1 := hk _ _ f1
      replace f2 := hk _ _ f2
      replace f3 := hk _ _ f3
      replace f4 := hk _ _ f4
      replace f5 := hk _ _ f5
      have hix3 := index_run Tryz.underlying45 size_fld ha3 jn hjl (cap := fc)
      have lb3 : b3 < wr.heap.size := World.block_lt_of_cell? wr _ f0
      have HJ := hid hj
      have hgb := HMI.out.at_.1
      have lg := hgb.lt
      have c0 := hgb.cell 0 _ rfl
      rw [HSV.out] at c0
      generalize hmn : m.num = mn at *
      have HMN := hid hmn
      clear hmn hM ha2 hmi hmem hfa0 hfit hll hFVm hmf ha3 hok hj hk hgb
      go_wp2_with fail
      have hX := Blk.new wr [.int .i64 mn, .slice a1 n1 q1, .slice a2 n2 q2, .slice a3 n3 q3] 52
      have hB2 := (Below.refl wr.heap.size wr).alloc (Nat.le_refl _) (.cells #[.int .i64 mn, .slice a1 n1 q1, .slice a2 n2 q2, .slice a3 n3 q3] 52)
      generalize hW3 : wr.alloc (.cells #[.int .i64 mn, .slice a1 n1 q1, .slice a2 n2 q2, .slice a3 n3 q3] 52) = W3 at hX hB2 ⊢
      clear hW3
      obtain ⟨X, HXX⟩ : ∃ X, Hid (X = wr.heap.size) := ⟨_, rfl⟩
      rw [← HXX.out] at hX ⊢
      have hk2 := below_keeps hB2
      have HB2 := hid hB2
      have HX := hid hX
      have lx : X < W3.heap.size := hX.lt
      have lg2 : g < W3.heap.size := by have := hB2.size; omega
      have lb' : b < W3.heap.size := by have := hB2.size; omega
      have k0 : W3.drew.cell? ⟨g, 0, none⟩ = some (.slice sa sn sc) ∧ W3.drew.cell? ⟨b, o + r * 2, none⟩ = some (.string nm) ∧ W3.drew.cell? ⟨b, o + r * 2 + 1, none⟩ = some (.slice fa fl fc) ∧ W3.drew.cell? ⟨X, 0, none⟩ = some (.int .i64 mn) := ⟨hk2 _ _ c0, hk2 _ _ m0, hk2 _ _ m1, hX.cell 0 _ rfl⟩
      have HBN : Hid (Calls Tryz.prog 28 #[.agg #[.string nm, .slice fa fl fc], .int .i64 mn] W3.drew fun e w' => e = .returned (.tuple #[.int .i64 jn, .bool true]) ∧ Below W3.drew.heap.size W3.drew w') := by
        have hFW : FieldsAt W3.drew (.slice fa fl fc) fs := HF.out.keep (fun p u hu => hk2 p u (below_keeps HDX.out p u hu))
        have h := schema_ByNumber hFW nm mn
        rw [HJ.out, if_pos (by omega)] at h
        have hd : decide ((0 : Int) ≤ jn) = true := decide_eq_true (by omega)
        rw [hd] at h
        exact h
      clear hB2 hX hk2
      go_region_held3 (fun w' => w'.cell? ⟨g, 0, none⟩ = some (.slice sa sn sc) ∧ w'.cell? ⟨b, o + r * 2, none⟩ = some (.string nm) ∧ w'.cell? ⟨b, o + r * 2 + 1, none⟩ = some (.slice fa fl fc) ∧ w'.cell? ⟨X, 0, none⟩ = some (.int .i64 mn)) (first | (with_reducible exact k0) | (with_reducible exact k1) | go_keep) (first | (go_at_call 28; (with_reducible refine (HBN.out).mono ?_); rintro e w4 ⟨rfl, hb4⟩; have k1 : w4.cell? ⟨g, 0, none⟩ = some (.slice sa sn sc) ∧ w4.cell? ⟨b, o + r * 2, none⟩ = some (.string nm) ∧ w4.cell? ⟨b, o + r * 2 + 1, none⟩ = some (.slice fa fl fc) ∧ w4.cell? ⟨X, 0, none⟩ = some (.int .i64 mn) := ⟨below_keeps hb4 _ _ k0.1, below_keeps hb4 _ _ k0.2.1, below_keeps hb4 _ _ k0.2.2.1, below_keeps hb4 _ _ k0.2.2.2⟩))
      have HB4 : Hid (Below wr.heap.size wr w4) := HB2.out.trans (((Below.refl W3.heap.size W3).drew.trans hb4).mono HB2.out.size)
      have HXW := hid (HX.out.below ((Below.refl W3.heap.size W3).drew.trans hb4))
      clear hb4 lx lg2 lb' k0 k1 c0 m0 m1 hblr hbl2 g0 g1 g2 g3 lg lb3
      have hk4 := below_keeps HB4.out
      replace f0 := hk4 _ _ f0
      replace f1 := hk4 _ _ f1
      replace f2 := hk4 _ _ f2
      replace f3 := hk4 _ _ f3
      replace f4 := hk4 _ _ f4
      replace f5 := hk4 _ _ f5
      have m1 := hk4 _ _ (below_keeps HDX.out _ _ hc1)
      have m0 := hk4 _ _ (below_keeps HDX.out _ _ hc0)
      have hgb := HMI.out.at_.1.below HB4.out
      have lg := hgb.lt
      have c0 := hgb.cell 0 _ rfl
      rw [HSV.out] at c0
      have lb : b < w4.heap.size := World.block_lt_of_cell? w4 _ m0
      have lb3 : b3 < w4.heap.size := World.block_lt_of_cell? w4 _ f0
      have lx := HXW.out.lt
      have x0 := HXW.out.cell 0 _ rfl
      have x1 := HXW.out.cell 1 _ rfl
      have x2 := HXW.out.cell 2 _ rfl
      have x3 := HXW.out.cell 3 _ rfl
      have hd4 : Below wr.heap.size wr w4.drew := HB4.out.drew
      have HVO := hid (HIH.out w4.drew g sv bv1 _ _ ⟨name, number, kind, rep, packed, of⟩ m HS.out HM.out (HDX.out.trans (hd4.mono HDX.out.size)) hgs (HMI.out.at_.later hd4) HFM.out.1 HNB.out (by rw [← HFVM.out]; exact HFM.out.2) HWM.out)
      rw [← HFVM.out] at HVO
      have HD4 := hid hd4
      simp only [Fld.val] at HVO
      clear hk4 hd4 hgb
      go_wp2_with fail
      go_still_tail 13, (by kernel_rfl)
      change wpList _ _ _ _ _ w4.drew
      go_wp2_with fail
      refine HVO.out.mono ?_
      rintro e w5 ⟨rfl, bv5, hA5, hS5⟩
      have HR : Hid (WrOne W2 g sv bv b1 L1 w5 bv5 (l ++ ((M.vals x).take (i + 1)).flatMap FV)) := by
        have := HMI.out.put HD4.out hA5 hS5 HAP1.out
        rw [List.append_assoc, ← HTK.out] at this
        exact this
      clear hA5 hS5 lx lg lb lb3 x0 x1 x2 x3 c0 m0 m1 f0 f1 f2 f3 f4 f5
      go_wp2_with fail
      go_roundw
      case rel => exact ⟨i + 1, by go_num, hlt, bv5, HR⟩
      case measure => simp [intOf]; omega
    · obtain rfl : i = vn := by omega
      rw [List.take_of_length_le (by rw [HVN.out]; exact Nat.le_refl _)] at HMI
      obtain ⟨L', HLE'⟩ : ∃ L', Hid (L' = l ++ (M.vals x).flatMap FV) := ⟨_, rfl⟩
      rw [← HLE'.out] at HMI
      have h2 := HMI.out.blk
      rw [HL1.out] at h2
      have l2 := h2.lt
      have x3 := h2.cell 1 _ rfl
      clear h2
      go_wp2_with fail
      clear x3 l2
      go_loopw [50] (fun v50 wr => ∃ (j : Nat), v50 = .int .i64 j ∧ j ≤ un ∧ ∃ (bv' : Value), Hid (WrOne W2 g sv bv b1 L1 wr bv' (L' ++ ((M.unk x).take j).flatMap id))) (fun v50 _ => un - (intOf v50).toNat)
      case atStart => exact ⟨0, rfl, Nat.zero_le _, bv1, by simpa using HMI⟩
      case round =>
        obtain ⟨j, rfl, hj, bv3, HMJ⟩ := hrel
        clear HMI
        by_cases hlt : j < un
        · have hxi : (M.unk x)[j]? = some ((M.unk x)[j]'(by rw [← HUN.out]; exact hlt)) := List.getElem?_eq_getElem _
          generalize (M.unk x)[j]'(by rw [← HUN.out]; exact hlt) = z at hxi
          have hua := HUA.out
          obtain ⟨hzl, b4, o4, ha4, g0⟩ := hua j z hxi
          have hU : strV z = .string ⟨z.toArray⟩ := rfl
          rw [hU] at g0
          have HDX : Hid (Below w0.heap.size w0 wr) := HMJ.out.step.below HAW2.out hgs HD0.out
          replace g0 := below_keeps HDX.out _ _ g0
          have hbl4 : b4 < wr.heap.size := World.block_lt_of_cell? wr _ g0
          have hix4 := index_run1 Tryz.underlying25 size_str ha4 j hlt (cap := uc)
          have HTK := hid (flat_take_succ id (M.unk x) j z hxi)
          have hlen : (L' ++ ((M.unk x).take j).flatMap id).length + z.length ≤ 140737488355328 := by
            have h1 := HLEN.out
            rw [HENC.out, List.length_append] at h1
            have h2 := flat_take_len id (M.unk x) j
            have h3 := HWT.out.2 z (List.mem_of_getElem? hxi)
            rw [HLE'.out]
            simp only [List.length_append]
            omega
          have hlg := HMJ.out.at_.1.lt
          obtain ⟨v6, w6, hr6, hO6, hg6, hown6⟩ := own_append_str HMJ.out.at_.2 z hlen (by omega)
          have HR : Hid (WrOne W2 g sv bv b1 L1 (w6.setCell ⟨g, 1, none⟩ v6) v6 (L' ++ ((M.unk x).take (j + 1)).flatMap id)) := by
            have := HMJ.out.app hg6 hO6 hown6 HAP1.out
            rw [List.append_assoc] at this
            rw [HTK.out]
            exact this
          have hgb := HMJ.out.at_.1
          have c1 := hgb.cell 1 _ rfl
          have hbo : ∀ b, bv3.ownBlock = some b → g + 1 ≤ b := fun b e => (World.ownsRow.lt HMJ.out.at_.2 b e).1
          have hgb6 : Blk w6 g [sv, bv3] 58 := (hg6.block g hlg (fun e => by have := hbo g e.symm; omega)).trans hgb
          have lg6 := hgb6.lt
          have c6 := hgb6.cell 1 _ rfl
          have f6 := hgb6.free 1
          obtain ⟨a3, c3, e3⟩ := HMJ.out.at_.2.form
          obtain ⟨a6, c6', e6⟩ := hO6.form
          obtain ⟨k3, HK3⟩ : ∃ k, Hid (k = (L' ++ ((M.unk x).take j).flatMap id).length) := ⟨_, rfl⟩
          obtain ⟨k6, HK6⟩ : ∃ k, Hid (k = (L' ++ ((M.unk x).take j).flatMap id ++ z).length) := ⟨_, rfl⟩
          rw [← HK3.out] at e3
          rw [← HK6.out] at e6
          subst e3
          subst e6
          have HR6 := hid hr6
          clear hua ha4 hxi hzl hU hlen hO6 hg6 hown6 hgb hbo hgb6 hr6
          go_wp2_with (at_builtin; refine wpList_append2_eq rfl (.tmp 58) (.tmp 59) 32 9 rfl _ _ rfl rfl HR6.out ?_)
          go_roundw
          case rel => exact ⟨j + 1, by go_num, hlt, _, HR⟩
          case measure => simp [intOf]; omega
        · obtain rfl : j = un := by omega
          rw [List.take_of_length_le (by rw [HUN.out]; exact Nat.le_refl _)] at HMJ
          go_wp2_with fail
          go_end0
          refine ⟨rfl, bv3, ?_⟩
          rw [HENC.out]
          refine ⟨?_, (WrStep.of_below HBW.out).trans HMJ.out.step⟩
          have := HMJ.out.at_
          rw [HLE'.out] at this
          simpa [List.append_assoc] using this
theorem writer_message {w0 : World} {s : List Mes} (hs : sright s = true) : ∀ d, MessageOk w0 s d
  | 0 => fun _ _ _ _ _ _ _ _ _ hM _ _ _ _ _ _ => hM.elim
  | d + 1 => writer_message_step hs (writer_value (writer_message hs d))
end Go.Proofs.YtbdeclkccchnoaaGreat
