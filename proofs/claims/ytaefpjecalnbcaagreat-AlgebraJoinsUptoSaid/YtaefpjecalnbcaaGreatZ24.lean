/- Parts of a proof: texts of the author, merged. No condition of their own. -/
import Derived.Test.YtaefpjecalnbcaaGreatZ23
import Derived.BigQuiet
namespace Go.Proofs.YtaefpjecalnbcaaGreat
open Go.RowKit
def RRightOk (s : List Mes) (d : Nat) : Prop := ∀ (w : World) (root : Int) (v sv : Value) (x : M d), SchemaAt w sv s → MsgAt d w v x → mwt d x ≤ 1099511627776 →
  Calls Tryz.prog 29 #[sv, .int .i64 root, v] w fun e w' => e = .returned (.bool (rightB s d root x)) ∧ Below w.heap.size w w'
def RFitsOk (s : List Mes) (d : Nat) : Prop := ∀ (w : World) (f : Fld) (v sv : Value) (x : Val (M d)), SchemaAt w sv s → ValAt (MsgAt d) w v x → vwt (mwt d) x ≤ 1099511627776 →
  Calls Tryz.prog 55 #[sv, f.val, v] w fun e w' => e = .returned (.bool (fitsB (rightB s d) f x)) ∧ Below w.heap.size w w'
theorem fitsB_ref {α : Type} (R : Int → α → Bool) (f : Fld) (x : Val α) : fitsB R f x =
    if (x.words.length + x.texts.length + x.subs.length = 0 ∨ 1 < x.words.length + x.texts.length + x.subs.length ∧ f.rep = false) ∨ kright f.kind = false then false
    else (x.words.all fun w => knumber f.kind && decide (kcanon f.kind w = w)) && (x.texts.all fun t => decide (f.kind = 16) || decide (f.kind = 15) && decide (ufirst t = t.length)) && (x.subs.all fun y => decide (f.kind = 17) && R f.of y) := by
  have hall : ∀ {β : Type} (l : List β) (p : β → Bool), l.length ≠ 0 → (∀ a ∈ l, p a = false) → l.all p = false := by
    intro β l p h1 h2
    cases l with
    | nil => simp at h1
    | cons a t => simp [h2 a (by simp)]
  unfold fitsB
  by_cases h : x.words.length + x.texts.length + x.subs.length = 0 ∨ 1 < x.words.length + x.texts.length + x.subs.length ∧ f.rep = false
  · rw [if_pos h, if_pos (.inl h)]
  · rw [if_neg h]
    obtain ⟨num, ws, ts, ss⟩ := x
    simp only at h ⊢
    by_cases hk : knumber f.kind = true
    · have hk' : 1 ≤ f.kind ∧ f.kind ≤ 14 := of_decide_eq_true hk
      have hkr : kright f.kind = true := decide_eq_true (by omega)
      rw [if_pos hk, if_neg (by rintro (h' | h'); exact h h'; rw [hkr] at h'; simp at h'), hk]
      by_cases h1 : ts.length = 0 ∧ ss.length = 0
      · rw [decide_eq_true h1]
        obtain ⟨h1, h2⟩ := h1
        rw [List.length_eq_zero_iff] at h1 h2
        subst h1; subst h2
        simp
      · rw [decide_eq_false h1, Bool.false_and]
        rw [eq_comm, Bool.and_eq_false_iff, Bool.and_eq_false_iff]
        by_cases h2 : ts.length = 0
        · exact .inr (hall _ _ (fun h3 => h1 ⟨h2, h3⟩) (fun a _ => by rw [decide_eq_false (by omega)]; rfl))
        · exact .inl (.inr (hall _ _ h2 (fun a _ => by rw [decide_eq_false (by omega), decide_eq_false (by omega)]; rfl)))
    · rw [if_neg hk]
      have hkf : knumber f.kind = false := by simpa using hk
      have hk' : ¬ (1 ≤ f.kind ∧ f.kind ≤ 14) := of_decide_eq_false hkf
      rw [hkf]
      have hw : ∀ {b c : Bool}, ws.length ≠ 0 → ((ws.all fun w => false && decide (kcanon f.kind w = w)) && b && c) = false := by
        intro b c h1
        have : (ws.all fun w => false && decide (kcanon f.kind w = w)) = false := hall ws _ h1 (fun _ _ => rfl)
        rw [this]; rfl
      by_cases h17 : f.kind = 17
      · rw [if_pos h17, if_neg (by rintro (h' | h'); exact h h'; unfold kright at h'; have := of_decide_eq_false h'; omega)]
        by_cases h1 : ws.length = 0 ∧ ts.length = 0
        · rw [decide_eq_true h1]
          obtain ⟨h1, h2⟩ := h1
          rw [List.length_eq_zero_iff] at h1 h2
          subst h1; subst h2
          simp [h17]
        · rw [decide_eq_false h1, Bool.false_and]
          by_cases h2 : ws.length = 0
          · rw [eq_comm, Bool.and_eq_false_iff, Bool.and_eq_false_iff]
            exact .inl (.inr (hall _ _ (fun h3 => h1 ⟨h2, h3⟩) (fun a _ => by rw [decide_eq_false (by omega), decide_eq_false (by omega)]; rfl)))
          · rw [hw h2]
      · rw [if_neg h17]
        have hs : ∀ {b : Bool}, ss.length ≠ 0 → (b && (ss.all fun y => decide (f.kind = 17) && R f.of y)) = false := by
          intro b h1
          rw [hall ss _ h1 (fun _ _ => by rw [decide_eq_false h17]; rfl), Bool.and_false]
        by_cases h15 : f.kind = 15
        · rw [if_pos h15, if_neg (by rintro (h' | h'); exact h h'; unfold kright at h'; have := of_decide_eq_false h'; omega)]
          by_cases h1 : ws.length = 0 ∧ ss.length = 0
          · rw [decide_eq_true h1]
            obtain ⟨h1, h2⟩ := h1
            rw [List.length_eq_zero_iff] at h1 h2
            subst h1; subst h2
            simp [h15]
          · rw [decide_eq_false h1, Bool.false_and]
            by_cases h2 : ws.length = 0
            · rw [hs (fun h3 => h1 ⟨h2, h3⟩)]
            · rw [hw h2]
        · rw [if_neg h15]
          by_cases h16 : f.kind = 16
          · rw [if_neg (by rintro (h' | h'); exact h h'; unfold kright at h'; have := of_decide_eq_false h'; omega)]
            by_cases h1 : ws.length = 0 ∧ ss.length = 0
            · rw [decide_eq_true h1, decide_eq_true h16]
              obtain ⟨h1, h2⟩ := h1
              rw [List.length_eq_zero_iff] at h1 h2
              subst h1; subst h2
              simp
            · rw [decide_eq_false h1, Bool.and_false]
              by_cases h2 : ws.length = 0
              · rw [hs (fun h3 => h1 ⟨h2, h3⟩)]
              · rw [hw h2]
          · rw [decide_eq_false h16, Bool.false_and, if_pos (.inr (decide_eq_false (by omega)))]
set_option maxRecDepth 100000 in
set_option maxHeartbeats 4000000 in
theorem ref14_Many (num : Int) (a1 a2 a3 : Option Addr) (n1 n2 n3 c1 c2 c3 : Nat) (h1 : n1 ≤ 140737488355328) (h2 : n2 ≤ 140737488355328) (h3 : n3 ≤ 140737488355328) (w : World) :
    Calls Tryz.prog 65 #[.agg #[.int .i64 num, .slice a1 n1 c1, .slice a2 n2 c2, .slice a3 n3 c3]] w fun e w' => e = .returned (.int .i64 ((n1 + n2 + n3 : Nat) : Int)) ∧ Below w.heap.size w w' := by
  go_enter Tryz.func65, Tryz.ntmps65
  go_wp2
  go_ret
  exact ⟨ret1 (int_eq (by omega)), by (repeat (first | with_reducible exact Below.refl _ _ | with_reducible refine Below.setCell ?_ (by first | omega | (simp; omega) | (simp; done)) _ | with_reducible refine Below.alloc ?_ (by first | omega | (simp; omega) | (simp; done)) _ | with_reducible refine below_drewN ?_ _ | with_reducible refine Below.drew ?_))⟩
theorem size_rmsg (w : World) : (sizeOf 35).run Tryz.prog w = .ok 2 w := by kernel_rfl
theorem size_rval (w : World) : (sizeOf 71).run Tryz.prog w = .ok 4 w := by kernel_rfl
theorem nat_beq (a b : Nat) : ((a : Int) == (b : Int)) = decide (a = b) := by
  rw [Bool.eq_iff_iff]
  simp
  omega
theorem all_take {α : Type} (p : α → Bool) (l : List α) (k : Nat) (x : α) (h : l[k]? = some x) : (l.take (k + 1)).all p = ((l.take k).all p && p x) := by
  rw [List.take_add_one, h, List.all_append]
  simp
set_option maxRecDepth 100000 in
set_option maxHeartbeats 4000000 in
theorem ref14_Fits {s : List Mes} {d : Nat} (ih : RRightOk s d) : RFitsOk s d := by
  intro w f v sv x hS h hw
  obtain ⟨name, number, kind, rep, packed, of⟩ := f
  obtain ⟨wv, tv, sv', rfl, hnum, hW, hT, hSu⟩ := h
  obtain ⟨y, HY⟩ : ∃ y, Hid (y = fitsB (rightB s d) ⟨name, number, kind, rep, packed, of⟩ x) := ⟨_, rfl⟩
  rw [← HY.out]
  have HS := hid hS
  have HWD := hid hW
  have HTX := hid hT
  have HSU := hid hSu
  have HWT : Hid (∀ z ∈ x.subs, mwt d z ≤ 1099511627776) := fun z hz => by
    have h1 := mem_sum_le (mwt d) x.subs z hz
    unfold vwt at hw
    omega
  have HIH := hid ih
  obtain ⟨hwl, wa, wc, rfl, -, hwat⟩ := hW.open
  obtain ⟨htl, ta, tc, rfl, -, htat⟩ := hT.open
  obtain ⟨hsl, sa, sc, rfl, -, hsat⟩ := hSu.open
  obtain ⟨hscl, ssa, ssc, rfl, -⟩ := hS.open
  obtain ⟨wn, HWN⟩ : ∃ n, Hid (n = x.words.length) := ⟨_, rfl⟩
  obtain ⟨tn, HTN⟩ : ∃ n, Hid (n = x.texts.length) := ⟨_, rfl⟩
  obtain ⟨sn, HSN⟩ : ∃ n, Hid (n = x.subs.length) := ⟨_, rfl⟩
  rw [← HWN.out] at HWD hwl ⊢
  rw [← HTN.out] at HTX htl ⊢
  rw [← HSN.out] at HSU hsl ⊢
  have HWA := hid hwat
  have HTA := hid htat
  have HSA := hid hsat
  have HYE : Hid (y = if (wn + tn + sn = 0 ∨ 1 < wn + tn + sn ∧ rep = false) ∨ kright kind = false then false
    else (x.words.all fun w => knumber kind && decide (kcanon kind w = w)) && (x.texts.all fun t => decide (kind = 16) || decide (kind = 15) && decide (ufirst t = t.length)) && (x.subs.all fun y => decide (kind = 17) && rightB s d of y)) := by
      rw [Hid, HY.out, HWN.out, HTN.out, HSN.out]; exact fitsB_ref _ _ _
  generalize x.num = num at *
  simp only [Fld.val]
  have H2 : Hid (∀ W, W = ((w.alloc (.cells #[.string name, .int .i64 number, .int .i64 kind, .bool rep, .bool packed, .int .i64 of] 59)).alloc (.cells #[.int .i64 num, .slice wa wn wc, .slice ta tn tc, .slice sa sn sc] 71)) →
      Blk W w.heap.size [.string name, .int .i64 number, .int .i64 kind, .bool rep, .bool packed, .int .i64 of] 59 ∧ Blk W (w.heap.size + 1) [.int .i64 num, .slice wa wn wc, .slice ta tn tc, .slice sa sn sc] 71 ∧ Below w.heap.size w W) := by
    rintro W rfl
    refine ⟨(Blk.new w _ _).alloc _, ?_, ((Below.refl w.heap.size w).alloc (Nat.le_refl _) _).alloc (by simp) _⟩
    have := Blk.new (w.alloc (.cells #[.string name, .int .i64 number, .int .i64 kind, .bool rep, .bool packed, .int .i64 of] 59)) [.int .i64 num, .slice wa wn wc, .slice ta tn tc, .slice sa sn sc] 71
    rw [show (w.alloc (.cells #[.string name, .int .i64 number, .int .i64 kind, .bool rep, .bool packed, .int .i64 of] 59)).heap.size = w.heap.size + 1 by simp] at this
    exact this
  clear ih hW hT hSu hS hw HY hwat htat hsat
  go_enter Tryz.func55, Tryz.ntmps55
  go_wp2_with fail
  have h2 := H2.out _ rfl
  clear H2
  obtain ⟨hk1, hk2, hb1⟩ := h2
  refine (ref14_Many num wa ta sa wn tn sn wc tc sc hwl htl hsl _).mono ?_
  rintro e w1 ⟨rfl, hb2⟩
  replace hk1 := hk1.below hb2
  replace hk2 := hk2.below hb2
  replace hb1 := hb1.trans (hb2.mono hb1.size)
  clear hb2
  have hml : Hid (∀ W : World, Calls Tryz.prog 65 #[.agg #[.int .i64 num, .slice wa wn wc, .slice ta tn tc, .slice sa sn sc]] W fun e w' => e = .returned (.int .i64 ((wn + tn + sn : Nat) : Int)) ∧ Below W.heap.size W w') := ref14_Many num wa ta sa wn tn sn wc tc sc hwl htl hsl
  obtain ⟨n, HNN⟩ : ∃ n, Hid (n = wn + tn + sn) := ⟨_, rfl⟩
  have hnl : n ≤ 1000000000000000 := by rw [HNN.out]; omega
  rw [← HNN.out] at hml HYE ⊢
  by_cases h0 : n = 0
  · have HF : Hid (y = false) := by rw [Hid, HYE.out, if_pos (.inl (.inl h0))]
    go_wp2_with fail
    go_ret
    exact ⟨by rw [HF.out]; rfl, hb1⟩
  by_cases hB : 1 < n ∧ rep = false
  · have HF : Hid (y = false) := by rw [Hid, HYE.out, if_pos (.inl (.inr hB))]
    obtain ⟨hB, rfl⟩ := hB
    have k0 := hk1.cell 3 _ rfl
    have l1 := hk1.lt
    have l2 := hk2.lt
    have x0 := hk2.cell 0 _ rfl
    have x1 := hk2.cell 1 _ rfl
    have x2 := hk2.cell 2 _ rfl
    have x3 := hk2.cell 3 _ rfl
    go_wp2_with (go_at_call 65; refine (hml.out _).mono ?_; rintro e w3 ⟨rfl, hb3⟩; replace hk1 := hk1.below hb3; have k3 := hk1.cell 3 _ rfl; have l3 := hk1.lt)
    go_ret
    exact ⟨by rw [HF.out]; rfl, hb1.trans (hb3.mono hb1.size)⟩
  have hr1 : n = 1 ∨ (1 < n ∧ rep = true) := by
    by_cases h : 1 < n
    · refine .inr ⟨h, ?_⟩
      cases rep
      · exact absurd ⟨h, rfl⟩ hB
      · rfl
    · exact .inl (by omega)
  by_cases hkr : kright kind = false
  · have HF : Hid (y = false) := by rw [Hid, HYE.out, if_pos (.inr hkr)]
    have HKR := hid hkr
    clear hkr hB
    rcases hr1 with hr1 | ⟨hr1, rfl⟩
    all_goals
      have l1 := hk1.lt
      have l2 := hk2.lt
      have x0 := hk2.cell 0 _ rfl
      have x1 := hk2.cell 1 _ rfl
      have x2 := hk2.cell 2 _ rfl
      have x3 := hk2.cell 3 _ rfl
      go_wp2_with (first | (go_at_call 65; refine (hml.out _).mono ?_; rintro e w3 ⟨rfl, hb3⟩; replace hk1 := hk1.below hb3; have k2 := hk1.cell 2 _ rfl; have k3 := hk1.cell 3 _ rfl; have l3 := hk1.lt) | (go_at_call 82; refine (ref06_Right kind _).mono ?_; rintro e w4 ⟨rfl, rfl⟩; rw [HKR.out]))
      go_ret
      exact ⟨by rw [HF.out]; rfl, hb1.trans (hb3.mono hb1.size)⟩
  · have hkr' : kright kind = true := by simpa using hkr
    have HKR := hid hkr'
    have hnf : ¬ ((n = 0 ∨ 1 < n ∧ rep = false) ∨ kright kind = false) := by
      rintro ((h | h) | h)
      · exact h0 h
      · exact hB h
      · exact hkr h
    obtain ⟨c16, HC16⟩ : ∃ b, Hid (b = decide (kind = 16)) := ⟨_, rfl⟩
    obtain ⟨c15, HC15⟩ : ∃ b, Hid (b = decide (kind = 15)) := ⟨_, rfl⟩
    obtain ⟨c17, HC17⟩ : ∃ b, Hid (b = decide (kind = 17)) := ⟨_, rfl⟩
    obtain ⟨kn, HKN⟩ : ∃ b, Hid (knumber kind = b) := ⟨_, rfl⟩
    have HYF : Hid (y = ((x.words.all fun w => kn && decide (kcanon kind w = w)) && (x.texts.all fun t => c16 || c15 && decide (ufirst t = t.length)) && (x.subs.all fun y => c17 && rightB s d of y))) := by
      rw [Hid, HYE.out, if_neg hnf, HKN.out, ← HC16.out, ← HC15.out, ← HC17.out]
    clear HYE hnf hkr hkr' hB
    rcases hr1 with hr1 | ⟨hr1, rfl⟩
    all_goals
      have l1 := hk1.lt
      have l2 := hk2.lt
      have x0 := hk2.cell 0 _ rfl
      have x1 := hk2.cell 1 _ rfl
      have x2 := hk2.cell 2 _ rfl
      have x3 := hk2.cell 3 _ rfl
      go_wp2_with (first | (go_at_call 65; refine (hml.out _).mono ?_; rintro e w3 ⟨rfl, hb3⟩; replace hk1 := hk1.below hb3; have k2 := hk1.cell 2 _ rfl; have k3 := hk1.cell 3 _ rfl; have l3 := hk1.lt) | (go_at_call 82; refine (ref06_Right kind _).mono ?_; rintro e w4 ⟨rfl, rfl⟩; rw [HKR.out]))
      have HK1 := hid hk1
      have HK2 := hid (hk2.below hb3)
      have HB1 := hid (hb1.trans (hb3.mono hb1.size))
      clear hk1 hk2 hb1 hb3 x0 x1 x2 x3 l1 l2 l3 k2 k3 hml
      have hd0 : ((n : Int) == 0) = false := by rw [Bool.eq_false_iff]; simp; omega
      have hd1 : decide (n = 0) = false := decide_eq_false h0
      try simp only [hd0]
      clear hd0 hd1
      go_loopw [7, 8] (fun v7 v8 wr => ∃ (i : Nat) (b : Bool), v8 = .int .i64 i ∧ v7 = .bool b ∧ i ≤ wn ∧ Hid (b = (x.words.take i).all fun w => kn && decide (kcanon kind w = w)) ∧ Hid (Below w3.heap.size w3 wr)) (fun _ v8 _ => wn - (intOf v8).toNat)
      case atStart => exact ⟨0, true, rfl, rfl, by omega, rfl, Below.refl _ _⟩
      case round =>
        obtain ⟨i, b, rfl, rfl, hi, HA, HI⟩ := hrel
        have HF1 := hid (HK1.out.below HI.out)
        have HF2 := hid (HK2.out.below HI.out)
        have HBW := hid (HB1.out.trans (HI.out.mono HB1.out.size))
        have l1 := HF1.out.lt
        have l2 := HF2.out.lt
        have k2 := HF1.out.cell 2 _ rfl
        have x1 := HF2.out.cell 1 _ rfl
        by_cases hlt : i < wn
        · have hxi : x.words[i]? = some (x.words[i]'(by rw [← HWN.out]; exact hlt)) := List.getElem?_eq_getElem _
          generalize x.words[i]'(by rw [← HWN.out]; exact hlt) = z at hxi
          have hwa := HWA.out
          obtain ⟨hz64, b2, o2, ha2, g0⟩ := hwa i z hxi
          clear hwa
          have hU : wordV z = .int .u64 z := rfl
          rw [hU] at g0
          replace g0 := below_keeps HBW.out _ _ g0
          have hbl : b2 < wr.heap.size := World.block_lt_of_cell? wr _ g0
          have hix := index_run1 Tryz.underlying64 size_u64 ha2 i hlt (cap := wc)
          have HT := hid (all_take (fun w => kn && decide (kcanon kind w = w)) x.words i z hxi)
          rw [← HA.out] at HT
          obtain ⟨cz, HCZ⟩ : ∃ c, Hid (c = kcanon kind z) := ⟨_, rfl⟩
          rw [← HCZ.out] at HT
          have HCA : Hid (kn = true → ∀ W : World, Calls Tryz.prog 84 #[.int .i64 kind, .int .u64 z] W fun e w' => e = .returned (.int .u64 cz) ∧ W = w') := by
            intro h W
            rw [HCZ.out]
            exact ref06_Canon (HKN.out.trans h) z W
          clear hU ha2 hxi hz64
          cases b with
          | false =>
            go_wp2_with fail
            go_quiet (fail)
            go_wp2_with fail
            go_roundw
            case rel => exact ⟨i + 1, false, by go_num, rfl, hlt, by rw [Hid, HT.out]; rfl, below_drewN HI.out _⟩
            case measure => simp [intOf]; omega
          | true =>
            cases kn with
            | false =>
              go_wp2_with fail
              go_quiet ((go_at_call 83; exact quiet_eq (by have := ref06_Number kind; rw [HKN.out] at this; exact this _)))
              go_wp2_with fail
              go_roundw
              case rel => exact ⟨i + 1, false, by go_num, rfl, hlt, by rw [Hid, HT.out]; rfl, below_drewN HI.out _⟩
              case measure => simp [intOf]; omega
            | true =>
              have HCB := hid (HCA.out rfl)
              go_wp2_with fail
              go_quiet (first | (go_at_call 83; exact quiet_eq (by have := ref06_Number kind; rw [HKN.out] at this; exact this _)) | (go_at_call 84; exact quiet_eq (HCB.out _)))
              go_wp2_with fail
              go_roundw
              case rel => exact ⟨i + 1, _, by go_num, rfl, hlt, by rw [Hid, HT.out, Bool.true_and, Bool.true_and]; exact nat_beq _ _, below_drewN HI.out _⟩
              case measure => simp [intOf]; omega
        · obtain rfl : i = wn := by omega
          rw [List.take_of_length_le (by rw [HWN.out]; exact Nat.le_refl _)] at HA
          have HYG : Hid (y = ((b && (x.texts.all fun t => c16 || c15 && decide (ufirst t = t.length))) && (x.subs.all fun y => c17 && rightB s d of y))) := by
            rw [Hid, HA.out]; exact HYF.out
          clear HYF HA k2 hlt
          have x2 := HF2.out.cell 2 _ rfl
          go_wp2_with fail
          clear x1 x2 l1 l2
          go_loopw [7, 9] (fun v7 v9 wr2 => ∃ (i : Nat) (b2 : Bool), v9 = .int .i64 i ∧ v7 = .bool b2 ∧ i ≤ tn ∧ Hid (b2 = (b && (x.texts.take i).all fun t => c16 || c15 && decide (ufirst t = t.length))) ∧ Hid (Below w3.heap.size w3 wr2)) (fun _ v9 _ => tn - (intOf v9).toNat)
          case atStart => exact ⟨0, b, rfl, rfl, by omega, by simp [Hid], HI.out⟩
          case round =>
            clear HI HF1 HF2 HBW
            obtain ⟨j, b2, rfl, rfl, hj, HA, HI⟩ := hrel
            have HF1 := hid (HK1.out.below HI.out)
            have HF2 := hid (HK2.out.below HI.out)
            have HBW := hid (HB1.out.trans (HI.out.mono HB1.out.size))
            have l1 := HF1.out.lt
            have l2 := HF2.out.lt
            have k2 := HF1.out.cell 2 _ rfl
            have x2 := HF2.out.cell 2 _ rfl
            by_cases hlt : j < tn
            · have hxi : x.texts[j]? = some (x.texts[j]'(by rw [← HTN.out]; exact hlt)) := List.getElem?_eq_getElem _
              generalize x.texts[j]'(by rw [← HTN.out]; exact hlt) = z at hxi
              have hta := HTA.out
              obtain ⟨hzl, b3, o3, ha3, g0⟩ := hta j z hxi
              clear hta
              have hU : strV z = .string ⟨z.toArray⟩ := rfl
              rw [hU] at g0
              replace g0 := below_keeps HBW.out _ _ g0
              have hbl : b3 < wr.heap.size := World.block_lt_of_cell? wr _ g0
              have hix := index_run1 Tryz.underlying25 size_str ha3 j hlt (cap := tc)
              have HT : Hid ((b && (x.texts.take (j + 1)).all fun t => c16 || c15 && decide (ufirst t = t.length)) = (b2 && (c16 || c15 && decide (ufirst z = z.length)))) := by
                rw [Hid, all_take _ _ _ _ hxi, ← Bool.and_assoc, ← HA.out]
              obtain ⟨gz, cz, wz, hcv, hbz, hby⟩ := str_bytes wr z hzl
              have HBZ := hid hbz
              have HBY := hid hby
              obtain ⟨zn, HZN⟩ : ∃ n, Hid (n = z.length) := ⟨_, rfl⟩
              rw [← HZN.out] at hcv HBY
              clear hU ha3 hxi hzl hbz hby
              cases b2 with
              | false =>
                go_wp2_with fail
                go_roundw
                case rel => exact ⟨j + 1, false, by go_num, rfl, hlt, by rw [Hid, HT.out]; rfl, HI.out⟩
                case measure => simp [intOf]; omega
              | true =>
                by_cases h16 : kind = 16
                · have HE16 := hid (HC16.out.trans (decide_eq_true h16))
                  subst h16
                  go_wp2_with fail
                  go_roundw
                  case rel => exact ⟨j + 1, true, by go_num, rfl, hlt, by rw [Hid, HT.out, HE16.out]; rfl, HI.out⟩
                  case measure => simp [intOf]; omega
                · have HE16 := hid (HC16.out.trans (decide_eq_false h16))
                  by_cases h15 : kind = 15
                  · have HE15 := hid (HC15.out.trans (decide_eq_true h15))
                    subst h15
                    go_wp2_with (go_at_call 85; refine (ref04_Right HBY.out).mono ?_; rintro e w5 ⟨rfl, hb5⟩)
                    go_roundw
                    case rel => exact ⟨j + 1, _, by go_num, rfl, hlt, by rw [Hid, HT.out, HE16.out, HE15.out, ← HZN.out]; rfl, HI.out.trans ((HBZ.out.trans (hb5.mono HBZ.out.size)).mono HI.out.size)⟩
                    case measure => simp [intOf]; omega
                  · have HE15 := hid (HC15.out.trans (decide_eq_false h15))
                    have hb16 : (kind == 16) = false := by rw [Bool.eq_false_iff]; simp; exact h16
                    go_wp2_with fail
                    go_roundw
                    case rel => exact ⟨j + 1, _, by go_num, rfl, hlt, by rw [Hid, HT.out, HE16.out, HE15.out]; first | rfl | exact hb16, HI.out⟩
                    case measure => simp [intOf]; omega
            · obtain rfl : j = tn := by omega
              rw [List.take_of_length_le (by rw [HTN.out]; exact Nat.le_refl _)] at HA
              have HYH : Hid (y = (b2 && (x.subs.all fun y => c17 && rightB s d of y))) := by
                rw [Hid, HA.out]; exact HYG.out
              clear HYG HA k2 hlt
              have x3 := HF2.out.cell 3 _ rfl
              go_wp2_with fail
              clear x2 x3 l1 l2
              go_loopw [7, 10] (fun v7 v10 wr2 => ∃ (i : Nat) (b3 : Bool), v10 = .int .i64 i ∧ v7 = .bool b3 ∧ i ≤ sn ∧ Hid (b3 = (b2 && (x.subs.take i).all fun y => c17 && rightB s d of y)) ∧ Hid (Below w3.heap.size w3 wr2)) (fun _ v10 _ => sn - (intOf v10).toNat)
              case atStart => exact ⟨0, b2, rfl, rfl, by omega, by simp [Hid], HI.out⟩
              case round =>
                clear HI HF1 HF2 HBW
                obtain ⟨q, b3, rfl, rfl, hq, HA, HI⟩ := hrel
                have HF1 := hid (HK1.out.below HI.out)
                have HF2 := hid (HK2.out.below HI.out)
                have HBW := hid (HB1.out.trans (HI.out.mono HB1.out.size))
                have l1 := HF1.out.lt
                have l2 := HF2.out.lt
                have k2 := HF1.out.cell 2 _ rfl
                have k5 := HF1.out.cell 5 _ rfl
                have x3 := HF2.out.cell 3 _ rfl
                by_cases hlt : q < sn
                · have hxi : x.subs[q]? = some (x.subs[q]'(by rw [← HSN.out]; exact hlt)) := List.getElem?_eq_getElem _
                  generalize x.subs[q]'(by rw [← HSN.out]; exact hlt) = z at hxi
                  have hsa := HSA.out
                  obtain ⟨b4, o4, u1, u2, ha4, g0, g1, hM⟩ := hsa q z hxi
                  clear hsa
                  have hHM := hM.below HBW.out
                  have HWZ := hid (HWT.out z (List.mem_of_getElem? hxi))
                  replace g0 := below_keeps HBW.out _ _ g0
                  replace g1 := below_keeps HBW.out _ _ g1
                  have hbl : b4 < wr.heap.size := World.block_lt_of_cell? wr _ g0
                  have hix := index_run Tryz.underlying43 size_rmsg ha4 q hlt (cap := sc)
                  obtain ⟨rz, HRZ⟩ : ∃ r, Hid (rightB s d of z = r) := ⟨_, rfl⟩
                  have HT : Hid ((b2 && (x.subs.take (q + 1)).all fun y => c17 && rightB s d of y) = (b3 && (c17 && rz))) := by
                    rw [Hid, all_take _ _ _ _ hxi, ← Bool.and_assoc, ← HA.out, HRZ.out]
                  have HCR := hid (HIH.out wr.drew of _ _ z (HS.out.below HBW.out.drew) (hHM.below (Below.refl wr.heap.size wr).drew) HWZ.out)
                  rw [HRZ.out] at HCR
                  clear ha4 hxi hM hHM
                  cases b3 with
                  | false =>
                    go_wp2_with fail
                    go_quiet (fail)
                    go_wp2_with fail
                    go_roundw
                    case rel => exact ⟨q + 1, false, by go_num, rfl, hlt, by rw [Hid, HT.out]; rfl, below_drewN HI.out _⟩
                    case measure => simp [intOf]; omega
                  | true =>
                    by_cases h17 : kind = 17
                    · have HE17 := hid (HC17.out.trans (decide_eq_true h17))
                      subst h17
                      go_wp2_with fail
                      go_still_tail 15, (by kernel_rfl)
                      change wpList _ _ _ _ _ wr.drew
                      go_wp2_with fail
                      refine HCR.out.mono ?_
                      rintro e w5 ⟨rfl, hb5⟩
                      go_wp2_with fail
                      go_roundw
                      case rel => exact ⟨q + 1, _, by go_num, rfl, hlt, by rw [Hid, HT.out, HE17.out]; rfl, HI.out.trans (((Below.refl wr.heap.size wr).drew.trans hb5).mono HI.out.size)⟩
                      case measure => simp [intOf]; omega
                    · have HE17 := hid (HC17.out.trans (decide_eq_false h17))
                      have hb17 : (kind == 17) = false := by rw [Bool.eq_false_iff]; simp; exact h17
                      go_wp2_with fail
                      go_quiet (fail)
                      go_wp2_with fail
                      go_roundw
                      case rel => exact ⟨q + 1, _, by go_num, rfl, hlt, by rw [Hid, HT.out, HE17.out]; first | rfl | exact hb17, below_drewN HI.out _⟩
                      case measure => simp [intOf]; omega
                · obtain rfl : q = sn := by omega
                  rw [List.take_of_length_le (by rw [HSN.out]; exact Nat.le_refl _)] at HA
                  have HYI : Hid (y = b3) := by rw [Hid, HA.out]; exact HYH.out
                  clear HYH HA k2 k5 hlt
                  go_wp2_with fail
                  go_ret
                  exact ⟨by rw [HYI.out]; rfl, HBW.out⟩
end Go.Proofs.YtaefpjecalnbcaaGreat
namespace Go.Proofs.YtaefpjecalnbcaaGreat
open Go.RowKit
theorem sright_num {s : List Mes} (h : sright s = true) (m : Nat) (hm : m < s.length) (f : Fld) (hf : f ∈ (s.getD m .zero).fields) : 1 ≤ f.number ∧ f.number ≤ 536870911 := by
  have h0 : (scheck s).2.2 = 0 := of_decide_eq_true h
  unfold scheck at h0
  by_cases h1 : s.length = 0 ∨ 100 < s.length
  · rw [if_pos h1] at h0; simp at h0
  rw [if_neg h1] at h0
  have hmem : s.getD m .zero ∈ s := by
    have : s.getD m .zero = s[m] := by simp [List.getD, hm]
    rw [this]; exact List.getElem_mem hm
  obtain ⟨h2, -, -⟩ := scheckGo_ok s [] 0 h0 _ hmem
  obtain ⟨nm, nu, h3⟩ := fieldsFault_none _ _ _ h2 f hf
  obtain ⟨-, -, h4, -⟩ := fieldFault_ok h3
  have h5 := of_decide_eq_true h4
  omega
theorem wpStill_of_quiet {P : Program} {ops : Array Oper} {w : World} {Q : Act → Prop} : ∀ (l : List Oper) (a : Act), wpQuiet P ops (fun w' => w' = w) Q l a → wpStill P ops w Q l a
  | [], a, h => h
  | o :: rest, a, h => by
    unfold wpQuiet at h
    unfold wpStill
    by_cases hw : Region.wanted o (yielded ops a.tmps) = true
    · rw [if_pos hw] at h ⊢
      obtain ⟨v, h1, h2⟩ := h
      have h3 := h1 w rfl
      unfold Oper.quietAt at h3
      unfold Oper.still
      generalize (execOp a.eval o).run P w = r at *
      cases r with
      | halt x w' => simp only [Oper.quietUpon] at h3
      | ok n w' =>
        cases n <;> simp only [Oper.quietUpon] at h3 <;> simp only [Oper.stillUpon]
        case value u => exact ⟨h3.1, by rw [h3.2]; exact wpStill_of_quiet rest _ h2⟩
        case skip => exact ⟨h3.1, by rw [← h3.2]; exact wpStill_of_quiet rest _ h2⟩
        case enter f args => exact ⟨h3.1, v, h3.2, wpStill_of_quiet rest _ h2⟩
    · rw [if_neg hw] at h ⊢
      exact wpStill_of_quiet rest _ h
theorem all_drop {α : Type} (p : α → Bool) (l : List α) (k : Nat) (x : α) (h : l[k]? = some x) : (l.drop k).all p = (p x && (l.drop (k + 1)).all p) := by
  obtain ⟨hk, rfl⟩ := List.getElem?_eq_some_iff.1 h
  rw [List.drop_eq_getElem_cons hk, List.all_cons]
set_option maxRecDepth 100000 in
set_option maxHeartbeats 4000000 in
theorem ref14_Right_step {s : List Mes} (hs : sright s = true) {d : Nat} (ih : RFitsOk s d) : RRightOk s (d + 1) := by
  intro w root v sv x hS h hw
  obtain ⟨vv, uv, rfl, hV, hU⟩ := h
  have hK0 := Blk.new w [vv, uv] 35
  have hB0 := (Below.refl w.heap.size w).alloc (Nat.le_refl _) (.cells #[vv, uv] 35)
  have HS := hid hS
  obtain ⟨hsl, sa, sc, rfl, hsat⟩ := hS.open
  obtain ⟨sn, HSN⟩ : ∃ n, Hid (n = s.length) := ⟨_, rfl⟩
  rw [← HSN.out] at hsl HS ⊢
  by_cases hroot : root < 0 ∨ (sn : Int) ≤ root
  · have HF : Hid (rightB s (d + 1) root x = false) := by
      rw [Hid, rightB, if_pos (by rw [← HSN.out]; exact hroot)]
    obtain ⟨-, va, vc, rfl, -, -⟩ := hV.open
    obtain ⟨-, ua, uc, rfl, -, -⟩ := hU.open
    rw [HF.out]
    clear hV hU hsat hS hw hK0
    rcases hroot with hroot | hroot
    all_goals
      go_enter Tryz.func29, Tryz.ntmps29
      go_wp2_with fail
      go_ret
      exact ⟨rfl, hB0⟩
  · obtain ⟨r, rfl⟩ : ∃ r : Nat, root = r := ⟨root.toNat, by omega⟩
    have hr : r < s.length := by rw [← HSN.out]; omega
    have HNUM := hid (fun f hf => sright_num hs r hr f hf)
    obtain ⟨b, o, fv, ha, -, hc0, hc1, hF⟩ := hsat r hr
    have HF := hid hF
    obtain ⟨hfl, fa, fc, rfl, hfat⟩ := hF.open
    obtain ⟨fs, HFS⟩ : ∃ f, Hid (f = (s.getD r .zero).fields) := ⟨_, rfl⟩
    rw [← HFS.out] at hfl hc1 HF hF hfat HNUM
    obtain ⟨fl, HFL⟩ : ∃ n, Hid (n = fs.length) := ⟨_, rfl⟩
    rw [← HFL.out] at hfl hc1 HF hF hfat
    obtain ⟨y, HYY⟩ : ∃ y, Hid (y = rightB s (d + 1) r x) := ⟨_, rfl⟩
    have HY : Hid (y = (valsB (fitsB (rightB s d)) fs (M.vals x) 0 && (M.unk x).all (strangeB fs))) := by
      rw [Hid, HYY.out, rightB, if_neg (by rw [← HSN.out]; exact hroot), HFS.out]; rfl
    rw [← HYY.out]
    have HV := hid hV
    have HU := hid hU
    obtain ⟨hvl, va, vc, rfl, -, hva⟩ := hV.open
    obtain ⟨hul, ua, uc, rfl, -, hua⟩ := hU.open
    obtain ⟨vn, HVN⟩ : ∃ n, Hid (n = (M.vals x).length) := ⟨_, rfl⟩
    obtain ⟨un, HUN⟩ : ∃ n, Hid (n = (M.unk x).length) := ⟨_, rfl⟩
    rw [← HVN.out] at hvl HV hK0 hB0 ⊢
    rw [← HUN.out] at hul HU hK0 hB0 ⊢
    have HWD : Hid ((∀ m ∈ M.vals x, vwt (mwt d) m ≤ 1099511627776) ∧ ∀ t ∈ M.unk x, t.length ≤ 1099511627776) := by
      have h3 : 1 + twt (M.unk x) + ((M.vals x).map (vwt (mwt d))).sum ≤ 1099511627776 := hw
      refine ⟨fun m hm => ?_, fun t ht => ?_⟩
      · have h1 := mem_sum_le (vwt (mwt d)) (M.vals x) m hm
        omega
      · have h1 := mem_sum_le (fun t : List UInt8 => 1 + t.length) (M.unk x) t ht
        unfold twt at h3
        omega
    have HIH := hid ih
    have HVA := hid hva
    have HUA := hid hua
    have HFA := hid hfat
    have hix := index_run Tryz.underlying23 size_mes ha r (by omega : r < sn) (cap := sc)
    have hbl : b < w.heap.size := World.block_lt_of_cell? w _ hc0
    have hd1 : decide ((r : Int) < 0) = false := decide_eq_false (by omega)
    have hd2 : decide (sn ≤ r) = false := decide_eq_false (by omega)
    generalize (s.getD r .zero).name = nm at *
    clear hV hU hsat hS hw hF hva hua hfat ih ha HYY
    go_enter Tryz.func29, Tryz.ntmps29
    go_wp2_with fail
    try simp only [hd1, hd2, Bool.or_false]
    clear hd1 hd2
    generalize hW1 : w.alloc (.cells #[.slice va vn vc, .slice ua un uc] 35) = W1 at hK0 hB0 ⊢
    clear hW1
    obtain ⟨B, HBB⟩ : ∃ B, Hid (B = w.heap.size) := ⟨_, rfl⟩
    rw [← HBB.out] at hK0 ⊢
    have HK := hid hK0
    have HB1 := hid hB0
    clear hK0 hB0
    go_loopw [7, 8] (fun v7 _ wr => ∃ (i : Nat) (last : Int), v7 = .int .i64 i ∧ i ≤ vn ∧ Hid ((i = 0 ∧ last = 0) ∨ (0 < i ∧ ∃ p, (M.vals x)[i - 1]? = some p ∧ p.num = last)) ∧ Hid (valsB (fitsB (rightB s d)) fs ((M.vals x).drop i) last = valsB (fitsB (rightB s d)) fs (M.vals x) 0) ∧ Hid (Below W1.heap.size W1 wr)) (fun v7 _ _ => vn - (intOf v7).toNat)
    case atStart => exact ⟨0, 0, rfl, by omega, .inl ⟨rfl, rfl⟩, rfl, Below.refl _ _⟩
    case round =>
      obtain ⟨i, last, rfl, hi, HLST, HVB, HI⟩ := hrel
      have HBW : Hid (Below w.heap.size w wr) := HB1.out.trans (HI.out.mono HB1.out.size)
      have HX := hid (HK.out.below HI.out)
      have lB := HX.out.lt
      have c0 := HX.out.cell 0 _ rfl
      have m0 := below_keeps HBW.out _ _ hc0
      have m1 := below_keeps HBW.out _ _ hc1
      have lb : b < wr.heap.size := World.block_lt_of_cell? wr _ m0
      by_cases hlt : i < vn
      · have hmi : (M.vals x)[i]? = some ((M.vals x)[i]'(by rw [← HVN.out]; exact hlt)) := List.getElem?_eq_getElem _
        generalize (M.vals x)[i]'(by rw [← HVN.out]; exact hlt) = m at hmi
        have hva := HVA.out
        obtain ⟨b2, o2, v1, v2, v3, ha2, g0, g1, g2, g3, hM⟩ := hva i m hmi
        clear hva
        have hst := hid (valsB_at (fitsB (rightB s d)) fs (M.vals x) i m last hmi)
        have HWM := hid (HWD.out.1 m (List.mem_of_getElem? hmi))
        have HM := hid hM
        have hk := below_keeps HBW.out
        have hr0 := hk _ _ g0
        have hix2 := index_run Tryz.underlying33 size_rval ha2 i hlt (cap := vc)
        have hbl2 : b2 < wr.heap.size := World.block_lt_of_cell? wr _ hr0
        generalize hmn : m.num = mn at *
        have HMN := hid hmn
        have HFC := hid (ref07_Field (HF.out.below HBW.out.drew) nm mn)
        obtain ⟨j, HJ⟩ : ∃ j, Hid (fieldAt fs mn = j) := ⟨_, rfl⟩
        rw [HJ.out] at HFC hst
        have HA2 := hid ha2
        have HMI := hid hmi
        clear hmn hM hk ha2 hmi
        go_wp2_with fail
        go_still_tail 10, (by kernel_rfl)
        change wpList _ _ _ _ _ wr.drew
        go_wp2_with fail
        refine HFC.out.mono ?_
        rintro e w4 ⟨rfl, hb4⟩
        have HB4 : Hid (Below wr.heap.size wr w4) := (Below.refl wr.heap.size wr).drew.trans hb4
        have HBA : Hid (Below W1.heap.size W1 w4) := HI.out.trans (HB4.out.mono HI.out.size)
        have HBL := hid (HB1.out.trans (HBA.out.mono HB1.out.size))
        clear hb4 lB c0 m0 m1 lb hr0 hbl2 HX HFC
        have HX := hid (HK.out.below HBA.out)
        have lB := HX.out.lt
        have c0 := HX.out.cell 0 _ rfl
        have hk4 := below_keeps HBL.out
        have m0 := hk4 _ _ hc0
        have m1 := hk4 _ _ hc1
        have lb : b < w4.heap.size := World.block_lt_of_cell? w4 _ m0
        replace g0 := hk4 _ _ g0
        replace g1 := hk4 _ _ g1
        replace g2 := hk4 _ _ g2
        replace g3 := hk4 _ _ g3
        have lb2 : b2 < w4.heap.size := World.block_lt_of_cell? w4 _ g0
        have RET : Hid (y = false → ∀ W, Below w4.heap.size w4 W → Below w.heap.size w W) := fun _ W hb => HBL.out.trans (hb.mono HBL.out.size)
        rcases fieldAt_cases fs mn with hj | ⟨jn, hjl, hj, hnum⟩
        · obtain rfl : j = -1 := by rw [← HJ.out]; exact hj
          have HYF : Hid (y = false) := by
            have h1 := HVB.out
            rw [hst.out, if_pos (.inl (by omega))] at h1
            rw [Hid, HY.out, ← h1]; rfl
          clear hj
          go_wp2_with fail
          go_quiet (fail)
          go_wp2_with fail
          go_ret
          exact ⟨by rw [HYF.out]; rfl, below_drewN HBL.out _⟩
        · obtain rfl : j = (jn : Int) := by rw [← HJ.out]; exact hj
          rw [← HFL.out] at hjl
          clear hj
          have hjn : ¬ ((jn : Int) < 0) := by omega
          by_cases hle : mn ≤ last
          · have HYF : Hid (y = false) := by
              have h1 := HVB.out
              rw [hst.out, if_pos (.inr (.inl hle))] at h1
              rw [Hid, HY.out, ← h1]; rfl
            have hi0 : 0 < i ∧ ∃ p, (M.vals x)[i - 1]? = some p ∧ p.num = last := by
              rcases HLST.out with ⟨h1, h2⟩ | h
              · have := (HNUM.out (fs.getD jn .zero) (getD_mem _ _ (by rw [← HFL.out]; exact hjl))).1
                omega
              · exact h
            obtain ⟨hi0, p, hpi, hpn⟩ := hi0
            have hva := HVA.out
            obtain ⟨b5, o5, -, -, -, ha5, g5, -⟩ := hva (i - 1) p hpi
            clear hva
            rw [HA2.out] at ha5
            cases ha5
            rw [hpn] at g5
            replace g5 := hk4 _ _ g5
            have hix5 := index_run Tryz.underlying33 size_rval HA2.out (i - 1) (show i - 1 < vn by omega) (cap := vc)
            rw [show ((i - 1 : Nat) : Int) = (i : Int) - 1 by omega] at hix5
            have hwr : IntKind.i64.wrap ((i : Int) - 1) = (i : Int) - 1 := IntWalk.i64_in _ (by omega)
            clear hpi hpn hk4 hnum
            go_wp2_with fail
            have hdj : decide ((jn : Int) < 0) = false := decide_eq_false (by omega)
            have hdl : decide (mn ≤ last) = true := decide_eq_true (by omega)
            go_quiet (fail)
            clear hdj hdl
            go_wp2_with fail
            go_ret
            exact ⟨by rw [HYF.out]; rfl, below_drewN HBL.out _⟩
          · have hfa := HFA.out
            obtain ⟨b3, o3, ha3, hok, f0, f1, f2, f3, f4, f5⟩ := hfa jn hjl
            clear hfa
            obtain ⟨⟨name, number, kind, rep, packed, of⟩, HFD⟩ : ∃ f, Hid (fs.getD jn .zero = f) := ⟨_, rfl⟩
            rw [HFD.out] at f0 f1 f2 f3 f4 f5
            have HST2 : Hid (valsB (fitsB (rightB s d)) fs (M.vals x) 0 = if fitsB (rightB s d) ⟨name, number, kind, rep, packed, of⟩ m = false then false else valsB (fitsB (rightB s d)) fs ((M.vals x).drop (i + 1)) mn) := by
              rw [Hid, ← HVB.out, hst.out, Int.toNat_natCast, HFD.out]
              by_cases hf : fitsB (rightB s d) ⟨name, number, kind, rep, packed, of⟩ m = false
              · rw [if_pos (.inr (.inr hf)), if_pos hf]
              · rw [if_neg hf, if_neg]
                rintro (h | h | h)
                · omega
                · exact hle h
                · exact hf h
            replace f0 := hk4 _ _ f0
            replace f1 := hk4 _ _ f1
            replace f2 := hk4 _ _ f2
            replace f3 := hk4 _ _ f3
            replace f4 := hk4 _ _ f4
            replace f5 := hk4 _ _ f5
            have lb3 : b3 < w4.heap.size := World.block_lt_of_cell? w4 _ f0
            have hix3 := index_run Tryz.underlying60 size_fld ha3 jn hjl (cap := fc)
            obtain ⟨y2, HY2⟩ : ∃ y2, Hid (fitsB (rightB s d) ⟨name, number, kind, rep, packed, of⟩ m = y2) := ⟨_, rfl⟩
            have HFT := hid (HIH.out w4.drew ⟨name, number, kind, rep, packed, of⟩ _ _ m (HS.out.below HBL.out.drew) (VMsg.below HM.out HBL.out.drew) HWM.out)
            rw [HY2.out] at HFT HST2
            rcases HLST.out with ⟨hz, hz2⟩ | ⟨hi0, p, hpi, hpn⟩
            · have HZ := hid hz
              have hix0 : ∀ W : World, (Instr.indexAt 33 (.slice va vn vc) (.int .i64 0)).run Tryz.prog W = .ok (.pointer (some ⟨b2, o2, none⟩)) W := fun W => by
                have := hix2 W
                rw [hz] at this
                simpa using this
              rw [hz] at g0 g1 g2 g3
              simp only [Nat.zero_mul, Nat.add_zero] at g0 g1 g2 g3
              clear ha3 hok hnum hk4 hjn hst HVB
              go_wp2_with fail
              have hdj : decide ((jn : Int) < 0) = false := decide_eq_false (by omega)
              have hdl : decide (mn ≤ last) = false := decide_eq_false (by omega)
              have hdi : decide (0 < i) = false := decide_eq_false (by omega)
              have hdi2 : decide ((0 : Int) < (i : Int)) = false := decide_eq_false (by omega)
              clear hz hz2
              refine wp_region_still_tail 37 (by kernel_rfl) (by kernel_rfl) ?_
              simp only [List.take_succ_cons, List.take_zero, List.drop_succ_cons, List.drop_zero]
              change wpStill _ _ w4.drew _ _ _
              refine wpStill_of_quiet _ _ ?_
              repeat (go_big_quiet_step (fail))
              refine wpQuiet_nil ?_
              change wpList _ _ _ _ _ w4.drew
              clear hdj hdl hdi hdi2
              go_wp2_with fail
              refine HFT.out.mono ?_
              rintro e w5 ⟨rfl, hb5⟩
              have HB5 : Hid (Below W1.heap.size W1 w5) := HBA.out.trans (((Below.refl w4.heap.size w4).drew.trans hb5).mono HBA.out.size)
              clear hb5
              cases y2 with
              | false =>
                have HYF : Hid (y = false) := by
                  have h1 := HST2.out
                  rw [if_pos rfl] at h1
                  rw [Hid, HY.out, h1]; rfl
                go_wp2_with fail
                go_ret
                exact ⟨by rw [HYF.out]; rfl, HB1.out.trans (HB5.out.mono HB1.out.size)⟩
              | true =>
                go_wp2_with fail
                go_roundw
                case rel => exact ⟨i + 1, mn, by have hz' : i = 0 := HZ.out; rw [hz']; first | rfl | go_num, by have hz' : i = 0 := HZ.out; omega, .inr ⟨by omega, m, by simpa using HMI.out, HMN.out⟩, by rw [Hid, HST2.out, if_neg (by decide)], HB5.out⟩
                case measure => simp [intOf]; have hz' : i = 0 := HZ.out; omega
            · have hva := HVA.out
              obtain ⟨b5, o5, -, -, -, ha5, g5, -⟩ := hva (i - 1) p hpi
              clear hva
              rw [HA2.out] at ha5
              cases ha5
              rw [hpn] at g5
              replace g5 := hk4 _ _ g5
              have hix5 := index_run Tryz.underlying33 size_rval HA2.out (i - 1) (show i - 1 < vn by omega) (cap := vc)
              rw [show ((i - 1 : Nat) : Int) = (i : Int) - 1 by omega] at hix5
              have hwr : IntKind.i64.wrap ((i : Int) - 1) = (i : Int) - 1 := IntWalk.i64_in _ (by omega)
              clear ha3 hok hnum hk4 hjn hst HVB hpi hpn
              go_wp2_with fail
              have hdj : decide ((jn : Int) < 0) = false := decide_eq_false (by omega)
              have hdl : decide (mn ≤ last) = false := decide_eq_false (by omega)
              go_still_tail 37, (by kernel_rfl)
              change wpList _ _ _ _ _ w4.drew
              clear hdj hdl
              go_wp2_with fail
              refine HFT.out.mono ?_
              rintro e w5 ⟨rfl, hb5⟩
              have HB5 : Hid (Below W1.heap.size W1 w5) := HBA.out.trans (((Below.refl w4.heap.size w4).drew.trans hb5).mono HBA.out.size)
              clear hb5
              cases y2 with
              | false =>
                have HYF : Hid (y = false) := by
                  have h1 := HST2.out
                  rw [if_pos rfl] at h1
                  rw [Hid, HY.out, h1]; rfl
                go_wp2_with fail
                go_ret
                exact ⟨by rw [HYF.out]; rfl, HB1.out.trans (HB5.out.mono HB1.out.size)⟩
              | true =>
                go_wp2_with fail
                go_roundw
                case rel => exact ⟨i + 1, mn, by go_num, hlt, .inr ⟨by omega, m, by simpa using HMI.out, HMN.out⟩, by rw [Hid, HST2.out, if_neg (by decide)], HB5.out⟩
                case measure => simp [intOf]; omega
      · obtain rfl : i = vn := by omega
        have HE : Hid (y = (M.unk x).all (strangeB fs)) := by
          have h1 := HVB.out
          rw [List.drop_of_length_le (by rw [HVN.out]; exact Nat.le_refl _)] at h1
          rw [Hid, HY.out, ← h1]; rfl
        have c1 := HX.out.cell 1 _ rfl
        go_wp2_with fail
        clear lB c0 c1 m0 m1 lb HVB HLST HX HBW
        go_loopw [9, 10, 11] (fun v9 _ _ wr2 => ∃ (q : Nat), v9 = .int .i64 q ∧ q ≤ un ∧ Hid ((M.unk x).all (strangeB fs) = ((M.unk x).drop q).all (strangeB fs)) ∧ Hid (Below W1.heap.size W1 wr2)) (fun v9 _ _ _ => un - (intOf v9).toNat)
        case atStart => exact ⟨0, rfl, by omega, rfl, HI.out⟩
        case round =>
          clear HI
          obtain ⟨q, rfl, hq, HQ, HI⟩ := hrel
          have HBW : Hid (Below w.heap.size w wr) := HB1.out.trans (HI.out.mono HB1.out.size)
          have HX := hid (HK.out.below HI.out)
          have lB := HX.out.lt
          have c1 := HX.out.cell 1 _ rfl
          by_cases hlt2 : q < un
          · have hxi : (M.unk x)[q]? = some ((M.unk x)[q]'(by rw [← HUN.out]; exact hlt2)) := List.getElem?_eq_getElem _
            generalize (M.unk x)[q]'(by rw [← HUN.out]; exact hlt2) = z at hxi
            have hua := HUA.out
            obtain ⟨hzl, b3, o3, ha3, g0⟩ := hua q z hxi
            clear hua
            have hU : strV z = .string ⟨z.toArray⟩ := rfl
            rw [hU] at g0
            replace g0 := below_keeps HBW.out _ _ g0
            have hbl3 : b3 < wr.heap.size := World.block_lt_of_cell? wr _ g0
            have hix3 := index_run1 Tryz.underlying25 size_str ha3 q hlt2 (cap := uc)
            have HT := hid (all_drop (strangeB fs) (M.unk x) q z hxi)
            obtain ⟨gz, cz, wz, hcv, hbz, hby⟩ := str_bytes wr z hzl
            have HBZ := hid hbz
            have HBY := hid hby
            obtain ⟨zn, HZN⟩ : ∃ n, Hid (n = z.length) := ⟨_, rfl⟩
            rw [← HZN.out] at hcv HBY
            obtain ⟨rc, cd, HR⟩ : ∃ rc cd, Hid (rnext z 0 = (rc, cd)) := ⟨_, _, rfl⟩
            have HSB : Hid (strangeB fs z = (decide (cd = 0 ∧ rc.to = zn) && decide (fieldAt fs rc.number < 0))) := by
              rw [Hid, strangeB, HR.out, ← HZN.out]
            have HNX := hid (ref05_Next HBY.out 0)
            rw [HR.out] at HNX
            obtain ⟨rn, rw', rs, ra, rt⟩ := rc
            clear hU hxi hzl hbz hby ha3
            go_wp2_with fail
            refine HNX.out.mono ?_
            rintro e w4 ⟨rfl, hb4⟩
            simp only [Rec.val]
            go_wp2_with fail
            have hX5 := Blk.new w4 [.int .i64 rn, .int .i64 rw', .int .i64 rs, .int .i64 ra, .int .i64 rt] 96
            have hB5 : Below wr.heap.size wr (w4.alloc (.cells #[.int .i64 rn, .int .i64 rw', .int .i64 rs, .int .i64 ra, .int .i64 rt] 96)) :=
              (HBZ.out.trans (hb4.mono HBZ.out.size)).alloc (by have := HBZ.out.size; have := hb4.size; omega) _
            generalize hW5 : w4.alloc (.cells #[.int .i64 rn, .int .i64 rw', .int .i64 rs, .int .i64 ra, .int .i64 rt] 96) = W5 at hX5 hB5 ⊢
            clear hW5 hb4 hcv
            obtain ⟨X5, HX5⟩ : ∃ X, Hid (X = w4.heap.size) := ⟨_, rfl⟩
            rw [← HX5.out] at hX5 ⊢
            have HBA : Hid (Below W1.heap.size W1 W5) := HI.out.trans (hB5.mono HI.out.size)
            have HBL := hid (HB1.out.trans (HBA.out.mono HB1.out.size))
            have HB := hid (HK.out.below HBA.out)
            have x0 := hX5.cell 0 _ rfl
            have x4 := hX5.cell 4 _ rfl
            have lx := hX5.lt
            have lB5 := HB.out.lt
            have c5 := HB.out.cell 1 _ rfl
            have hk5 := below_keeps HBL.out
            have m0 := hk5 _ _ hc0
            have m1 := hk5 _ _ hc1
            have lb5 : b < W5.heap.size := World.block_lt_of_cell? W5 _ m0
            have g5 := below_keeps hB5 _ _ g0
            have lb3 : b3 < W5.heap.size := World.block_lt_of_cell? W5 _ g5
            have hzn : z.length = zn := HZN.out.symm
            clear hX5 hB5 hk5 g0 hbl3 lB c1
            by_cases hcd : cd = 0
            · subst hcd
              by_cases hrt : rt = zn
              · have HSC : Hid (strangeB fs z = decide (fieldAt fs rn < 0)) := by rw [Hid, HSB.out, decide_eq_true ⟨rfl, hrt⟩]; rfl
                have hb2 : ((rt : Int) != (zn : Int)) = false := by rw [hrt]; simp
                have HFC := hid (ref07_Field (HF.out.below HBL.out.drew) nm rn)
                obtain ⟨j, HJ⟩ : ∃ j, Hid (fieldAt fs rn = j) := ⟨_, rfl⟩
                rw [HJ.out] at HFC HSC
                subst hrt
                go_wp2_with fail
                refine wp_region_still_tail 20 (by kernel_rfl) (by kernel_rfl) ?_
                simp only [List.take_succ_cons, List.take_zero, List.drop_succ_cons, List.drop_zero]
                change wpStill _ _ W5.drew _ _ _
                refine wpStill_of_quiet _ _ ?_
                iterate 20 (go_big_quiet_step (fail))
                refine wpQuiet_nil ?_
                change wpList _ _ _ _ _ W5.drew
                go_wp2_with fail
                refine HFC.out.mono ?_
                rintro e w6 ⟨rfl, hb6⟩
                have HB6 : Hid (Below W1.heap.size W1 w6) := HBA.out.trans (((Below.refl W5.heap.size W5).drew.trans hb6).mono HBA.out.size)
                clear hb6
                by_cases hj : 0 ≤ j
                · have HYF : Hid (y = false) := by
                    rw [Hid, HE.out, HQ.out, HT.out, HSC.out, decide_eq_false (by omega)]; rfl
                  go_wp2_with fail
                  go_ret
                  exact ⟨by rw [HYF.out]; rfl, HB1.out.trans (HB6.out.mono HB1.out.size)⟩
                · have HQ2 : Hid ((M.unk x).all (strangeB fs) = ((M.unk x).drop (q + 1)).all (strangeB fs)) := by
                    rw [Hid, HQ.out, HT.out, HSC.out, decide_eq_true (by omega)]; rfl
                  go_wp2_with fail
                  go_roundw
                  case rel => exact ⟨q + 1, by go_num, hlt2, HQ2.out, HB6.out⟩
                  case measure => simp [intOf]; omega
              · have HYF : Hid (y = false) := by
                  rw [Hid, HE.out, HQ.out, HT.out, HSB.out, decide_eq_false (by rintro ⟨-, h⟩; exact hrt h)]; rfl
                have hb2 : ((rt : Int) != (zn : Int)) = true := by simp; omega
                clear hrt
                go_wp2_with fail
                go_quiet (fail)
                go_wp2_with fail
                go_ret
                exact ⟨by rw [HYF.out]; rfl, below_drewN HBL.out _⟩
            · have HYF : Hid (y = false) := by
                rw [Hid, HE.out, HQ.out, HT.out, HSB.out, decide_eq_false (by rintro ⟨h, -⟩; exact hcd h)]; rfl
              have hb1 : ((cd : Int) != 0) = true := by simp; omega
              clear hcd
              go_wp2_with fail
              go_quiet (fail)
              go_wp2_with fail
              go_ret
              exact ⟨by rw [HYF.out]; rfl, below_drewN HBL.out _⟩
          · obtain rfl : q = un := by omega
            have HYT : Hid (y = true) := by
              rw [Hid, HE.out, HQ.out, List.drop_of_length_le (by rw [HUN.out]; exact Nat.le_refl _)]; rfl
            go_wp2_with fail
            go_ret
            exact ⟨by rw [HYT.out]; rfl, HBW.out⟩
theorem ref14_rightOk {s : List Mes} (hs : sright s = true) : ∀ d, RRightOk s d
  | 0 => fun _ _ _ _ _ _ h => h.elim
  | d + 1 => ref14_Right_step hs (ref14_Fits (ref14_rightOk hs d))
end Go.Proofs.YtaefpjecalnbcaaGreat
namespace Go.Proofs.YtaefpjecalnbcaaGreat
open Go.RowKit
def mayCode (s : List Mes) (root : Int) (d : Nat) (x : M d) : Nat := if sright s = false then 9 else if root < 0 ∨ (s.length : Int) ≤ root then 2 else if rightB s d root x = false then 12 else 0
set_option maxRecDepth 100000 in
set_option maxHeartbeats 4000000 in
theorem tree_Right {w : World} {sv v : Value} {s : List Mes} {d : Nat} {x : M d} (hS : SchemaAt w sv s) (root : Int) (h : MsgAt d w v x) (hw : mwt d x ≤ 1099511627776) :
    Calls Tryz.prog 21 #[sv, .int .i64 root, v] w fun e w' => e = .returned (.bool (sright s && rightB s d root x)) ∧ Below w.heap.size w w' := by
  have HS := hid hS
  have HM := hid h
  have HW := hid hw
  have hok := tree_rightOk s d
  unfold RightOk at hok
  have HOK := hid hok
  obtain ⟨-, sa, sc, rfl, -⟩ := hS.open
  obtain ⟨a1, n1, c1, a2, n2, c2, rfl⟩ := h.form
  have hB1 : Below w.heap.size w (w.alloc (.cells #[.slice a1 n1 c1, .slice a2 n2 c2] 27)) := (Below.refl _ _).alloc (Nat.le_refl _) _
  have HB1 := hid hB1
  have hk := Blk.new w [.slice a1 n1 c1, .slice a2 n2 c2] 27
  have HK := hid hk
  obtain ⟨b, HBB⟩ : ∃ b, Hid (sright s = b) := ⟨_, rfl⟩
  obtain ⟨r, HR⟩ : ∃ r, Hid (rightB s d root x = r) := ⟨_, rfl⟩
  rw [HBB.out, HR.out]
  clear hok hS h hw hB1 hk
  cases b with
  | false =>
    go_enter Tryz.func21, Tryz.ntmps21
    go_wp2_with (go_at_call 42; refine (schema_Right (HS.out.below HB1.out)).mono ?_; rintro e w1 ⟨rfl, hb1⟩; rw [HBB.out])
    go_ret
    exact ⟨rfl, HB1.out.trans (hb1.mono HB1.out.size)⟩
  | true =>
    go_enter Tryz.func21, Tryz.ntmps21
    go_wp2_with fail
    refine (schema_Right (HS.out.below HB1.out)).mono ?_
    rintro e w1 ⟨rfl, hb1⟩
    rw [HBB.out]
    have HK1 := hid (HK.out.below hb1)
    have x0 := HK1.out.cell 0 _ rfl
    have x1 := HK1.out.cell 1 _ rfl
    have lx := HK1.out.lt
    have HB2 := hid (HB1.out.trans (hb1.mono HB1.out.size))
    clear hb1
    go_wp2_with fail
    refine (HOK.out _ root _ _ x (HS.out.below HB2.out) (HM.out.below HB2.out) HW.out).mono ?_
    rintro e w2 ⟨rfl, hb2⟩
    rw [HR.out]
    go_wp2_with fail
    go_ret
    exact ⟨rfl, HB2.out.trans (hb2.mono HB2.out.size)⟩
set_option maxRecDepth 100000 in
set_option maxHeartbeats 4000000 in
theorem ref13_Args {w : World} {sv : Value} {s : List Mes} (hS : SchemaAt w sv s) (root : Int) :
    Calls Tryz.prog 28 #[sv, .int .i64 root] w fun e w' => e = .returned (.int .i64 ((if sright s = false then 9 else if root < 0 ∨ (s.length : Int) ≤ root then 2 else 0 : Nat) : Int)) ∧ Below w.heap.size w w' := by
  have HS := hid hS
  obtain ⟨hsl, sa, sc, rfl, -⟩ := hS.open
  obtain ⟨b, HBB⟩ : ∃ b, Hid (sright s = b) := ⟨_, rfl⟩
  rw [HBB.out]
  obtain ⟨sn, HSN⟩ : ∃ n, Hid (n = s.length) := ⟨_, rfl⟩
  rw [← HSN.out] at hsl HS ⊢
  clear hS
  cases b with
  | false =>
    go_enter Tryz.func28, Tryz.ntmps28
    go_wp2_with (go_at_call 54; refine (ref07_Right HS.out).mono ?_; rintro e w1 ⟨rfl, hb1⟩; rw [HBB.out])
    go_ret
    exact ⟨rfl, hb1⟩
  | true =>
    rw [if_neg (by decide)]
    by_cases h : root < 0 ∨ (sn : Int) ≤ root
    · rw [if_pos h]
      rcases h with h | h
      all_goals
        go_enter Tryz.func28, Tryz.ntmps28
        go_wp2_with (go_at_call 54; refine (ref07_Right HS.out).mono ?_; rintro e w1 ⟨rfl, hb1⟩; rw [HBB.out])
        go_ret
        exact ⟨rfl, hb1⟩
    · rw [if_neg h]
      have h1 : 0 ≤ root := by omega
      have h2 : root < sn := by omega
      go_enter Tryz.func28, Tryz.ntmps28
      go_wp2_with (go_at_call 54; refine (ref07_Right HS.out).mono ?_; rintro e w1 ⟨rfl, hb1⟩; rw [HBB.out])
      go_ret
      exact ⟨rfl, hb1⟩
set_option maxRecDepth 100000 in
set_option maxHeartbeats 4000000 in
theorem ref15_May {w : World} {sv v1 v2 : Value} {s : List Mes} {d g : Nat} {x : M d} (hS : SchemaAt w sv s) (root : Int) (h : MsgAt d w (.agg #[v1, v2]) x) (hw : mwt d x ≤ 1099511627776)
    (g0 : w.cell? ⟨g, 0, none⟩ = some v1) (g1 : w.cell? ⟨g, 1, none⟩ = some v2) :
    Calls Tryz.prog 13 #[sv, .int .i64 root, .slice (some ⟨g, 0, none⟩) 1 1] w fun e w' => e = .returned (.int .i64 (mayCode s root d x)) ∧ Below w.heap.size w w' := by
  have HS := hid hS
  have HM := hid h
  have HW := hid hw
  have HA := hid (ref13_Args hS root)
  obtain ⟨hsl, sa, sc, rfl, -⟩ := hS.open
  obtain ⟨a1, n1, c1, a2, n2, c2, he⟩ := h.form
  cases he
  obtain ⟨m, HMC⟩ : ∃ m, Hid (m = mayCode s root d x) := ⟨_, rfl⟩
  rw [← HMC.out]
  by_cases hb : sright s = false
  · have HE : Hid (m = 9) := by rw [Hid, HMC.out, mayCode, if_pos hb]
    rw [if_pos hb] at HA
    clear hS h hw hb HMC
    go_enter Tryz.func13, Tryz.ntmps13
    go_wp2_with (go_at_call 28; refine HA.out.mono ?_; rintro e w1 ⟨rfl, hb1⟩)
    go_ret
    exact ⟨by rw [HE.out]; rfl, hb1⟩
  by_cases hr : root < 0 ∨ (s.length : Int) ≤ root
  · have HE : Hid (m = 2) := by rw [Hid, HMC.out, mayCode, if_neg hb, if_pos hr]
    rw [if_neg hb, if_pos hr] at HA
    clear hS h hw hb HMC hr
    go_enter Tryz.func13, Tryz.ntmps13
    go_wp2_with (go_at_call 28; refine HA.out.mono ?_; rintro e w1 ⟨rfl, hb1⟩)
    go_ret
    exact ⟨by rw [HE.out]; rfl, hb1⟩
  · rw [if_neg hb, if_neg hr] at HA
    have hok := ref14_rightOk (s := s) (by simpa using hb) d
    unfold RRightOk at hok
    have HOK := hid hok
    obtain ⟨r, HR⟩ : ∃ r, Hid (rightB s d root x = r) := ⟨_, rfl⟩
    have HE : Hid (m = if r = false then 12 else 0) := by rw [Hid, HMC.out, mayCode, if_neg hb, if_neg hr, HR.out]
    have hix : ∀ W : World, (Instr.indexAt 43 (.slice (some ⟨g, 0, none⟩) 1 1) (.int .i64 0)).run Tryz.prog W = .ok (.pointer (some ⟨g, 0, none⟩)) W := fun W => by
      have := index_run Tryz.underlying43 size_rmsg (a := some ⟨g, 0, none⟩) rfl 0 (len := 1) (by decide) (cap := 1) W
      simpa using this
    clear hS h hw hb HMC hr hok
    go_enter Tryz.func13, Tryz.ntmps13
    go_wp2_with (go_at_call 28; refine HA.out.mono ?_; rintro e w1 ⟨rfl, hb1⟩)
    have HB1 := hid hb1
    have k0 := below_keeps hb1 _ _ g0
    have k1 := below_keeps hb1 _ _ g1
    have lg : g < w1.heap.size := World.block_lt_of_cell? w1 _ k0
    clear hb1
    go_loopw [8] (fun v8 wr => ∃ i : Nat, v8 = .int .i64 i ∧ i ≤ 1 ∧ Hid (i = 1 → r = true) ∧ Hid (Below w1.heap.size w1 wr)) (fun v8 _ => 1 - (intOf v8).toNat)
    case atStart => exact ⟨0, rfl, by omega, fun h => absurd h (by decide), Below.refl _ _⟩
    case round =>
      obtain ⟨i, rfl, hi, HI, HB⟩ := hrel
      have HBW := hid (HB1.out.trans (HB.out.mono HB1.out.size))
      replace k0 := below_keeps HB.out _ _ k0
      replace k1 := below_keeps HB.out _ _ k1
      have lg : g < wr.heap.size := World.block_lt_of_cell? wr _ k0
      by_cases h0 : i = 0
      · subst h0
        go_wp2_with fail
        refine (HOK.out _ root _ _ x (HS.out.below HBW.out) (HM.out.below HBW.out) HW.out).mono ?_
        rintro e w2 ⟨rfl, hb2⟩
        rw [HR.out]
        have HB2 := hid (HB.out.trans (hb2.mono HB.out.size))
        clear hb2
        cases r with
        | false =>
          go_wp2_with fail
          go_ret
          exact ⟨by rw [HE.out]; rfl, HB1.out.trans (HB2.out.mono HB1.out.size)⟩
        | true =>
          go_wp2_with fail
          go_roundw
          case rel => exact ⟨1, by first | rfl | go_num, by omega, by simp [Hid], HB2.out⟩
          case measure => simp [intOf]
      · obtain rfl : i = 1 := by omega
        have hr1 := HI.out rfl
        subst hr1
        go_wp2_with fail
        go_ret
        exact ⟨by rw [HE.out]; rfl, HBW.out⟩
end Go.Proofs.YtaefpjecalnbcaaGreat
