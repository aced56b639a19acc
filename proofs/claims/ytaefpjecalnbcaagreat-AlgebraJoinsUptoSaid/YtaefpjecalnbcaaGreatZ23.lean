/- Parts of a proof: texts of the author, merged. No condition of their own. -/
import Derived.Test.YtaefpjecalnbcaaGreatZ15
import Derived.Test.YtaefpjecalnbcaaGreatZ21
import Derived.Test.YtaefpjecalnbcaaGreatZ22
import Derived.StillTailTactics
namespace Go.Proofs.YtaefpjecalnbcaaGreat
open Go.RowKit
end Go.Proofs.YtaefpjecalnbcaaGreat
namespace Go.Proofs.YtaefpjecalnbcaaGreat
open Go.RowKit
end Go.Proofs.YtaefpjecalnbcaaGreat
namespace Go.Proofs.YtaefpjecalnbcaaGreat
open Go.RowKit
end Go.Proofs.YtaefpjecalnbcaaGreat
namespace Go.Proofs.YtaefpjecalnbcaaGreat
open Go.RowKit
def RightOk (s : List Mes) (d : Nat) : Prop := ∀ (w : World) (root : Int) (v sv : Value) (x : M d), SchemaAt w sv s → MsgAt d w v x → mwt d x ≤ 1099511627776 →
  Calls Tryz.prog 43 #[sv, .int .i64 root, v] w fun e w' => e = .returned (.bool (rightB s d root x)) ∧ Below w.heap.size w w'
def FitsOk (s : List Mes) (d : Nat) : Prop := ∀ (w : World) (f : Fld) (v sv : Value) (x : Val (M d)), SchemaAt w sv s → ValAt (MsgAt d) w v x → vwt (mwt d) x ≤ 1099511627776 →
  Calls Tryz.prog 68 #[f.val, sv, v] w fun e w' => e = .returned (.bool (fitsB (rightB s d) f x)) ∧ Below w.heap.size w w'
set_option maxRecDepth 100000 in
set_option maxHeartbeats 4000000 in
theorem tree_Fits_1 {w : World} {q : Nat} {k : Int} (hq : w.cell? ⟨q, 2, none⟩ = some (.int .i64 k)) (hk : knumber k = true) (x : Nat) (hx : x < 2 ^ 64) :
    Calls Tryz.prog 99 #[.int .u64 x, .pointer (some ⟨q, 0, none⟩)] w fun e w' => e = .returned (.bool (!decide (kcanon k x = x))) ∧ Below w.heap.size w w' := by
  have HK := hid hk
  obtain ⟨y, HY⟩ : ∃ y, Hid (y = kcanon k x) := ⟨_, rfl⟩
  have hy64 := kcanon_lt k hx
  rw [← HY.out] at hy64 ⊢
  have hql : q < w.heap.size := World.block_lt_of_cell? w _ hq
  have HX := hid hx
  have HY64 := hid hy64
  clear hk hx hy64
  go_enter Tryz.func99, Tryz.ntmps99
  go_wp2_with (go_at_call 100; refine (kind_Canon HK.out _ _).mono ?_; rintro e w1 ⟨rfl, hb1⟩; rw [← HY.out])
  go_ret
  refine ⟨ret1 ?_, hb1⟩
  show Value.bool ((y : Int) != x) = Value.bool (!decide (y = x))
  congr 1
  rw [Bool.eq_iff_iff]
  simp
  omega
set_option maxRecDepth 100000 in
set_option maxHeartbeats 4000000 in
theorem tree_Fits_3 (t : List UInt8) (ht : t.length ≤ 140737488355328) (w : World) :
    Calls Tryz.prog 103 #[strV t] w fun e w' => e = .returned (.bool (!decide (ufirst t = t.length))) ∧ Below w.heap.size w w' := by
  obtain ⟨g, c, w2, hcv, hb2, hby⟩ := str_bytes w t ht
  have hST : strV t = .string ⟨t.toArray⟩ := rfl
  rw [hST]
  have HBY := hid hby
  have HB2 := hid hb2
  clear hST hby hb2 ht
  go_enter Tryz.func103, Tryz.ntmps103
  go_wp2_with (go_at_call 104; refine (utf_Right HBY.out).mono ?_; rintro e w3 ⟨rfl, hb3⟩)
  go_ret
  exact ⟨rfl, by rw [← hb3]; exact HB2.out⟩
set_option maxRecDepth 100000 in
set_option maxHeartbeats 4000000 in
theorem tree_Fits_2 {s : List Mes} {d : Nat} (ih : RightOk s d) {w : World} {p q : Nat} {sv : Value} {of : Int} (hp : w.cell? ⟨p, 0, none⟩ = some sv) (hq : w.cell? ⟨q, 5, none⟩ = some (.int .i64 of)) (hS : SchemaAt w sv s)
    {v : Value} {x : M d} (hx : MsgAt d w v x) (hw : mwt d x ≤ 1099511627776) :
    Calls Tryz.prog 102 #[v, .pointer (some ⟨p, 0, none⟩), .pointer (some ⟨q, 0, none⟩)] w fun e w' => e = .returned (.bool (!rightB s d of x)) ∧ Below w.heap.size w w' := by
  obtain ⟨y, HY⟩ : ∃ y, Hid (rightB s d of x = y) := ⟨_, rfl⟩
  rw [HY.out]
  have HX := hid hx
  have HS := hid hS
  have HW := hid hw
  unfold RightOk at ih
  have HIH := hid ih
  obtain ⟨-, sa, sc, rfl, -⟩ := hS.open
  obtain ⟨a1, n1, c1, a2, n2, c2, rfl⟩ := hx.form
  have hpl : p < w.heap.size := World.block_lt_of_cell? w _ hp
  have hql : q < w.heap.size := World.block_lt_of_cell? w _ hq
  clear ih hx hS hw
  go_enter Tryz.func102, Tryz.ntmps102
  go_wp2_with fail
  have hB1 : Below w.heap.size w (w.alloc (.cells #[.slice a1 n1 c1, .slice a2 n2 c2] 27)) := (Below.refl _ _).alloc (Nat.le_refl _) _
  refine (HIH.out _ _ _ _ x (HS.out.below hB1) (HX.out.below hB1) HW.out).mono ?_
  rintro e w2 ⟨rfl, hb2⟩
  rw [HY.out]
  go_wp2_with fail
  go_ret
  exact ⟨rfl, hB1.trans (hb2.mono hB1.size)⟩
theorem news3' (w : World) (c1 c2 c3 : List Value) (T1 T2 T3 : TypeId) : ∀ W, W = ((w.alloc (.cells c1.toArray T1)).alloc (.cells c2.toArray T2)).alloc (.cells c3.toArray T3) →
    Blk W w.heap.size c1 T1 ∧ Blk W (w.heap.size + 1) c2 T2 ∧ Blk W (w.heap.size + 1 + 1) c3 T3 ∧ W.heap.size = w.heap.size + 1 + 1 + 1 ∧ Below w.heap.size w W := by
  rintro W rfl
  exact news3 w c1 c2 c3 T1 T2 T3
set_option maxRecDepth 100000 in
set_option maxHeartbeats 4000000 in
theorem tree_Fits {s : List Mes} {d : Nat} (ih : RightOk s d) : FitsOk s d := by
  intro w f v sv x hS h hw
  obtain ⟨name, number, kind, rep, packed, of⟩ := f
  obtain ⟨wv, tv, sv', rfl, hnum, hW, hT, hSu⟩ := h
  obtain ⟨y, HY⟩ : ∃ y, Hid (y = fitsB (rightB s d) ⟨name, number, kind, rep, packed, of⟩ x) := ⟨_, rfl⟩
  rw [← HY.out]
  have H3 := hid (news3' w [.string name, .int .i64 number, .int .i64 kind, .bool rep, .bool packed, .int .i64 of] [sv] [.int .i64 x.num, wv, tv, sv'] 59 23 67)
  have HS := hid hS
  have HWD := hid hW
  have HTX := hid hT
  have HSU := hid hSu
  have HWT : Hid (∀ z ∈ x.subs, mwt d z ≤ 1099511627776) := fun z hz => by
    have h1 := mem_sum_le (mwt d) x.subs z hz
    unfold vwt at hw
    omega
  have HIH := hid ih
  obtain ⟨hwl, wa, wc, rfl, -, -⟩ := hW.open
  obtain ⟨htl, ta, tc, rfl, -, -⟩ := hT.open
  obtain ⟨hsl, sa, sc, rfl, -, -⟩ := hSu.open
  obtain ⟨hscl, ssa, ssc, rfl, -⟩ := hS.open
  obtain ⟨wn, HWN⟩ : ∃ n, Hid (n = x.words.length) := ⟨_, rfl⟩
  obtain ⟨tn, HTN⟩ : ∃ n, Hid (n = x.texts.length) := ⟨_, rfl⟩
  obtain ⟨sn, HSN⟩ : ∃ n, Hid (n = x.subs.length) := ⟨_, rfl⟩
  rw [← HWN.out] at H3 HWD hwl ⊢
  rw [← HTN.out] at H3 HTX htl ⊢
  rw [← HSN.out] at H3 HSU hsl ⊢
  have HYE : Hid (y = if wn + tn + sn = 0 ∨ 1 < wn + tn + sn ∧ rep = false then false
    else if knumber kind = true then decide (tn = 0 ∧ sn = 0) && x.words.all fun w => decide (kcanon kind w = w)
    else if kind = 17 then decide (wn = 0 ∧ tn = 0) && x.subs.all (rightB s d of)
    else if kind = 15 then decide (wn = 0 ∧ sn = 0) && x.texts.all fun t => decide (ufirst t = t.length)
    else decide (kind = 16) && decide (wn = 0 ∧ sn = 0)) := by
      rw [Hid, HY.out, HWN.out, HTN.out, HSN.out]; rfl
  generalize x.num = num at *
  simp only [Fld.val]
  clear ih hW hT hSu hS hw HY
  by_cases h0 : wn + tn + sn = 0
  · have HF : Hid (y = false) := by rw [Hid, HYE.out, if_pos (.inl h0)]
    have h3 := H3.out _ rfl
    clear HYE
    go_enter Tryz.func68, Tryz.ntmps68
    go_wp2_with fail
    go_ret
    exact ⟨by rw [HF.out]; rfl, h3.2.2.2.2⟩
  by_cases h1 : 1 < wn + tn + sn ∧ rep = false
  · have HF : Hid (y = false) := by rw [Hid, HYE.out, if_pos (.inr h1)]
    have h3 := H3.out _ rfl
    obtain ⟨h1, rfl⟩ := h1
    clear HYE
    go_enter Tryz.func68, Tryz.ntmps68
    go_wp2_with fail
    go_ret
    exact ⟨by rw [HF.out]; rfl, h3.2.2.2.2⟩
  have HYE2 : Hid (y = if knumber kind = true then decide (tn = 0 ∧ sn = 0) && x.words.all fun w => decide (kcanon kind w = w)
    else if kind = 17 then decide (wn = 0 ∧ tn = 0) && x.subs.all (rightB s d of)
    else if kind = 15 then decide (wn = 0 ∧ sn = 0) && x.texts.all fun t => decide (ufirst t = t.length)
    else decide (kind = 16) && decide (wn = 0 ∧ sn = 0)) := by
      rw [Hid, HYE.out, if_neg]
      rintro (h | h)
      · exact h0 h
      · exact h1 h
  have hr1 : wn + tn + sn = 1 ∨ (1 < wn + tn + sn ∧ rep = true) := by
    by_cases h : 1 < wn + tn + sn
    · refine .inr ⟨h, ?_⟩
      cases rep
      · exact absurd ⟨h, rfl⟩ h1
      · rfl
    · exact .inl (by omega)
  clear HYE h1
  have HALL : Hid (∀ {α : Type} (l : List α) (p : α → Bool), (!l.any fun a => !p a) = l.all p) := fun l p => by rw [List.all_eq_not_any_not]
  rcases hr1 with hr1 | ⟨hr1, rfl⟩
  all_goals
    go_enter Tryz.func68, Tryz.ntmps68
    go_wp2_with fail
    have h3 := H3.out _ rfl
    clear H3
    obtain ⟨hk1, hk2, hk3, -, hb1⟩ := h3
    refine (kind_Number kind _).mono ?_
    rintro e w2 ⟨rfl, hb2⟩
    have HK1 := hid (hk1.below hb2)
    have HK2 := hid (hk2.below hb2)
    have HK3 := hid (hk3.below hb2)
    have HB2 := hid (hb1.trans (hb2.mono hb1.size))
    clear hk1 hk2 hk3 hb1 hb2
    have l1 := HK1.out.lt
    have l2 := HK2.out.lt
    have l3 := HK3.out.lt
    have f2 := HK1.out.cell 2 _ rfl
    have f5 := HK1.out.cell 5 _ rfl
    have v1 := HK3.out.cell 1 _ rfl
    have v2 := HK3.out.cell 2 _ rfl
    have v3 := HK3.out.cell 3 _ rfl
    have g0 := HK2.out.cell 0 _ rfl
    by_cases hk : knumber kind = true
    · have HKN := hid hk
      rw [hk]
      by_cases hz : tn = 0 ∧ sn = 0
      · have HF : Hid (y = x.words.all fun w => decide (kcanon kind w = w)) := by rw [Hid, HYE2.out, if_pos hk, decide_eq_true hz]; rfl
        clear HYE2 hk
        go_wp2_with fail
        refine (containsFunc_u64 (HWD.out.keep (below_keeps HB2.out)) 99 _ (fun w => !decide (kcanon kind w = w)) (fun args w => by simp [go_sem]) ?_).mono ?_
        · exact fun z _ wr hz hb => tree_Fits_1 (below_keeps hb _ _ f2) HKN.out z hz
        · rintro e w3 ⟨rfl, hb3⟩
          go_wp2_with fail
          go_ret
          exact ⟨by rw [HF.out, ← HALL.out]; rfl, HB2.out.trans (hb3.mono HB2.out.size)⟩
      · have HF : Hid (y = false) := by rw [Hid, HYE2.out, if_pos hk, decide_eq_false hz]; rfl
        clear HYE2 hk
        go_wp2_with fail
        go_ret
        exact ⟨by rw [HF.out]; rfl, HB2.out⟩
    · have HYE3 : Hid (y = if kind = 17 then decide (wn = 0 ∧ tn = 0) && x.subs.all (rightB s d of)
          else if kind = 15 then decide (wn = 0 ∧ sn = 0) && x.texts.all fun t => decide (ufirst t = t.length)
          else decide (kind = 16) && decide (wn = 0 ∧ sn = 0)) := by rw [Hid, HYE2.out, if_neg hk]
      have hkf : knumber kind = false := by simpa using hk
      rw [hkf]
      clear HYE2 hk hkf
      by_cases h17 : kind = 17
      · subst h17
        by_cases hz : wn = 0 ∧ tn = 0
        · have HF : Hid (y = x.subs.all (rightB s d of)) := by rw [Hid, HYE3.out, if_pos rfl, decide_eq_true hz]; rfl
          clear HYE3
          go_wp2_with fail
          refine (containsFunc_msg (HSU.out.keep (below_keeps HB2.out) fun _ _ h => MsgAt.below h HB2.out) 102 _ (fun m => !rightB s d of m) (fun args w => by simp [go_sem]) ?_).mono ?_
          · exact fun z hz mv wr hm hb => tree_Fits_2 HIH.out (below_keeps hb _ _ g0) (below_keeps hb _ _ f5) (HS.out.below (HB2.out.trans (hb.mono HB2.out.size))) (hm.below hb) (HWT.out z hz)
          · rintro e w3 ⟨rfl, hb3⟩
            go_wp2_with fail
            go_ret
            exact ⟨by rw [HF.out, ← HALL.out]; rfl, HB2.out.trans (hb3.mono HB2.out.size)⟩
        · have HF : Hid (y = false) := by rw [Hid, HYE3.out, if_pos rfl, decide_eq_false hz]; rfl
          clear HYE3
          go_wp2_with fail
          go_ret
          exact ⟨by rw [HF.out]; rfl, HB2.out⟩
      by_cases h15 : kind = 15
      · subst h15
        by_cases hz : wn = 0 ∧ sn = 0
        · have HF : Hid (y = x.texts.all fun t => decide (ufirst t = t.length)) := by rw [Hid, HYE3.out, if_neg h17, if_pos rfl, decide_eq_true hz]; rfl
          clear HYE3
          go_wp2_with fail
          refine (containsFunc_str (HTX.out.keep (below_keeps HB2.out)) 103 _ (fun t => !decide (ufirst t = t.length)) (fun args w => by simp [go_sem]) ?_).mono ?_
          · exact fun z _ wr hz hb => tree_Fits_3 z hz wr
          · rintro e w3 ⟨rfl, hb3⟩
            go_wp2_with fail
            go_ret
            exact ⟨by rw [HF.out, ← HALL.out]; rfl, HB2.out.trans (hb3.mono HB2.out.size)⟩
        · have HF : Hid (y = false) := by rw [Hid, HYE3.out, if_neg h17, if_pos rfl, decide_eq_false hz]; rfl
          clear HYE3
          go_wp2_with fail
          go_ret
          exact ⟨by rw [HF.out]; rfl, HB2.out⟩
      by_cases h16 : kind = 16
      · subst h16
        by_cases hz : wn = 0 ∧ sn = 0
        · have HF : Hid (y = true) := by rw [Hid, HYE3.out, if_neg h17, if_neg h15, decide_eq_true hz]; rfl
          clear HYE3
          go_wp2_with fail
          go_ret
          exact ⟨by rw [HF.out]; first | rfl | (exact ret1 (congrArg Value.bool (by simp; omega))), HB2.out⟩
        · have HF : Hid (y = false) := by rw [Hid, HYE3.out, if_neg h17, if_neg h15, decide_eq_false hz]; rfl
          clear HYE3
          go_wp2_with fail
          go_ret
          exact ⟨by rw [HF.out]; first | rfl | (exact ret1 (congrArg Value.bool (by simp; omega))), HB2.out⟩
      · have HF : Hid (y = false) := by rw [Hid, HYE3.out, if_neg h17, if_neg h15, decide_eq_false h16]; rfl
        clear HYE3
        go_wp2_with fail
        go_ret
        exact ⟨by rw [HF.out]; first | rfl | (exact ret1 (congrArg Value.bool (by simp; omega))), HB2.out⟩
end Go.Proofs.YtaefpjecalnbcaaGreat
namespace Go.Proofs.YtaefpjecalnbcaaGreat
open Go.RowKit
set_option maxRecDepth 100000 in
set_option maxHeartbeats 4000000 in
theorem tree_right_1 {w : World} {p q : Nat} {sv : Value} {s : List Mes} {r : Nat} (hp : w.cell? ⟨p, 0, none⟩ = some sv) (hq : w.cell? ⟨q, 0, none⟩ = some (.int .i64 r)) (hS : SchemaAt w sv s) (hr : r < s.length) (t : List UInt8) (ht : t.length ≤ 1099511627776) :
    Calls Tryz.prog 70 #[strV t, .pointer (some ⟨p, 0, none⟩), .pointer (some ⟨q, 0, none⟩)] w fun e w' => e = .returned (.bool (!strangeB (s.getD r .zero).fields t)) ∧ Below w.heap.size w w' := by
  obtain ⟨y, HY⟩ : ∃ y, Hid (strangeB (s.getD r .zero).fields t = y) := ⟨_, rfl⟩
  rw [HY.out]
  obtain ⟨hsl, sa, sc, rfl, hsat⟩ := hS.open
  obtain ⟨b, o, fv, ha, -, hc0, hc1, hF⟩ := hsat r hr
  have HF := hid hF
  obtain ⟨hfl, fa, fc, rfl, -⟩ := hF.open
  obtain ⟨fl, HFL⟩ : ∃ n, Hid (n = (s.getD r .zero).fields.length) := ⟨_, rfl⟩
  rw [← HFL.out] at hfl hc1 HF hF
  have hix := index_run Tryz.underlying23 size_mes ha r hr (cap := sc)
  have hbl : b < w.heap.size := World.block_lt_of_cell? w _ hc0
  have hpl : p < w.heap.size := World.block_lt_of_cell? w _ hp
  have hql : q < w.heap.size := World.block_lt_of_cell? w _ hq
  have HT := hid ht
  generalize (s.getD r .zero).name = nm at *
  have hST : strV t = .string ⟨t.toArray⟩ := rfl
  rw [hST]
  have HS2 := hid (tree_stranger hF nm t ht)
  rw [hST, HY.out] at HS2
  clear hST hS hsat hF ha ht
  go_enter Tryz.func70, Tryz.ntmps70
  go_wp2_with fail
  refine HS2.out.mono ?_
  rintro e w1 ⟨rfl, hb1⟩
  go_wp2_with fail
  go_ret
  exact ⟨rfl, hb1⟩
theorem valsB_at {α : Type} (F : Fld → Val α → Bool) (fs : List Fld) (l : List (Val α)) (k : Nat) (x : Val α) (last : Int) (h : l[k]? = some x) :
    valsB F fs (l.drop k) last = if fieldAt fs x.num < 0 ∨ x.num ≤ last ∨ F (fs.getD (fieldAt fs x.num).toNat .zero) x = false then false else valsB F fs (l.drop (k + 1)) x.num := by
  obtain ⟨hk, rfl⟩ := List.getElem?_eq_some_iff.1 h
  rw [List.drop_eq_getElem_cons hk, valsB]
set_option maxRecDepth 100000 in
set_option maxHeartbeats 4000000 in
theorem tree_right_step {s : List Mes} {d : Nat} (ih : FitsOk s d) : RightOk s (d + 1) := by
  intro w root v sv x hS h hw
  obtain ⟨vv, uv, rfl, hV, hU⟩ := h
  have H3 := hid (news3' w [sv] [.int .i64 root] [vv, uv] 23 3 27)
  have HS := hid hS
  obtain ⟨hsl, sa, sc, rfl, hsat⟩ := hS.open
  obtain ⟨sn, HSN⟩ : ∃ n, Hid (n = s.length) := ⟨_, rfl⟩
  rw [← HSN.out] at hsl H3 HS ⊢
  by_cases hroot : root < 0 ∨ (sn : Int) ≤ root
  · have HF : Hid (rightB s (d + 1) root x = false) := by
      rw [Hid, rightB, if_pos (by rw [← HSN.out]; exact hroot)]
    obtain ⟨-, va, vc, rfl, -, -⟩ := hV.open
    obtain ⟨-, ua, uc, rfl, -, -⟩ := hU.open
    have h3 := H3.out _ rfl
    rw [HF.out]
    clear hV hU hsat hS H3 hw
    rcases hroot with hroot | hroot
    all_goals
      go_enter Tryz.func43, Tryz.ntmps43
      go_wp2_with fail
      go_ret
      exact ⟨rfl, h3.2.2.2.2⟩
  · obtain ⟨r, rfl⟩ : ∃ r : Nat, root = r := ⟨root.toNat, by omega⟩
    have hr : r < s.length := by rw [← HSN.out]; omega
    obtain ⟨b, o, fv, ha, -, hc0, hc1, hF⟩ := hsat r hr
    have HF := hid hF
    obtain ⟨hfl, fa, fc, rfl, hfat⟩ := hF.open
    obtain ⟨fs, HFS⟩ : ∃ f, Hid (f = (s.getD r .zero).fields) := ⟨_, rfl⟩
    rw [← HFS.out] at hfl hc1 HF hF hfat
    obtain ⟨fl, HFL⟩ : ∃ n, Hid (n = fs.length) := ⟨_, rfl⟩
    rw [← HFL.out] at hfl hc1 HF hF hfat
    have HY : Hid (rightB s (d + 1) r x = (valsB (fitsB (rightB s d)) fs (M.vals x) 0 && (M.unk x).all (strangeB fs))) := by
      rw [Hid, rightB, if_neg (by rw [← HSN.out]; exact hroot), HFS.out]; rfl
    obtain ⟨y, HYY⟩ : ∃ y, Hid (y = rightB s (d + 1) r x) := ⟨_, rfl⟩
    rw [← HYY.out] at HY ⊢
    have HV := hid hV
    have HU := hid hU
    obtain ⟨hvl, va, vc, rfl, -, hva⟩ := hV.open
    obtain ⟨hul, ua, uc, rfl, -, -⟩ := hU.open
    obtain ⟨vn, HVN⟩ : ∃ n, Hid (n = (M.vals x).length) := ⟨_, rfl⟩
    obtain ⟨un, HUN⟩ : ∃ n, Hid (n = (M.unk x).length) := ⟨_, rfl⟩
    rw [← HVN.out] at hvl H3 HV ⊢
    rw [← HUN.out] at hul H3 HU ⊢
    have HWD : Hid ((∀ m ∈ M.vals x, vwt (mwt d) m ≤ 1099511627776) ∧ ∀ t ∈ M.unk x, t.length ≤ 1099511627776) := by
      have h3 : 1 + twt (M.unk x) + ((M.vals x).map (vwt (mwt d))).sum ≤ 1099511627776 := hw
      refine ⟨fun m hm => ?_, fun t ht => ?_⟩
      · have h1 := mem_sum_le (vwt (mwt d)) (M.vals x) m hm
        omega
      · have h1 := mem_sum_le (fun t : List UInt8 => 1 + t.length) (M.unk x) t ht
        unfold twt at h3
        omega
    have HIH := hid ih
    have HVA := hid hva
    have HFA := hid hfat
    have hix := index_run Tryz.underlying23 size_mes ha r (by omega : r < sn) (cap := sc)
    have hbl : b < w.heap.size := World.block_lt_of_cell? w _ hc0
    generalize (s.getD r .zero).name = nm at *
    clear hV hU hsat hS hw hF hva hfat ih ha
    go_enter Tryz.func43, Tryz.ntmps43
    go_wp2_with fail
    have h3 := H3.out _ rfl
    clear H3
    obtain ⟨hk1, hk2, hk3, hz1, hb1⟩ := h3
    have hd1 : decide ((r : Int) < 0) = false := decide_eq_false (by omega)
    have hd2 : decide (sn ≤ r) = false := decide_eq_false (by omega)
    simp only [hd1, hd2, Bool.or_false]
    clear hd1 hd2
    generalize hW1 : ((w.alloc (.cells #[.slice sa sn sc] 23)).alloc (.cells #[.int .i64 r] 3)).alloc (.cells #[.slice va vn vc, .slice ua un uc] 27) = W1 at hk1 hk2 hk3 hz1 hb1 ⊢
    clear hW1
    obtain ⟨B, HBB⟩ : ∃ B, Hid (B = w.heap.size) := ⟨_, rfl⟩
    rw [← HBB.out] at hk1 hk2 hk3 hz1 ⊢
    have HK1 := hid hk1
    have HK2 := hid hk2
    have HK3 := hid hk3
    have HB1 := hid hb1
    clear hk1 hk2 hk3 hz1 hb1
    go_loopw [7, 9, 10, 11, 23] (fun v7 _ _ _ v23 wr => ∃ (i : Nat) (last : Int), v23 = .int .i64 i ∧ v7 = .int .i64 last ∧ i ≤ vn ∧ (-9223372036854775808 ≤ last ∧ last ≤ 9223372036854775807) ∧ Hid (valsB (fitsB (rightB s d)) fs ((M.vals x).drop i) last = valsB (fitsB (rightB s d)) fs (M.vals x) 0) ∧ Hid (Below W1.heap.size W1 wr)) (fun _ _ _ _ v23 _ => vn - (intOf v23).toNat)
    case atStart => exact ⟨0, 0, rfl, rfl, by omega, by omega, rfl, Below.refl _ _⟩
    case round =>
      obtain ⟨i, last, rfl, rfl, hi, hlast, HVB, HI⟩ := hrel
      have HBW : Hid (Below w.heap.size w wr) := HB1.out.trans (HI.out.mono HB1.out.size)
      have HX1 := hid (HK1.out.below HI.out)
      have HX2 := hid (HK2.out.below HI.out)
      have HX3 := hid (HK3.out.below HI.out)
      have l1 := HX1.out.lt
      have l2 := HX2.out.lt
      have l3 := HX3.out.lt
      have c1 := HX1.out.cell 0 _ rfl
      have c2 := HX2.out.cell 0 _ rfl
      have m0 := below_keeps HBW.out _ _ hc0
      have m1 := below_keeps HBW.out _ _ hc1
      have hblr : b < wr.heap.size := World.block_lt_of_cell? wr _ m0
      by_cases hlt : i < vn
      · have hmi : (M.vals x)[i]? = some ((M.vals x)[i]'(by rw [← HVN.out]; exact hlt)) := List.getElem?_eq_getElem _
        generalize (M.vals x)[i]'(by rw [← HVN.out]; exact hlt) = m at hmi
        have hva := HVA.out
        obtain ⟨b2, o2, v1, v2, v3, ha2, g0, g1, g2, g3, hM⟩ := hva i m hmi
        clear hva
        have hst := hid (valsB_at (fitsB (rightB s d)) fs (M.vals x) i m last hmi)
        have HWM := hid (HWD.out.1 m (List.mem_of_getElem? hmi))
        have HM := hid hM
        have hnb : -9223372036854775808 ≤ m.num ∧ m.num ≤ 9223372036854775807 := by
          obtain ⟨_, _, _, _, h, _⟩ := hM
          exact h
        obtain ⟨mm, a1, n1, q1, a2, n2, q2, a3, n3, q3, he⟩ := hM.form
        cases he
        have hk := below_keeps HBW.out
        replace g0 := hk _ _ g0
        replace g1 := hk _ _ g1
        replace g2 := hk _ _ g2
        replace g3 := hk _ _ g3
        have hix2 := index_run Tryz.underlying24 size_val ha2 i hlt (cap := vc)
        have hbl2 : b2 < wr.heap.size := World.block_lt_of_cell? wr _ g0
        generalize hmn : m.num = mn at *
        have HMN := hid hmn
        clear hmn hM hk ha2 hmi
        go_wp2_with fail
        have hX := Blk.new wr [.int .i64 mn, .slice a1 n1 q1, .slice a2 n2 q2, .slice a3 n3 q3] 67
        have hB2 := (Below.refl wr.heap.size wr).alloc (Nat.le_refl _) (.cells #[.int .i64 mn, .slice a1 n1 q1, .slice a2 n2 q2, .slice a3 n3 q3] 67)
        generalize hW2 : wr.alloc (.cells #[.int .i64 mn, .slice a1 n1 q1, .slice a2 n2 q2, .slice a3 n3 q3] 67) = W2 at hX hB2 ⊢
        clear hW2
        obtain ⟨X, HXX⟩ : ∃ X, Hid (X = wr.heap.size) := ⟨_, rfl⟩
        rw [← HXX.out] at hX ⊢
        have hk2 := below_keeps hB2
        have HB2 := hid hB2
        have HX := hid hX
        have lx : X < W2.heap.size := hX.lt
        have l1' : B < W2.heap.size := by have := hB2.size; omega
        have l2' : B + 1 < W2.heap.size := by have := hB2.size; omega
        have lb' : b < W2.heap.size := by have := hB2.size; omega
        have k0 : W2.drew.cell? ⟨B, 0, none⟩ = some (.slice sa sn sc) ∧ W2.drew.cell? ⟨B + 1, 0, none⟩ = some (.int .i64 r) ∧ W2.drew.cell? ⟨b, o + r * 2, none⟩ = some (.string nm) ∧ W2.drew.cell? ⟨b, o + r * 2 + 1, none⟩ = some (.slice fa fl fc) ∧ W2.drew.cell? ⟨X, 0, none⟩ = some (.int .i64 mn) := ⟨hk2 _ _ c1, hk2 _ _ c2, hk2 _ _ m0, hk2 _ _ m1, hX.cell 0 _ rfl⟩
        have HFW := hid (HF.out.keep (w' := W2.drew) (fun p u hu => hk2 p u (below_keeps HBW.out p u hu)))
        obtain ⟨x1, x2, HXC, HBN⟩ : ∃ (x1 : Int) (x2 : Bool), Hid ((fieldAt fs mn < 0 ∧ x2 = false) ∨ ∃ jn : Nat, jn < fl ∧ fieldAt fs mn = jn ∧ x1 = jn ∧ x2 = true) ∧ Hid (Calls Tryz.prog 67 #[.agg #[.string nm, .slice fa fl fc], .int .i64 mn] W2.drew fun e w' => e = .returned (.tuple #[.int .i64 x1, .bool x2]) ∧ Below W2.drew.heap.size W2.drew w') := by
          refine ⟨_, _, ?_, schema_ByNumber HFW.out nm mn⟩
          rcases firstAt_bd (fun f : Fld => decide (f.number = mn)) fs 0 with h | ⟨jn, h, h1, h2⟩
          · exact .inl ⟨by unfold fieldAt; omega, decide_eq_false (by unfold fieldAt; omega)⟩
          · exact .inr ⟨jn, by rw [HFL.out]; omega, h, by rw [if_pos (by unfold fieldAt; omega)]; exact h, decide_eq_true (by unfold fieldAt; omega)⟩
        clear hB2 hX hk2 HFW
        go_region_held3 (fun w' => w'.cell? ⟨B, 0, none⟩ = some (.slice sa sn sc) ∧ w'.cell? ⟨B + 1, 0, none⟩ = some (.int .i64 r) ∧ w'.cell? ⟨b, o + r * 2, none⟩ = some (.string nm) ∧ w'.cell? ⟨b, o + r * 2 + 1, none⟩ = some (.slice fa fl fc) ∧ w'.cell? ⟨X, 0, none⟩ = some (.int .i64 mn)) (first | (with_reducible exact k0) | (with_reducible exact k1) | go_keep) (first | (go_at_call 67; (with_reducible refine (HBN.out).mono ?_); rintro e w4 ⟨rfl, hb4⟩; have k1 : w4.cell? ⟨B, 0, none⟩ = some (.slice sa sn sc) ∧ w4.cell? ⟨B + 1, 0, none⟩ = some (.int .i64 r) ∧ w4.cell? ⟨b, o + r * 2, none⟩ = some (.string nm) ∧ w4.cell? ⟨b, o + r * 2 + 1, none⟩ = some (.slice fa fl fc) ∧ w4.cell? ⟨X, 0, none⟩ = some (.int .i64 mn) := ⟨below_keeps hb4 _ _ k0.1, below_keeps hb4 _ _ k0.2.1, below_keeps hb4 _ _ k0.2.2.1, below_keeps hb4 _ _ k0.2.2.2.1, below_keeps hb4 _ _ k0.2.2.2.2⟩))
        have HB4 : Hid (Below W2.heap.size W2 w4) := (Below.refl W2.heap.size W2).drew.trans hb4
        have HXW := hid (HX.out.below HB4.out)
        have HBA : Hid (Below W1.heap.size W1 w4) := HI.out.trans ((HB2.out.trans (HB4.out.mono HB2.out.size)).mono HI.out.size)
        clear hb4 l1' l2' lb' lx k0 l1 l2 l3 c1 c2 m0 m1 hblr hbl2 g0 g1 g2 g3 HX1 HX2 HX3
        have HX1 := hid (HK1.out.below HBA.out)
        have HX2 := hid (HK2.out.below HBA.out)
        have l1 := HX1.out.lt
        have l2 := HX2.out.lt
        have lx := HXW.out.lt
        rcases HXC.out with ⟨hj, rfl⟩ | ⟨jn, hjl, hj, rfl, rfl⟩
        · have HYF : Hid (y = false) := by
            have h1 := HVB.out
            rw [hst.out, if_pos (.inl hj)] at h1
            rw [Hid, HY.out, ← h1]; rfl
          clear HXC hj
          have x0 := HXW.out.cell 0 _ rfl
          go_wp2_with fail
          go_quiet (fail)
          go_wp2_with fail
          go_ret
          exact ⟨by rw [HYF.out]; rfl, below_drewN (HB1.out.trans (HBA.out.mono HB1.out.size)) _⟩
        · by_cases hle : mn ≤ last
          · have HYF : Hid (y = false) := by
              have h1 := HVB.out
              rw [hst.out, if_pos (.inr (.inl hle))] at h1
              rw [Hid, HY.out, ← h1]; rfl
            clear HXC hj
            have x0 := HXW.out.cell 0 _ rfl
            go_wp2_with fail
            go_quiet (fail)
            go_wp2_with fail
            go_ret
            exact ⟨by rw [HYF.out]; rfl, below_drewN (HB1.out.trans (HBA.out.mono HB1.out.size)) _⟩
          · have hfa := HFA.out
            obtain ⟨b3, o3, ha3, hok, f0, f1, f2, f3, f4, f5⟩ := hfa jn hjl
            clear hfa
            obtain ⟨⟨name, number, kind, rep, packed, of⟩, HFD⟩ : ∃ f, Hid (fs.getD jn .zero = f) := ⟨_, rfl⟩
            rw [HFD.out] at f0 f1 f2 f3 f4 f5
            have HST2 : Hid (valsB (fitsB (rightB s d)) fs (M.vals x) 0 = if fitsB (rightB s d) ⟨name, number, kind, rep, packed, of⟩ m = false then false else valsB (fitsB (rightB s d)) fs ((M.vals x).drop (i + 1)) mn) := by
              rw [Hid, ← HVB.out, hst.out, hj, Int.toNat_natCast, HFD.out]
              by_cases hf : fitsB (rightB s d) ⟨name, number, kind, rep, packed, of⟩ m = false
              · rw [if_pos (.inr (.inr hf)), if_pos hf]
              · rw [if_neg hf, if_neg]
                rintro (h | h | h)
                · omega
                · exact hle h
                · exact hf h
            have HBL := hid (HB1.out.trans (HBA.out.mono HB1.out.size))
            have hk4 := below_keeps HBL.out
            replace f0 := hk4 _ _ f0
            replace f1 := hk4 _ _ f1
            replace f2 := hk4 _ _ f2
            replace f3 := hk4 _ _ f3
            replace f4 := hk4 _ _ f4
            replace f5 := hk4 _ _ f5
            have m0 := hk4 _ _ hc0
            have m1 := hk4 _ _ hc1
            have lb : b < w4.heap.size := World.block_lt_of_cell? w4 _ m0
            have lb3 : b3 < w4.heap.size := World.block_lt_of_cell? w4 _ f0
            have c1 := HX1.out.cell 0 _ rfl
            have c2 := HX2.out.cell 0 _ rfl
            have x0 := HXW.out.cell 0 _ rfl
            have x1 := HXW.out.cell 1 _ rfl
            have x2 := HXW.out.cell 2 _ rfl
            have x3 := HXW.out.cell 3 _ rfl
            have hix3 := index_run Tryz.underlying60 size_fld ha3 jn hjl (cap := fc)
            have HFT := hid (HIH.out w4.drew ⟨name, number, kind, rep, packed, of⟩ _ _ m (HS.out.below HBL.out.drew) (VMsg.below HM.out HBL.out.drew) HWM.out)
            clear ha3 hok hj HXC hk4
            obtain ⟨y2, HY2⟩ : ∃ y2, Hid (fitsB (rightB s d) ⟨name, number, kind, rep, packed, of⟩ m = y2) := ⟨_, rfl⟩
            rw [HY2.out] at HFT HST2
            go_wp2_with fail
            go_still_tail 19, (by kernel_rfl)
            have HB5 : Hid (Below w4.heap.size w4 w4.drew) := (Below.refl _ _).drew
            have hX5 := HXW.out.below HB5.out
            have l1 : B < w4.drew.heap.size := l1
            have lx : X < w4.drew.heap.size := lx
            change wpList _ _ _ _ _ w4.drew
            go_wp2_with fail
            refine HFT.out.mono ?_
            rintro e w5 ⟨rfl, hb5⟩
            have HB5 : Hid (Below W1.heap.size W1 w5) := HBA.out.trans (((Below.refl w4.heap.size w4).drew.trans hb5).mono HBA.out.size)
            have HX5 := hid (HXW.out.below ((Below.refl w4.heap.size w4).drew.trans hb5))
            clear hb5
            cases y2 with
            | false =>
              have HYF : Hid (y = false) := by
                have h1 := HST2.out
                rw [if_pos rfl] at h1
                rw [Hid, HY.out, h1]; rfl
              go_wp2_with fail
              go_ret
              exact ⟨by rw [HYF.out]; rfl, HB1.out.trans (HB5.out.mono HB1.out.size)⟩
            | true =>
              have x0 := HX5.out.cell 0 _ rfl
              have lx := HX5.out.lt
              go_wp2_with fail
              go_roundw
              case rel => exact ⟨i + 1, mn, by go_num, rfl, hlt, hnb, by rw [Hid, HST2.out, if_neg (by decide)], HB5.out⟩
              case measure => simp [intOf]; omega
      · obtain rfl : i = vn := by omega
        have HE : Hid (y = (M.unk x).all (strangeB fs)) := by
          have h1 := HVB.out
          rw [List.drop_of_length_le (by rw [HVN.out]; exact Nat.le_refl _)] at h1
          rw [Hid, HY.out, ← h1]; rfl
        have c3 := HX3.out.cell 1 _ rfl
        have HALL : Hid ((!(M.unk x).any fun t => !strangeB fs t) = (M.unk x).all (strangeB fs)) := by rw [Hid, List.all_eq_not_any_not]
        go_wp2_with fail
        refine (containsFunc_str (HU.out.keep (below_keeps HBW.out)) 70 _ (fun t => !strangeB fs t) (fun args w => by simp [go_sem]) ?_).mono ?_
        · intro z hz wr2 _ hb
          have hBB := HBW.out.trans (hb.mono HBW.out.size)
          have := tree_right_1 (below_keeps hb _ _ c1) (below_keeps hb _ _ c2) (HS.out.below hBB) hr z (HWD.out.2 z hz)
          rw [← HFS.out] at this
          exact this
        · rintro e w3 ⟨rfl, hb3⟩
          go_wp2_with fail
          go_ret
          exact ⟨by rw [HE.out, ← HALL.out]; rfl, HBW.out.trans (hb3.mono HBW.out.size)⟩
theorem tree_rightOk (s : List Mes) : ∀ d, RightOk s d
  | 0 => fun _ _ _ _ _ _ h => h.elim
  | d + 1 => tree_right_step (tree_Fits (tree_rightOk s d))
end Go.Proofs.YtaefpjecalnbcaaGreat
