/- algebra.may of any list of meanings: mayAll of the list of each one's rightness. Each meaning weighs at most 2^40. At most 2^40 in the list. algebra.parts, Keep, Leave: what a mask keeps, or leaves, of any meaning, or why it can't be. Meanings of at most 2^40 things. Plain laws: two right meanings, joined, weigh no more than both (mwt_join). No condition. algebra.Join: two meanings, joined, or why they can't be. Meanings of at most 2^29 things. Literals: a block of the call's own, read as words, fields, a schema, values. No condition. -/
import Derived.Test.YtaefpjecalnbcaaGreatZ03
import Derived.Test.YtaefpjecalnbcaaGreatZ07
import Derived.Test.YtaefpjecalnbcaaGreatZ09
import Derived.Test.YtaefpjecalnbcaaGreatZ12
import Derived.Test.YtaefpjecalnbcaaGreatZ13
import Derived.Test.YtaefpjecalnbcaaGreatZ22
import Derived.Test.YtaefpjecalnbcaaGreatZ23
import Derived.Test.YtaefpjecalnbcaaGreatZ24
import Derived.Test.YtaefpjecalnbcaaGreatZ27
namespace Go.Proofs.YtaefpjecalnbcaaGreat
open Go.RowKit
def mayAll (s : List Mes) (root : Int) (rs : List Bool) : Nat := if sright s = false then 9 else if root < 0 ∨ (s.length : Int) ≤ root then 2 else if rs.all id then 0 else 12
/-- The messages of a variadic list: at each index two cells, a message's, of the rightness in the list. -/
def MayAt (w : World) (s : List Mes) (root : Int) (g : Nat) (rs : List Bool) : Prop :=
  ∀ i r, rs[i]? = some r → ∃ v1 v2 d, ∃ x : M d, w.cell? ⟨g, i * 2, none⟩ = some v1 ∧ w.cell? ⟨g, i * 2 + 1, none⟩ = some v2 ∧ MsgAt d w (.agg #[v1, v2]) x ∧ mwt d x ≤ 1099511627776 ∧ (sright s && rightB s d root x) = (sright s && r)
theorem all_take_step (rs : List Bool) (i : Nat) (h : (rs.take i).all id = true) (hi : rs[i]? = some true) : (rs.take (i + 1)).all id = true := by
  rw [List.take_add_one, hi]
  simp [h]
theorem all_get_false (rs : List Bool) (i : Nat) (hi : rs[i]? = some false) : rs.all id = false := by
  have := List.mem_of_getElem? hi
  rw [List.all_eq_false]
  exact ⟨false, this, by simp⟩
set_option maxRecDepth 100000 in
set_option maxHeartbeats 4000000 in
theorem alg_may {w : World} {sv : Value} {s : List Mes} {g n c : Nat} {rs : List Bool} (hS : SchemaAt w sv s) (root : Int) (h : MayAt w s root g rs) (hn : n = rs.length) (hnb : n ≤ 1099511627776) :
    Calls Tryz.prog 36 #[sv, .int .i64 root, .slice (some ⟨g, 0, none⟩) n c] w fun e w' => e = .returned (.int .u8 (mayAll s root rs)) ∧ Below w.heap.size w w' := by
  have HS := hid hS
  have HM := hid h
  have HN := hid hn
  have HR := hid (schema_Right hS)
  obtain ⟨hsl, sa, sc, rfl, -⟩ := hS.open
  obtain ⟨m, HMC⟩ : ∃ m, Hid (m = mayAll s root rs) := ⟨_, rfl⟩
  rw [← HMC.out]
  by_cases hb : sright s = false
  · have HE : Hid (m = 9) := by rw [Hid, HMC.out, mayAll, if_pos hb]
    have HB := hid hb
    clear hS h hb HMC hn
    go_enter Tryz.func36, Tryz.ntmps36
    go_wp2_with (go_at_call 42; refine HR.out.mono ?_; rintro e w1 ⟨rfl, hb1⟩; rw [HB.out])
    go_ret
    exact ⟨by rw [HE.out]; rfl, hb1⟩
  have hb' : sright s = true := by simpa using hb
  have HB := hid hb'
  by_cases hr : root < 0 ∨ (s.length : Int) ≤ root
  · have HE : Hid (m = 2) := by rw [Hid, HMC.out, mayAll, if_neg hb, if_pos hr]
    have HRR : Hid ((s.length : Int) ≤ root ∨ root < 0) := hr.symm
    clear hS h hb hb' HMC hr hn
    by_cases hneg : root < 0
    · go_enter Tryz.func36, Tryz.ntmps36
      go_wp2_with (go_at_call 42; refine HR.out.mono ?_; rintro e w1 ⟨rfl, hb1⟩; rw [HB.out])
      go_ret
      exact ⟨by rw [HE.out]; rfl, hb1⟩
    · have hge : (s.length : Int) ≤ root := by rcases HRR.out with h | h <;> omega
      go_enter Tryz.func36, Tryz.ntmps36
      go_wp2_with (go_at_call 42; refine HR.out.mono ?_; rintro e w1 ⟨rfl, hb1⟩; rw [HB.out])
      go_ret
      exact ⟨by rw [HE.out]; rfl, hb1⟩
  · have HE : Hid (m = if rs.all id then 0 else 12) := by rw [Hid, HMC.out, mayAll, if_neg hb, if_neg hr]
    have hr0 : ¬ root < 0 := fun h => hr (Or.inl h)
    have hr1 : ¬ (s.length : Int) ≤ root := fun h => hr (Or.inr h)
    clear hS h hb hb' HMC hr hn
    go_enter Tryz.func36, Tryz.ntmps36
    go_wp2_with (go_at_call 42; refine HR.out.mono ?_; rintro e w1 ⟨rfl, hb1⟩; rw [HB.out])
    have HB1 := hid hb1
    clear hb1 hr0 hr1
    go_loopw [24] (fun v24 wr => ∃ i : Nat, v24 = .int .i64 i ∧ i ≤ n ∧ Hid ((rs.take i).all id = true) ∧ Hid (Below w1.heap.size w1 wr)) (fun v24 _ => n - (intOf v24).toNat)
    case atStart => exact ⟨0, rfl, by omega, by simp [Hid], Below.refl _ _⟩
    case round =>
      obtain ⟨i, rfl, hi, HI, HB2⟩ := hrel
      have HBW := hid (HB1.out.trans (HB2.out.mono HB1.out.size))
      by_cases hlt : i < n
      · have hri : rs[i]? = some (rs[i]'(by rw [← HN.out]; exact hlt)) := List.getElem?_eq_getElem _
        generalize rs[i]'(by rw [← HN.out]; exact hlt) = r at hri
        have hm := HM.out
        obtain ⟨v1, v2, d, x, g0, g1, hM, hw, hq⟩ := hm i r hri
        clear hm
        obtain ⟨a1, n1, c1, a2, n2, c2, he⟩ := hM.form
        cases he
        have HRI := hid hri
        replace g0 := below_keeps HBW.out _ _ g0
        replace g1 := below_keeps HBW.out _ _ g1
        have hbl : g < wr.heap.size := World.block_lt_of_cell? wr _ g0
        have hix := index_run Tryz.underlying65 size_msg (a := some ⟨g, 0, none⟩) rfl i hlt (cap := c)
        simp only [Nat.zero_add] at hix
        have HW := hid hw
        have hM2 := hM.below HBW.out
        have HMS := hid hM2
        have HQ : Hid ((sright s && rightB s d root x) = r) := by rw [Hid, hq, HB.out, Bool.true_and]
        clear hM hM2 hw hq hri
        go_wp2_with fail
        refine (tree_Right (HS.out.below ?hbs) root (HMS.out.below ?hbm) HW.out).mono ?_
        case hbs => exact HBW.out.alloc HBW.out.size _
        case hbm => exact (Below.refl wr.heap.size wr).alloc (Nat.le_refl _) _
        rintro e w2 ⟨rfl, hb2⟩
        rw [HQ.out]
        have HB3 : Hid (Below w1.heap.size w1 w2) := HB2.out.trans (((Below.refl wr.heap.size wr).alloc (Nat.le_refl _) _ |>.trans (hb2.mono (by simp))).mono HB2.out.size)
        clear hb2
        cases r with
        | false =>
          have HF := hid (all_get_false rs i HRI.out)
          go_wp2_with fail
          go_ret
          exact ⟨by rw [HE.out, HF.out]; rfl, HB1.out.trans (HB3.out.mono HB1.out.size)⟩
        | true =>
          have HT := hid (all_take_step rs i HI.out HRI.out)
          go_wp2_with fail
          go_roundw
          case rel => exact ⟨i + 1, by go_num, hlt, HT.out, HB3.out⟩
          case measure => simp [intOf]; omega
      · obtain rfl : i = n := by omega
        have HT : Hid (rs.all id = true) := by
          have := HI.out
          rw [List.take_of_length_le (by rw [← HN.out]; exact Nat.le_refl _)] at this
          exact this
        go_wp2_with fail
        go_ret
        exact ⟨by rw [HE.out, HT.out]; rfl, HBW.out⟩
end Go.Proofs.YtaefpjecalnbcaaGreat
namespace Go.Proofs.YtaefpjecalnbcaaGreat
open Go.RowKit Go.Shelf
theorem mwt_pval {α : Type} {f : α → Nat} {sub : Int → List (List Int) → α → α} (h : ∀ o u y, f (sub o u y) ≤ f y) (fs : List Fld) (keep : Bool) (ws : List (List Int)) (v : Val α) : ((pval sub fs keep ws v).map (vwt f)).sum ≤ vwt f v := by
  unfold pval
  split
  · simp only [List.map_cons, List.map_nil, List.sum_cons, List.sum_nil, vwt]
    have : (((v.subs.take 1).map (sub (fs.getD (fieldAt fs v.num).toNat .zero).of (underW ws v.num))).map f).sum ≤ (v.subs.map f).sum := by
      cases v.subs with
      | nil => simp
      | cons y r =>
        have := h (fs.getD (fieldAt fs v.num).toNat .zero).of (underW ws v.num) y
        rw [show (y :: r).take 1 = [y] from rfl]
        simp only [List.map_cons, List.map_nil, List.sum_cons, List.sum_nil]
        omega
    simp only [List.length_nil, twt, List.map_nil, List.sum_nil] at *
    omega
  · split <;> simp
theorem mwt_part (s : List Mes) (keep : Bool) : ∀ (d m : Nat) (ws : List (List Int)) (x : M d), mwt d (partM s keep d m ws x) ≤ mwt d x
  | 0, _, _, _ => Nat.le_refl _
  | d + 1, m, ws, x => by
    have key : ∀ l : List (Val (M d)), ((l.flatMap (pval (fun o u y => partM s keep d o.toNat u y) (s.getD m .zero).fields keep ws)).map (vwt (mwt d))).sum ≤ (l.map (vwt (mwt d))).sum := by
      intro l
      induction l with
      | nil => simp
      | cons v r ih =>
        have := mwt_pval (f := mwt d) (fun o u y => mwt_part s keep d o.toNat u y) (s.getD m .zero).fields keep ws v
        rw [List.flatMap_cons, List.map_append, List.sum_append, List.map_cons, List.sum_cons]
        exact Nat.add_le_add this ih
    have h1 := key (M.vals x)
    have h2 : twt (if keep = true then [] else M.unk x) ≤ twt (M.unk x) := by split <;> simp [twt]
    show 1 + twt (if keep = true then [] else M.unk x) + _ ≤ 1 + twt (M.unk x) + _
    exact Nat.add_le_add (Nat.add_le_add_left h2 1) h1
/-- the answer: a code, or a meaning -/
def AnsPost (w : World) (d : Nat) (code : Nat) (x : M d) (e : Ending) (w' : World) : Prop := Below w.heap.size w w' ∧ (code ≠ 0 → e = .returned (.tuple #[.agg #[.slice none 0 0, .slice none 0 0], .int .u8 (code : Int)])) ∧
  (code = 0 → ∃ a n c b m k, e = .returned (.tuple #[.agg #[.slice a n c, .slice b m k], .int .u8 0]) ∧ Apart 0 w.heap.size w' fun w2 => MsgAt d w2 (.agg #[.slice a n c, .slice b m k]) x)
theorem may_one {w : World} {g : Nat} {s : List Mes} {root : Int} {v1 v2 : Value} {d : Nat} {x : M d} {T : TypeId} (hb : Blk w g [v1, v2] T) (hx : MsgAt d w (.agg #[v1, v2]) x) (hw : mwt d x ≤ 1099511627776) : MayAt w s root g [rightB s d root x] := by
  intro i r hi
  cases i with
  | zero =>
    simp at hi
    subst hi
    exact ⟨v1, v2, d, x, by simpa using hb.cell 0 _ rfl, by simpa using hb.cell 1 _ rfl, hx, hw, rfl⟩
  | succ i => simp at hi
theorem may_zero {s : List Mes} {root : Int} {rs : List Bool} (h : mayAll s root rs = 0) : sright s = true ∧ 0 ≤ root ∧ root < s.length ∧ rs.all id = true := by
  unfold mayAll at h
  by_cases h1 : sright s = false
  · rw [if_pos h1] at h; cases h
  · rw [if_neg h1] at h
    by_cases h2 : root < 0 ∨ (s.length : Int) ≤ root
    · rw [if_pos h2] at h; cases h
    · rw [if_neg h2] at h
      cases h3 : rs.all id
      · rw [h3] at h; cases h
      · exact ⟨by simpa using h1, by omega, by omega, rfl⟩
theorem may_small (s : List Mes) (root : Int) (rs : List Bool) : mayAll s root rs ≤ 12 := by
  unfold mayAll
  split
  · omega
  · split
    · omega
    · split <;> omega
set_option maxRecDepth 100000 in
set_option maxHeartbeats 8000000 in
theorem alg_parts {w : World} {sv v mv : Value} {s : List Mes} {d : Nat} {x : M d} {ws : List (List Int)} (hS : SchemaAt w sv s) (root : Int) (hx : MsgAt d w v x) (hM : WaysAt w mv ws) (hL : LightW ws) (hwt : mwt d x ≤ 1099511627776) (keep : Bool) :
    Calls Tryz.prog 27 #[sv, .int .i64 root, v, maskV mv, .bool keep] w (AnsPost w d (mayAll s root [rightB s d root x]) (partM s keep d root.toNat (mOf ws) x)) := by
  obtain ⟨a1, n1, c1, a2, n2, c2, rfl⟩ := hx.form
  obtain ⟨X, HX⟩ : ∃ X, Hid (X = w.heap.size) := ⟨_, rfl⟩
  unfold maskV
  have hx2 := hx
  have hM2 := hM
  have hS2 := hS
  obtain ⟨-, sa, sc, rfl, -⟩ := hS2.open
  obtain ⟨-, ma, mc, rfl, -, -⟩ := hM2.open
  obtain ⟨sn, HSN⟩ : ∃ n, Hid (n = s.length) := ⟨_, rfl⟩
  obtain ⟨mn, HMN⟩ : ∃ n, Hid (n = ws.length) := ⟨_, rfl⟩
  rw [← HSN.out] at hS hS2 ⊢
  rw [← HMN.out] at hM hM2 ⊢
  obtain ⟨W1, HW1⟩ : ∃ W, Hid (W = ((w.alloc (.cells #[.slice a1 n1 c1, .slice a2 n2 c2] 27)).alloc (.cells #[.slice ma mn mc] 41)).alloc (.cells #[.slice none 0 0, .slice none 0 0] 27)) := ⟨_, rfl⟩
  have hx1 : Blk W1 X [.slice a1 n1 c1, .slice a2 n2 c2] 27 := by rw [HW1.out, HX.out]; exact ((Blk.new w [.slice a1 n1 c1, .slice a2 n2 c2] _).alloc _).alloc _
  have hm1 : Blk W1 (X + 1) [.slice ma mn mc] 41 := by rw [HW1.out, HX.out]; exact (Blk.new' _ [.slice ma mn mc] _ _ (by simp)).alloc _
  have hr1 : Blk W1 (X + 1 + 1) [.slice none 0 0, .slice none 0 0] 27 := by rw [HW1.out, HX.out]; exact Blk.new' _ [.slice none 0 0, .slice none 0 0] _ _ (by simp)
  have hb1 : Below w.heap.size w W1 := by rw [HW1.out]; (repeat (first | with_reducible exact Below.refl _ _ | with_reducible refine Below.setCell ?_ (by first | omega | (simp; omega) | (simp; done)) _ | with_reducible refine Below.alloc ?_ (by first | omega | (simp; omega) | (simp; done)) _ | with_reducible refine below_drewN ?_ _ | with_reducible refine Below.drew ?_))
  obtain ⟨W2, HW2⟩ : ∃ W, Hid (W = W1.alloc (.cells #[.slice a1 n1 c1, .slice a2 n2 c2] 27)) := ⟨_, rfl⟩
  obtain ⟨G, HG⟩ : ∃ G, Hid (G = W1.heap.size) := ⟨_, rfl⟩
  have hb12 : Below W1.heap.size W1 W2 := by rw [HW2.out]; exact (Below.refl _ _).alloc (Nat.le_refl _) _
  have hg2 : Blk W2 G [.slice a1 n1 c1, .slice a2 n2 c2] 27 := by rw [HW2.out, HG.out]; exact Blk.new W1 [.slice a1 n1 c1, .slice a2 n2 c2] _
  have hb2 := hb1.trans (hb12.mono hb1.size)
  obtain ⟨code, HC⟩ : ∃ c, Hid (c = mayAll s root [rightB s d root x]) := ⟨_, rfl⟩
  have HMAY := hid (alg_may (hS.below hb2) root (may_one (s := s) (root := root) hg2 (hx.below hb2) hwt) (n := 1) (c := 1) rfl (by decide))
  rw [← HC.out] at HMAY ⊢
  have hc12 : code ≤ 12 := by rw [HC.out]; exact may_small _ _ _
  have HB2 := hid hb2
  have HXB := hid (And.intro (hx1.below hb12) (And.intro (hm1.below hb12) (hr1.below hb12)))
  have HS0 := hid hS
  have HMS := hid (And.intro hM hL)
  have HXM := hid hx
  have HWT := hid hwt
  obtain ⟨Q, HQ⟩ : ∃ Q : Ending → World → Prop, Hid (Q = AnsPost w d code (partM s keep d root.toNat (mOf ws) x)) := ⟨_, rfl⟩
  rw [← HQ.out]
  have k0 := hx1.cell 0 _ rfl
  have k1 := hx1.cell 1 _ rfl
  have kl := hx1.lt
  clear hx1 hm1 hr1 hb1 hb12 hg2 hb2 hS hS2 hM hM2 hL hx hx2 hwt
  go_enter Tryz.func27, Tryz.ntmps27
  go_upto_region 1 with fail
  rw [← HW1.out, ← HX.out]
  go_wp2_with fail
  rw [← HW2.out, ← HG.out]
  refine HMAY.out.mono ?_
  rintro e w3 ⟨rfl, hb3⟩
  have HB3 := hid (HB2.out.trans (hb3.mono HB2.out.size))
  have HX3 := hid (And.intro (HXB.out.1.below hb3) (And.intro (HXB.out.2.1.below hb3) (HXB.out.2.2.below hb3)))
  have k0 := HX3.out.1.cell 0 _ rfl
  have k1 := HX3.out.1.cell 1 _ rfl
  have kl := HX3.out.1.lt
  have m0 := HX3.out.2.1.cell 0 _ rfl
  have ml := HX3.out.2.1.lt
  clear hb3 HMAY HXB
  by_cases h0 : code = 0
  · subst h0
    obtain ⟨g1, g2, g3, g4⟩ := may_zero HC.out.symm
    obtain ⟨r, rfl⟩ : ∃ r : Nat, root = r := ⟨root.toNat, by omega⟩
    have hrt : rightB s d (r : Int) x = true := by simpa using g4
    have HP := hid (alg_part HS0.out keep d r w3 _ _ x ws (by omega) HB3.out HXM.out (HMS.out.1.below HB3.out) HMS.out.2 hrt HWT.out)
    unfold maskV at HP
    obtain ⟨y, HY⟩ : ∃ y, Hid (y = partM s keep d r (mOf ws) x) := ⟨_, rfl⟩
    rw [← HY.out] at HP
    have HYW : Hid (mwt d y ≤ 1099511627776) := by
      have h1 := mwt_part s keep d r (mOf ws) x
      rw [← HY.out] at h1
      exact Nat.le_trans h1 HWT.out
    rw [Int.toNat_natCast, ← HY.out] at HQ
    clear g1 g2 g3 g4 hrt HC hc12
    go_wp2_with fail
    refine HP.out.mono ?_
    rintro e w4 ⟨v4, rfl, hb4, hap4⟩
    have hM4 := hap4.here
    obtain ⟨p1, q1, o1, p2, q2, o2, rfl⟩ := hM4.form
    have HCP := hid (tree_Copy (w0 := w4) d w4 _ y (Below.refl _ _) hM4 HYW.out)
    have HB4 := hid (HB3.out.trans (hb4.mono HB3.out.size))
    have HR4 := hid (HX3.out.2.2.below hb4)
    clear hb4 hap4 hM4 k0 k1 kl m0 ml HX3
    go_wp2_with fail
    refine HCP.out.mono ?_
    rintro e w5 ⟨v5, rfl, hb5, hap5⟩
    obtain ⟨s1, t1, u1, s2, t2, u2, rfl⟩ := hap5.here.form
    have HB5 := hid (HB4.out.trans (hb5.mono HB4.out.size))
    have hr5 := HR4.out.below hb5
    have hlt4 := HR4.out.lt
    have r0 := hr5.cell 0 _ rfl
    have r1 := hr5.cell 1 _ rfl
    have f0 := hr5.free 0
    have f1 := hr5.free 1
    have rl := hr5.lt
    have z1 := hr5.set 0 (.slice s1 t1 u1)
    have z2 := z1.set 1 (.slice s2 t2 u2)
    have q0 := z2.cell 0 _ rfl
    have q1' := z2.cell 1 _ rfl
    have HE : Hid (Q (.returned (.tuple #[.agg #[.slice s1 t1 u1, .slice s2 t2 u2], .int .u8 0])) ((w5.setCell ⟨X + 1 + 1, 0, none⟩ (.slice s1 t1 u1)).setCell ⟨X + 1 + 1, 1, none⟩ (.slice s2 t2 u2))) := by
      rw [HQ.out]
      refine ⟨(HB5.out.setCell (by rw [HX.out]; show w.heap.size ≤ w.heap.size + 1 + 1; omega) _).setCell (by rw [HX.out]; show w.heap.size ≤ w.heap.size + 1 + 1; omega) _, fun h => absurd rfl h, fun _ => ⟨_, _, _, _, _, _, rfl, ?_⟩⟩
      intro w2 hw2
      refine hap5 _ fun b hb hc => ?_
      have hne : b ≠ X + 1 + 1 := by omega
      have h4 := HB4.out.size
      rw [hw2 b (by simpa using hb) (.inr (by omega)), Below.heap_setCell _ _ _ b hne, Below.heap_setCell _ _ _ b hne]
    clear hr5 z1 z2 hap5 hb5 hlt4 HCP HP
    go_wp2_with fail
    refine bodyPost_ret (v := .tuple #[.agg #[.slice s1 t1 u1, .slice s2 t2 u2], .int .u8 0]) ?_ rfl HE.out
    simp [results, Tryz.results27, go_sem, q0, q1']
  · have hne : ((code : Int) != 0) = true := by simpa using h0
    have hr3 := HX3.out.2.2
    have r0 := hr3.cell 0 _ rfl
    have r1 := hr3.cell 1 _ rfl
    have f0 := hr3.free 0
    have f1 := hr3.free 1
    have rl := hr3.lt
    have z1 := hr3.set 0 (.slice none 0 0)
    have z2 := z1.set 1 (.slice none 0 0)
    have q0 := z2.cell 0 _ rfl
    have q1' := z2.cell 1 _ rfl
    have HE : Hid (Q (.returned (.tuple #[.agg #[.slice none 0 0, .slice none 0 0], .int .u8 (code : Int)])) ((w3.setCell ⟨X + 1 + 1, 0, none⟩ (.slice none 0 0)).setCell ⟨X + 1 + 1, 1, none⟩ (.slice none 0 0))) := by
      rw [HQ.out]
      exact ⟨(HB3.out.setCell (by rw [HX.out]; show w.heap.size ≤ w.heap.size + 1 + 1; omega) _).setCell (by rw [HX.out]; show w.heap.size ≤ w.heap.size + 1 + 1; omega) _, fun _ => rfl, fun h => absurd h h0⟩
    clear hr3 z1 z2 HX3 HC h0
    go_wp2_with fail
    refine bodyPost_ret (v := .tuple #[.agg #[.slice none 0 0, .slice none 0 0], .int .u8 (code : Int)]) ?_ rfl HE.out
    simp [results, Tryz.results27, go_sem, q0, q1']
set_option maxRecDepth 100000 in
set_option maxHeartbeats 8000000 in
theorem alg_Keep {w : World} {sv v mv : Value} {s : List Mes} {d : Nat} {x : M d} {ws : List (List Int)} (hS : SchemaAt w sv s) (root : Int) (hx : MsgAt d w v x) (hM : WaysAt w mv ws) (hL : LightW ws) (hwt : mwt d x ≤ 1099511627776) :
    Calls Tryz.prog 11 #[sv, .int .i64 root, v, maskV mv] w (AnsPost w d (mayAll s root [rightB s d root x]) (partM s true d root.toNat (mOf ws) x)) := by
  obtain ⟨a1, n1, c1, a2, n2, c2, rfl⟩ := hx.form
  obtain ⟨X, HX⟩ : ∃ X, Hid (X = w.heap.size) := ⟨_, rfl⟩
  have hS2 := hS
  have hM2 := hM
  obtain ⟨-, sa, sc, rfl, -⟩ := hS2.open
  obtain ⟨-, ma, mc, rfl, -, -⟩ := hM2.open
  obtain ⟨W1, HW1⟩ : ∃ W, Hid (W = ((w.alloc (.cells #[.slice a1 n1 c1, .slice a2 n2 c2] 27)).alloc (.cells #[.slice ma ws.length mc] 41)).alloc (.cells #[.slice none 0 0, .slice none 0 0] 27)) := ⟨_, rfl⟩
  have hx1 : Blk W1 X [.slice a1 n1 c1, .slice a2 n2 c2] 27 := by rw [HW1.out, HX.out]; exact ((Blk.new w [.slice a1 n1 c1, .slice a2 n2 c2] _).alloc _).alloc _
  have hm1 : Blk W1 (X + 1) [.slice ma ws.length mc] 41 := by rw [HW1.out, HX.out]; exact (Blk.new' _ [.slice ma ws.length mc] _ _ (by simp)).alloc _
  have hr1 : Blk W1 (X + 1 + 1) [.slice none 0 0, .slice none 0 0] 27 := by rw [HW1.out, HX.out]; exact Blk.new' _ [.slice none 0 0, .slice none 0 0] _ _ (by simp)
  have hb1 : Below w.heap.size w W1 := by rw [HW1.out]; (repeat (first | with_reducible exact Below.refl _ _ | with_reducible refine Below.setCell ?_ (by first | omega | (simp; omega) | (simp; done)) _ | with_reducible refine Below.alloc ?_ (by first | omega | (simp; omega) | (simp; done)) _ | with_reducible refine below_drewN ?_ _ | with_reducible refine Below.drew ?_))
  have HP := hid (alg_parts (hS.below hb1) root (hx.below hb1) (hM.below hb1) hL hwt true)
  obtain ⟨code, HC⟩ : ∃ c, Hid (c = mayAll s root [rightB s d root x]) := ⟨_, rfl⟩
  obtain ⟨y, HY⟩ : ∃ y, Hid (y = partM s true d root.toNat (mOf ws) x) := ⟨_, rfl⟩
  unfold maskV at HP ⊢
  rw [← HC.out, ← HY.out] at HP ⊢
  obtain ⟨sn, HSN⟩ : ∃ n, Hid (n = s.length) := ⟨_, rfl⟩
  obtain ⟨mn, HMN⟩ : ∃ n, Hid (n = ws.length) := ⟨_, rfl⟩
  rw [← HSN.out] at HP ⊢
  rw [← HMN.out] at HP hm1 HW1 ⊢
  obtain ⟨Q, HQ⟩ : ∃ Q : Ending → World → Prop, Hid (Q = AnsPost w d code y) := ⟨_, rfl⟩
  rw [← HQ.out]
  have k0 := hx1.cell 0 _ rfl
  have k1 := hx1.cell 1 _ rfl
  have kl := hx1.lt
  have m0 := hm1.cell 0 _ rfl
  have ml := hm1.lt
  have HB1 := hid hb1
  have HR1 := hid hr1
  clear hx1 hm1 hr1 hb1 hS hS2 hM hM2 hL hx hwt
  go_enter Tryz.func11, Tryz.ntmps11
  go_upto_region 1 with fail
  rw [← HW1.out, ← HX.out]
  go_wp2_with fail
  refine HP.out.mono ?_
  rintro e w2 ⟨hb2, hne, hz⟩
  have hB2 := HB1.out.trans (hb2.mono HB1.out.size)
  have hr2 := HR1.out.below hb2
  have r0 := hr2.cell 0 _ rfl
  have r1 := hr2.cell 1 _ rfl
  have f0 := hr2.free 0
  have f1 := hr2.free 1
  have rl := hr2.lt
  have HB2 := hid hB2
  have HRW := hid (And.intro HR1.out.lt hr2)
  clear k0 k1 kl m0 ml hb2 hr2
  by_cases h0 : code = 0
  · obtain ⟨p1, q1, o1, p2, q2, o2, rfl, hM⟩ := hz h0
    have z1 := HRW.out.2.set 0 (.slice p1 q1 o1)
    have z2 := z1.set 1 (.slice p2 q2 o2)
    have t0 := z2.cell 0 _ rfl
    have t1 := z2.cell 1 _ rfl
    have HE : Hid (Q (.returned (.tuple #[.agg #[.slice p1 q1 o1, .slice p2 q2 o2], .int .u8 0])) ((w2.setCell ⟨X + 1 + 1, 0, none⟩ (.slice p1 q1 o1)).setCell ⟨X + 1 + 1, 1, none⟩ (.slice p2 q2 o2))) := by
      rw [HQ.out]
      refine ⟨(hB2.setCell (by rw [HX.out]; show w.heap.size ≤ w.heap.size + 1 + 1; omega) _).setCell (by rw [HX.out]; show w.heap.size ≤ w.heap.size + 1 + 1; omega) _, fun h => absurd h0 h, fun _ => ⟨_, _, _, _, _, _, rfl, ?_⟩⟩
      intro w3 hw3
      refine hM _ fun b hb hc => ?_
      have hlt := HRW.out.1
      have hne : b ≠ X + 1 + 1 := by omega
      have h4 := HB1.out.size
      rw [hw3 b (by simpa using hb) (.inr (by omega)), Below.heap_setCell _ _ _ b hne, Below.heap_setCell _ _ _ b hne]
    clear z1 z2 hM hne hz hB2
    go_wp2_with fail
    refine bodyPost_ret (v := .tuple #[.agg #[.slice p1 q1 o1, .slice p2 q2 o2], .int .u8 0]) ?_ rfl HE.out
    simp [results, Tryz.results11, go_sem, t0, t1]
  · obtain rfl := hne h0
    have z1 := HRW.out.2.set 0 (.slice none 0 0)
    have z2 := z1.set 1 (.slice none 0 0)
    have t0 := z2.cell 0 _ rfl
    have t1 := z2.cell 1 _ rfl
    have HE : Hid (Q (.returned (.tuple #[.agg #[.slice none 0 0, .slice none 0 0], .int .u8 (code : Int)])) ((w2.setCell ⟨X + 1 + 1, 0, none⟩ (.slice none 0 0)).setCell ⟨X + 1 + 1, 1, none⟩ (.slice none 0 0))) := by
      rw [HQ.out]
      exact ⟨(hB2.setCell (by rw [HX.out]; show w.heap.size ≤ w.heap.size + 1 + 1; omega) _).setCell (by rw [HX.out]; show w.heap.size ≤ w.heap.size + 1 + 1; omega) _, fun _ => rfl, fun h => absurd h h0⟩
    clear z1 z2 hne hz hB2 h0
    go_wp2_with fail
    refine bodyPost_ret (v := .tuple #[.agg #[.slice none 0 0, .slice none 0 0], .int .u8 (code : Int)]) ?_ rfl HE.out
    simp [results, Tryz.results11, go_sem, t0, t1]
set_option maxRecDepth 100000 in
set_option maxHeartbeats 8000000 in
theorem alg_Leave {w : World} {sv v mv : Value} {s : List Mes} {d : Nat} {x : M d} {ws : List (List Int)} (hS : SchemaAt w sv s) (root : Int) (hx : MsgAt d w v x) (hM : WaysAt w mv ws) (hL : LightW ws) (hwt : mwt d x ≤ 1099511627776) :
    Calls Tryz.prog 12 #[sv, .int .i64 root, v, maskV mv] w (AnsPost w d (mayAll s root [rightB s d root x]) (partM s false d root.toNat (mOf ws) x)) := by
  obtain ⟨a1, n1, c1, a2, n2, c2, rfl⟩ := hx.form
  obtain ⟨X, HX⟩ : ∃ X, Hid (X = w.heap.size) := ⟨_, rfl⟩
  have hS2 := hS
  have hM2 := hM
  obtain ⟨-, sa, sc, rfl, -⟩ := hS2.open
  obtain ⟨-, ma, mc, rfl, -, -⟩ := hM2.open
  obtain ⟨W1, HW1⟩ : ∃ W, Hid (W = ((w.alloc (.cells #[.slice a1 n1 c1, .slice a2 n2 c2] 27)).alloc (.cells #[.slice ma ws.length mc] 41)).alloc (.cells #[.slice none 0 0, .slice none 0 0] 27)) := ⟨_, rfl⟩
  have hx1 : Blk W1 X [.slice a1 n1 c1, .slice a2 n2 c2] 27 := by rw [HW1.out, HX.out]; exact ((Blk.new w [.slice a1 n1 c1, .slice a2 n2 c2] _).alloc _).alloc _
  have hm1 : Blk W1 (X + 1) [.slice ma ws.length mc] 41 := by rw [HW1.out, HX.out]; exact (Blk.new' _ [.slice ma ws.length mc] _ _ (by simp)).alloc _
  have hr1 : Blk W1 (X + 1 + 1) [.slice none 0 0, .slice none 0 0] 27 := by rw [HW1.out, HX.out]; exact Blk.new' _ [.slice none 0 0, .slice none 0 0] _ _ (by simp)
  have hb1 : Below w.heap.size w W1 := by rw [HW1.out]; (repeat (first | with_reducible exact Below.refl _ _ | with_reducible refine Below.setCell ?_ (by first | omega | (simp; omega) | (simp; done)) _ | with_reducible refine Below.alloc ?_ (by first | omega | (simp; omega) | (simp; done)) _ | with_reducible refine below_drewN ?_ _ | with_reducible refine Below.drew ?_))
  have HP := hid (alg_parts (hS.below hb1) root (hx.below hb1) (hM.below hb1) hL hwt false)
  obtain ⟨code, HC⟩ : ∃ c, Hid (c = mayAll s root [rightB s d root x]) := ⟨_, rfl⟩
  obtain ⟨y, HY⟩ : ∃ y, Hid (y = partM s false d root.toNat (mOf ws) x) := ⟨_, rfl⟩
  unfold maskV at HP ⊢
  rw [← HC.out, ← HY.out] at HP ⊢
  obtain ⟨sn, HSN⟩ : ∃ n, Hid (n = s.length) := ⟨_, rfl⟩
  obtain ⟨mn, HMN⟩ : ∃ n, Hid (n = ws.length) := ⟨_, rfl⟩
  rw [← HSN.out] at HP ⊢
  rw [← HMN.out] at HP hm1 HW1 ⊢
  obtain ⟨Q, HQ⟩ : ∃ Q : Ending → World → Prop, Hid (Q = AnsPost w d code y) := ⟨_, rfl⟩
  rw [← HQ.out]
  have k0 := hx1.cell 0 _ rfl
  have k1 := hx1.cell 1 _ rfl
  have kl := hx1.lt
  have m0 := hm1.cell 0 _ rfl
  have ml := hm1.lt
  have HB1 := hid hb1
  have HR1 := hid hr1
  clear hx1 hm1 hr1 hb1 hS hS2 hM hM2 hL hx hwt
  go_enter Tryz.func12, Tryz.ntmps12
  go_upto_region 1 with fail
  rw [← HW1.out, ← HX.out]
  go_wp2_with fail
  refine HP.out.mono ?_
  rintro e w2 ⟨hb2, hne, hz⟩
  have hB2 := HB1.out.trans (hb2.mono HB1.out.size)
  have hr2 := HR1.out.below hb2
  have r0 := hr2.cell 0 _ rfl
  have r1 := hr2.cell 1 _ rfl
  have f0 := hr2.free 0
  have f1 := hr2.free 1
  have rl := hr2.lt
  have HB2 := hid hB2
  have HRW := hid (And.intro HR1.out.lt hr2)
  clear k0 k1 kl m0 ml hb2 hr2
  by_cases h0 : code = 0
  · obtain ⟨p1, q1, o1, p2, q2, o2, rfl, hM⟩ := hz h0
    have z1 := HRW.out.2.set 0 (.slice p1 q1 o1)
    have z2 := z1.set 1 (.slice p2 q2 o2)
    have t0 := z2.cell 0 _ rfl
    have t1 := z2.cell 1 _ rfl
    have HE : Hid (Q (.returned (.tuple #[.agg #[.slice p1 q1 o1, .slice p2 q2 o2], .int .u8 0])) ((w2.setCell ⟨X + 1 + 1, 0, none⟩ (.slice p1 q1 o1)).setCell ⟨X + 1 + 1, 1, none⟩ (.slice p2 q2 o2))) := by
      rw [HQ.out]
      refine ⟨(hB2.setCell (by rw [HX.out]; show w.heap.size ≤ w.heap.size + 1 + 1; omega) _).setCell (by rw [HX.out]; show w.heap.size ≤ w.heap.size + 1 + 1; omega) _, fun h => absurd h0 h, fun _ => ⟨_, _, _, _, _, _, rfl, ?_⟩⟩
      intro w3 hw3
      refine hM _ fun b hb hc => ?_
      have hlt := HRW.out.1
      have hne : b ≠ X + 1 + 1 := by omega
      have h4 := HB1.out.size
      rw [hw3 b (by simpa using hb) (.inr (by omega)), Below.heap_setCell _ _ _ b hne, Below.heap_setCell _ _ _ b hne]
    clear z1 z2 hM hne hz hB2
    go_wp2_with fail
    refine bodyPost_ret (v := .tuple #[.agg #[.slice p1 q1 o1, .slice p2 q2 o2], .int .u8 0]) ?_ rfl HE.out
    simp [results, Tryz.results12, go_sem, t0, t1]
  · obtain rfl := hne h0
    have z1 := HRW.out.2.set 0 (.slice none 0 0)
    have z2 := z1.set 1 (.slice none 0 0)
    have t0 := z2.cell 0 _ rfl
    have t1 := z2.cell 1 _ rfl
    have HE : Hid (Q (.returned (.tuple #[.agg #[.slice none 0 0, .slice none 0 0], .int .u8 (code : Int)])) ((w2.setCell ⟨X + 1 + 1, 0, none⟩ (.slice none 0 0)).setCell ⟨X + 1 + 1, 1, none⟩ (.slice none 0 0))) := by
      rw [HQ.out]
      exact ⟨(hB2.setCell (by rw [HX.out]; show w.heap.size ≤ w.heap.size + 1 + 1; omega) _).setCell (by rw [HX.out]; show w.heap.size ≤ w.heap.size + 1 + 1; omega) _, fun _ => rfl, fun h => absurd h h0⟩
    clear z1 z2 hne hz hB2 h0
    go_wp2_with fail
    refine bodyPost_ret (v := .tuple #[.agg #[.slice none 0 0, .slice none 0 0], .int .u8 (code : Int)]) ?_ rfl HE.out
    simp [results, Tryz.results12, go_sem, t0, t1]
end Go.Proofs.YtaefpjecalnbcaaGreat
namespace Go.Proofs.YtaefpjecalnbcaaGreat
open Go.RowKit
theorem putV_sum {α : Type} (f : Val α → Nat) (v : Val α) : ∀ {l : List (Val α)}, RiseV l → ((putV v l).map f).sum + (match getV l v.num with | some w => f w | none => 0) = (l.map f).sum + f v
  | [], _ => by simp [putV, getV_nil]
  | x :: r, h => by
    obtain ⟨h1, h2⟩ := h.tail
    unfold putV
    rw [getV_cons]
    by_cases hlt : x.num < v.num
    · have ih := putV_sum f v h1
      rw [if_pos hlt, if_neg (by omega)]
      simp only [List.map_cons, List.sum_cons]
      omega
    · rw [if_neg hlt]
      by_cases he : x.num = v.num
      · rw [if_pos he, if_pos he]
        simp only [List.map_cons, List.sum_cons]
        omega
      · rw [if_neg he, if_neg he, getV_low (l := r) fun y hy => by have := h2 y hy; omega]
        simp only [List.map_cons, List.sum_cons]
        omega
theorem joinV_sum {α : Type} (f : Val α → Nat) {g : Val α → Val α → Val α} (hg : ∀ w v, (g w v).num = v.num) {a : List (Val α)} (ha : RiseV a) : ∀ {b : List (Val α)}, RiseV b → (∀ w ∈ a, ∀ v ∈ b, w.num = v.num → f (g w v) ≤ f w + f v) → ((joinV g a b).map f).sum ≤ (a.map f).sum + (b.map f).sum := by
  have key : ∀ (b out : List (Val α)), RiseV b → RiseV out → (∀ v ∈ b, getV out v.num = getV a v.num) → (∀ w ∈ a, ∀ v ∈ b, w.num = v.num → f (g w v) ≤ f w + f v) → ((b.foldl (fun out v => putV (withV g a v) out) out).map f).sum ≤ (out.map f).sum + (b.map f).sum := by
    intro b
    induction b with
    | nil => intro out _ _ _ _; simp
    | cons v r ih =>
      intro out hb ho hk hf
      obtain ⟨b1, b2⟩ := hb.tail
      have hs := putV_sum f (withV g a v) ho
      have hn := withV_num hg a v
      have h1 := ih (putV (withV g a v) out) b1 (putV_rise ho) (fun u hu => by
        have := b2 u hu
        rw [putV_get ho, hn, if_neg (by omega)]
        exact hk u (by simp [hu])) fun w hw u hu => hf w hw u (by simp [hu])
      rw [List.foldl_cons, List.map_cons, List.sum_cons]
      rw [hn, hk v (by simp)] at hs
      have h2 : f (withV g a v) ≤ (match getV a v.num with | some w => f w | none => 0) + f v := by
        unfold withV
        cases hgv : getV a v.num with
        | none => simp
        | some w => exact hf w (getV_num hgv).2 v (by simp) (getV_num hgv).1
      omega
  intro b hb hf
  exact key b a hb ha (fun _ _ => rfl) hf
theorem twt_app (a b : List (List UInt8)) : twt (a ++ b) = twt a + twt b := by simp [twt]
theorem vwt_both {α : Type} {f : α → Nat} {R : Int → α → Bool} {J : Int → α → α → α} {fl : Fld} {w v : Val α} (hw : fitsB R fl w = true) (hv : fitsB R fl v = true) (hJ : ∀ x y, R fl.of x = true → R fl.of y = true → f (J fl.of x y) ≤ f x + f y) : vwt f (bothV J fl w v) ≤ vwt f w + vwt f v := by
  unfold bothV
  by_cases hr : fl.rep = true
  · rw [if_pos hr]
    simp only [vwt, List.length_append, twt_app, List.map_append, List.sum_append]
    omega
  · rw [if_neg hr]
    by_cases hk : fl.kind = 17
    · rw [if_pos hk]
      obtain ⟨x, hx, hrx⟩ := fits_sub hw hk (by simpa using hr)
      obtain ⟨y, hy, hry⟩ := fits_sub hv hk (by simpa using hr)
      have := hJ x y hrx hry
      rw [hx, hy]
      simp only [vwt, List.zip_cons_cons, List.zip_nil_left, List.take_succ_cons, List.take_zero, List.map_cons, List.map_nil, List.sum_cons, List.sum_nil, List.length_nil, twt, hx, hy]
      omega
    · rw [if_neg hk]; omega
theorem right_vals2 {s : List Mes} {d : Nat} {root : Int} {x : M (d + 1)} (h : rightB s (d + 1) root x = true) : ValsOk (fitsB (rightB s d)) (s.getD root.toNat .zero).fields (M.vals x) ∧ RiseV (M.vals x) := by
  unfold rightB at h
  by_cases h0 : root < 0 ∨ (s.length : Int) ≤ root
  · rw [if_pos h0] at h; cases h
  · rw [if_neg h0, Bool.and_eq_true] at h
    exact ⟨(valsOk_of h.1).1, (valsOk_of h.1).1.rise⟩
theorem mwt_join (s : List Mes) : ∀ (d : Nat) (root : Int) (a b : M d), rightB s d root a = true → rightB s d root b = true → mwt d (joinM s d root a b) ≤ mwt d a + mwt d b
  | 0, _, a, _, _, _ => a.elim
  | d + 1, root, a, b, ha, hb => by
    obtain ⟨oa, ra⟩ := right_vals2 ha
    obtain ⟨ob, rb⟩ := right_vals2 hb
    have key := joinV_sum (vwt (mwt d)) (g := fun w v => bothV (joinM s d) ((s.getD root.toNat .zero).fields.getD (fieldAt (s.getD root.toNat .zero).fields v.num).toNat .zero) w v) (fun _ _ => bothV_num _ _ _ _) ra rb (fun w hw v hv e => by
      obtain ⟨-, -, -, fw⟩ := oa.at' w hw
      obtain ⟨-, -, -, fv⟩ := ob.at' v hv
      unfold qOf at fw fv
      rw [e] at fw
      exact vwt_both fw fv fun x y hx hy => mwt_join s d _ x y hx hy)
    show 1 + twt (M.unk a ++ M.unk b) + _ ≤ (1 + twt (M.unk a) + _) + (1 + twt (M.unk b) + _)
    rw [twt_app]
    have h2 : ((M.vals (d := d) (joinM s (d + 1) root a b)).map (vwt (mwt d))).sum ≤ ((M.vals a).map (vwt (mwt d))).sum + ((M.vals b).map (vwt (mwt d))).sum := key
    omega
end Go.Proofs.YtaefpjecalnbcaaGreat
namespace Go.Proofs.YtaefpjecalnbcaaGreat
open Go.RowKit Go.Shelf
theorem may_two {w : World} {g : Nat} {s : List Mes} {root : Int} {v1 v2 u1 u2 : Value} {d : Nat} {x y : M d} {T : TypeId} (hb : Blk w g [v1, v2, u1, u2] T) (hx : MsgAt d w (.agg #[v1, v2]) x) (hy : MsgAt d w (.agg #[u1, u2]) y) (hw : mwt d x ≤ 1099511627776) (hw' : mwt d y ≤ 1099511627776) : MayAt w s root g [rightB s d root x, rightB s d root y] := by
  intro i r hi
  match i, hi with
  | 0, hi =>
    simp at hi
    subst hi
    exact ⟨v1, v2, d, x, by simpa using hb.cell 0 _ rfl, by simpa using hb.cell 1 _ rfl, hx, hw, rfl⟩
  | 1, hi =>
    simp at hi
    subst hi
    exact ⟨u1, u2, d, y, by simpa using hb.cell 2 _ rfl, by simpa using hb.cell 3 _ rfl, hy, hw', rfl⟩
  | i + 2, hi => simp at hi
set_option maxRecDepth 100000 in
set_option maxHeartbeats 8000000 in
theorem alg_Join {w : World} {sv v u : Value} {s : List Mes} {d : Nat} {x y : M d} (hS : SchemaAt w sv s) (root : Int) (hx : MsgAt d w v x) (hy : MsgAt d w u y) (hwx : mwt d x ≤ 536870912) (hwy : mwt d y ≤ 536870912) :
    Calls Tryz.prog 17 #[sv, .int .i64 root, v, u] w (AnsPost w d (mayAll s root [rightB s d root x, rightB s d root y]) (joinM s d root x y)) := by
  obtain ⟨a1, n1, c1, a2, n2, c2, rfl⟩ := hx.form
  obtain ⟨b1, m1, k1, b2, m2, k2, rfl⟩ := hy.form
  obtain ⟨X, HX⟩ : ∃ X, Hid (X = w.heap.size) := ⟨_, rfl⟩
  have hS2 := hS
  obtain ⟨-, sa, sc, rfl, -⟩ := hS2.open
  obtain ⟨sn, HSN⟩ : ∃ n, Hid (n = s.length) := ⟨_, rfl⟩
  rw [← HSN.out] at hS hS2 ⊢
  obtain ⟨W1, HW1⟩ : ∃ W, Hid (W = ((w.alloc (.cells #[.slice a1 n1 c1, .slice a2 n2 c2] 27)).alloc (.cells #[.slice b1 m1 k1, .slice b2 m2 k2] 27)).alloc (.cells #[.slice none 0 0, .slice none 0 0] 27)) := ⟨_, rfl⟩
  have hx1 : Blk W1 X [.slice a1 n1 c1, .slice a2 n2 c2] 27 := by rw [HW1.out, HX.out]; exact ((Blk.new w [.slice a1 n1 c1, .slice a2 n2 c2] _).alloc _).alloc _
  have hy1 : Blk W1 (X + 1) [.slice b1 m1 k1, .slice b2 m2 k2] 27 := by rw [HW1.out, HX.out]; exact (Blk.new' _ [.slice b1 m1 k1, .slice b2 m2 k2] _ _ (by simp)).alloc _
  have hr1 : Blk W1 (X + 1 + 1) [.slice none 0 0, .slice none 0 0] 27 := by rw [HW1.out, HX.out]; exact Blk.new' _ [.slice none 0 0, .slice none 0 0] _ _ (by simp)
  have hb1 : Below w.heap.size w W1 := by rw [HW1.out]; (repeat (first | with_reducible exact Below.refl _ _ | with_reducible refine Below.setCell ?_ (by first | omega | (simp; omega) | (simp; done)) _ | with_reducible refine Below.alloc ?_ (by first | omega | (simp; omega) | (simp; done)) _ | with_reducible refine below_drewN ?_ _ | with_reducible refine Below.drew ?_))
  obtain ⟨W2, HW2⟩ : ∃ W, Hid (W = W1.alloc (.cells #[.slice a1 n1 c1, .slice a2 n2 c2, .slice b1 m1 k1, .slice b2 m2 k2] 27)) := ⟨_, rfl⟩
  obtain ⟨G, HG⟩ : ∃ G, Hid (G = W1.heap.size) := ⟨_, rfl⟩
  have hb12 : Below W1.heap.size W1 W2 := by rw [HW2.out]; exact (Below.refl _ _).alloc (Nat.le_refl _) _
  have hg2 : Blk W2 G [.slice a1 n1 c1, .slice a2 n2 c2, .slice b1 m1 k1, .slice b2 m2 k2] 27 := by rw [HW2.out, HG.out]; exact Blk.new W1 [.slice a1 n1 c1, .slice a2 n2 c2, .slice b1 m1 k1, .slice b2 m2 k2] _
  have hb2 := hb1.trans (hb12.mono hb1.size)
  obtain ⟨code, HC⟩ : ∃ c, Hid (c = mayAll s root [rightB s d root x, rightB s d root y]) := ⟨_, rfl⟩
  have HMAY := hid (alg_may (hS.below hb2) root (may_two (s := s) (root := root) hg2 (hx.below hb2) (hy.below hb2) (by omega) (by omega)) (n := 2) (c := 2) rfl (by decide))
  rw [← HC.out] at HMAY ⊢
  have hc12 : code ≤ 12 := by rw [HC.out]; exact may_small _ _ _
  have HB2 := hid hb2
  have HXB := hid (And.intro (hx1.below hb12) (And.intro (hy1.below hb12) (hr1.below hb12)))
  have HS0 := hid hS
  have HXM := hid (And.intro hx hy)
  have HWT := hid (And.intro hwx hwy)
  obtain ⟨Q, HQ⟩ : ∃ Q : Ending → World → Prop, Hid (Q = AnsPost w d code (joinM s d root x y)) := ⟨_, rfl⟩
  rw [← HQ.out]
  have k0 := hx1.cell 0 _ rfl
  have k1 := hx1.cell 1 _ rfl
  have kl := hx1.lt
  have l0 := hy1.cell 0 _ rfl
  have l1 := hy1.cell 1 _ rfl
  have ll := hy1.lt
  clear hx1 hy1 hr1 hb1 hb12 hg2 hb2 hS hS2 hx hy hwx hwy
  go_enter Tryz.func17, Tryz.ntmps17
  go_upto_region 1 with fail
  rw [← HW1.out, ← HX.out]
  go_wp2_with fail
  rw [← HW2.out, ← HG.out]
  refine HMAY.out.mono ?_
  rintro e w3 ⟨rfl, hb3⟩
  have HB3 := hid (HB2.out.trans (hb3.mono HB2.out.size))
  have HX3 := hid (And.intro (HXB.out.1.below hb3) (And.intro (HXB.out.2.1.below hb3) (HXB.out.2.2.below hb3)))
  clear k0 k1 kl l0 l1 ll
  have k0 := HX3.out.1.cell 0 _ rfl
  have k1 := HX3.out.1.cell 1 _ rfl
  have kl := HX3.out.1.lt
  have l0 := HX3.out.2.1.cell 0 _ rfl
  have l1 := HX3.out.2.1.cell 1 _ rfl
  have ll := HX3.out.2.1.lt
  clear hb3 HMAY HXB
  by_cases h0 : code = 0
  · subst h0
    obtain ⟨g1, g2, g3, g4⟩ := may_zero HC.out.symm
    obtain ⟨r, rfl⟩ : ∃ r : Nat, root = r := ⟨root.toNat, by omega⟩
    have hrt : rightB s d (r : Int) x = true ∧ rightB s d (r : Int) y = true := by simpa using g4
    have HP := hid (alg_join HS0.out d r w3 _ _ x y (by omega) HB3.out HXM.out.1 HXM.out.2 hrt.1 hrt.2 HWT.out.1 HWT.out.2)
    obtain ⟨z, HY⟩ : ∃ z, Hid (z = joinM s d r x y) := ⟨_, rfl⟩
    rw [← HY.out] at HP
    have HYW : Hid (mwt d z ≤ 1099511627776) := by
      have h1 := mwt_join s d r x y hrt.1 hrt.2
      rw [← HY.out] at h1
      have := HWT.out
      show _ ≤ _
      omega
    rw [← HY.out] at HQ
    clear g1 g2 g3 g4 hrt HC hc12
    go_wp2_with fail
    refine HP.out.mono ?_
    rintro e w4 ⟨v4, rfl, hb4, hap4⟩
    have hM4 := hap4.here
    obtain ⟨p1, q1, o1, p2, q2, o2, rfl⟩ := hM4.form
    have HCP := hid (tree_Copy (w0 := w4) d w4 _ z (Below.refl _ _) hM4 HYW.out)
    have HB4 := hid (HB3.out.trans (hb4.mono HB3.out.size))
    have HR4 := hid (HX3.out.2.2.below hb4)
    clear hb4 hap4 hM4 k0 k1 kl l0 l1 ll HX3
    go_wp2_with fail
    refine HCP.out.mono ?_
    rintro e w5 ⟨v5, rfl, hb5, hap5⟩
    obtain ⟨s1, t1, u1, s2, t2, u2, rfl⟩ := hap5.here.form
    have HB5 := hid (HB4.out.trans (hb5.mono HB4.out.size))
    have hr5 := HR4.out.below hb5
    have hlt4 := HR4.out.lt
    have r0 := hr5.cell 0 _ rfl
    have r1 := hr5.cell 1 _ rfl
    have f0 := hr5.free 0
    have f1 := hr5.free 1
    have rl := hr5.lt
    have z1 := hr5.set 0 (.slice s1 t1 u1)
    have z2 := z1.set 1 (.slice s2 t2 u2)
    have q0 := z2.cell 0 _ rfl
    have q1' := z2.cell 1 _ rfl
    have HE : Hid (Q (.returned (.tuple #[.agg #[.slice s1 t1 u1, .slice s2 t2 u2], .int .u8 0])) ((w5.setCell ⟨X + 1 + 1, 0, none⟩ (.slice s1 t1 u1)).setCell ⟨X + 1 + 1, 1, none⟩ (.slice s2 t2 u2))) := by
      rw [HQ.out]
      refine ⟨(HB5.out.setCell (by rw [HX.out]; show w.heap.size ≤ w.heap.size + 1 + 1; omega) _).setCell (by rw [HX.out]; show w.heap.size ≤ w.heap.size + 1 + 1; omega) _, fun h => absurd rfl h, fun _ => ⟨_, _, _, _, _, _, rfl, ?_⟩⟩
      intro w2 hw2
      refine hap5 _ fun b hb hc => ?_
      have hne : b ≠ X + 1 + 1 := by omega
      have h4 := HB4.out.size
      rw [hw2 b (by simpa using hb) (.inr (by omega)), Below.heap_setCell _ _ _ b hne, Below.heap_setCell _ _ _ b hne]
    clear hr5 z1 z2 hap5 hb5 hlt4 HCP HP
    go_wp2_with fail
    refine bodyPost_ret (v := .tuple #[.agg #[.slice s1 t1 u1, .slice s2 t2 u2], .int .u8 0]) ?_ rfl HE.out
    simp [results, Tryz.results17, go_sem, q0, q1']
  · have hne : ((code : Int) != 0) = true := by simpa using h0
    have hr3 := HX3.out.2.2
    have r0 := hr3.cell 0 _ rfl
    have r1 := hr3.cell 1 _ rfl
    have f0 := hr3.free 0
    have f1 := hr3.free 1
    have rl := hr3.lt
    have z1 := hr3.set 0 (.slice none 0 0)
    have z2 := z1.set 1 (.slice none 0 0)
    have q0 := z2.cell 0 _ rfl
    have q1' := z2.cell 1 _ rfl
    have HE : Hid (Q (.returned (.tuple #[.agg #[.slice none 0 0, .slice none 0 0], .int .u8 (code : Int)])) ((w3.setCell ⟨X + 1 + 1, 0, none⟩ (.slice none 0 0)).setCell ⟨X + 1 + 1, 1, none⟩ (.slice none 0 0))) := by
      rw [HQ.out]
      exact ⟨(HB3.out.setCell (by rw [HX.out]; show w.heap.size ≤ w.heap.size + 1 + 1; omega) _).setCell (by rw [HX.out]; show w.heap.size ≤ w.heap.size + 1 + 1; omega) _, fun _ => rfl, fun h => absurd h h0⟩
    clear hr3 z1 z2 HX3 HC h0
    go_wp2_with fail
    refine bodyPost_ret (v := .tuple #[.agg #[.slice none 0 0, .slice none 0 0], .int .u8 (code : Int)]) ?_ rfl HE.out
    simp [results, Tryz.results17, go_sem, q0, q1']
end Go.Proofs.YtaefpjecalnbcaaGreat
namespace Go.Proofs.YtaefpjecalnbcaaGreat
open Go.RowKit
/-! Literals: a block as a slice. -/
theorem words_blk {w : World} {g : Nat} {l : List Nat} {T : TypeId} (h : Blk w g (l.map wordV) T) (n : Nat) (hl : n = l.length) (hn : n ≤ 140737488355328) (h64 : ∀ x ∈ l, x < 2 ^ 64) : WordsAt w (.slice (some ⟨g, 0, none⟩) n n) l := by
  subst hl
  exact ⟨seg_blk h 1 _ (by simp) hn, h64⟩
theorem strs_nil (w : World) : StrsAt w (.slice none 0 0) [] := ⟨⟨rfl, by simp, _, _, rfl, Nat.le_refl _, by omega, fun _ => rfl, fun j u hu => by simp at hu⟩, by simp⟩
theorem rowsAt_nil {α : Type} (P : World → List Value → α → Prop) (k : Nat) (w : World) : RowsAt P k w (.slice none 0 0) [] := ⟨[], rfl, by simp, ⟨by simp, by simp, _, _, rfl, Nat.le_refl _, by omega, fun _ => rfl, fun j u hu => by simp at hu⟩, by simp⟩
theorem fields_blk {w : World} {g : Nat} {fs : List Fld} {T : TypeId} (h : Blk w g (fs.flatMap Fld.cells) T) (n : Nat) (hl : n = fs.length) (hn : n ≤ 140737488355328) (hok : ∀ f ∈ fs, f.Ok) : FieldsAt w (.slice (some ⟨g, 0, none⟩) n n) fs := by
  subst hl
  refine ⟨seg_blk h 6 _ ?_ hn, hok⟩
  clear h hok hn
  induction fs with
  | nil => rfl
  | cons f r ih => rw [List.flatMap_cons, List.length_append, ih, List.length_cons, Nat.succ_mul]; show 6 + _ = _; omega
theorem schema_one {w : World} {g : Nat} {name : ByteArray} {fs : List Fld} {fv : Value} {T : TypeId} (h : Blk w g [.string name, fv] T) (hn : name.size ≤ 140737488355328) (hf : FieldsAt w fv fs) : SchemaAt w (.slice (some ⟨g, 0, none⟩) 1 1) [⟨name, fs⟩] := by
  refine ⟨[fv], rfl, seg_blk h 2 1 rfl (by omega), by simpa using hn, fun i hi => ?_⟩
  have : i = 0 := by simp at hi; omega
  subst this
  exact hf
theorem vals_one {d : Nat} {w : World} {g : Nat} {wv tv sv : Value} {x : Val (M d)} {T : TypeId} (h : Blk w g [.int .i64 x.num, wv, tv, sv] T) (hv : ValAt (MsgAt d) w (.agg #[.int .i64 x.num, wv, tv, sv]) x) : ValsAt (MsgAt d) w (.slice (some ⟨g, 0, none⟩) 1 1) [x] := by
  refine ⟨[[.int .i64 x.num, wv, tv, sv]], rfl, by simp, by simpa using seg_blk h 4 1 rfl (by omega), fun i r y hr hy => ?_⟩
  match i with
  | 0 =>
    simp at hr hy
    subst hr
    subst hy
    exact hv
  | i + 1 => simp at hr
end Go.Proofs.YtaefpjecalnbcaaGreat
