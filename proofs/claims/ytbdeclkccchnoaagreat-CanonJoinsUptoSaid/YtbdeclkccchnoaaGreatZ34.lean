/- Parts of a proof: texts of the author, merged. No condition of their own. -/
import Derived.Test.YtbdeclkccchnoaaGreatZ07
import Derived.Test.YtbdeclkccchnoaaGreatZ10
import Derived.Test.YtbdeclkccchnoaaGreatZ13
import Derived.Test.YtbdeclkccchnoaaGreatZ21
import Derived.Test.YtbdeclkccchnoaaGreatZ23
import Derived.Test.YtbdeclkccchnoaaGreatZ24
import Derived.Test.YtbdeclkccchnoaaGreatZ26
import Derived.Test.YtbdeclkccchnoaaGreatZ27
import Derived.Test.YtbdeclkccchnoaaGreatZ33
namespace Go.Proofs.YtbdeclkccchnoaaGreat
open Go.RowKit
def mayAll (s : List Mes) (root : Int) (rs : List Bool) : Nat := if sright s = false then 9 else if root < 0 ∨ (s.length : Int) ≤ root then 2 else if rs.all id then 0 else 12
def MayAt (w : World) (s : List Mes) (root : Int) (g : Nat) (rs : List Bool) : Prop :=
  ∀ i r, rs[i]? = some r → ∃ v1 v2 d, ∃ x : M d, w.cell? ⟨g, i * 2, none⟩ = some v1 ∧ w.cell? ⟨g, i * 2 + 1, none⟩ = some v2 ∧ MsgAt d w (.agg #[v1, v2]) x ∧ mwt d x ≤ 1099511627776 ∧ (sright s && rightB s d root x) = (sright s && r)
theorem all_take_step (rs : List Bool) (i : Nat) (h : (rs.take i).all id = true) (hi : rs[i]? = some true) : (rs.take (i + 1)).all id = true := by
  rw [List.take_add_one, hi]
  simp [h]
theorem all_get_false (rs : List Bool) (i : Nat) (hi : rs[i]? = some false) : rs.all id = false := by
  have := List.mem_of_getElem? hi
  rw [List.all_eq_false]
  exact ⟨false, this, by simp⟩
set_option maxRecDepth 100000 in
set_option maxHeartbeats 4000000 in
theorem alg_may {w : World} {sv : Value} {s : List Mes} {g n c : Nat} {rs : List Bool} (hS : SchemaAt w sv s) (root : Int) (h : MayAt w s root g rs) (hn : n = rs.length) (hnb : n ≤ 1099511627776) :
    Calls Tryz.prog 18 #[sv, .int .i64 root, .slice (some ⟨g, 0, none⟩) n c] w fun e w' => e = .returned (.int .u8 (mayAll s root rs)) ∧ Below w.heap.size w w' := by
  have HS := hid hS
  have HM := hid h
  have HN := hid hn
  have HR := hid (schema_Right hS)
  obtain ⟨hsl, sa, sc, rfl, -⟩ := hS.open
  obtain ⟨m, HMC⟩ : ∃ m, Hid (m = mayAll s root rs) := ⟨_, rfl⟩
  rw [← HMC.out]
  by_cases hb : sright s = false
  · have HE : Hid (m = 9) := by rw [Hid, HMC.out, mayAll, if_pos hb]
    have HB := hid hb
    clear hS h hb HMC hn
    go_enter Tryz.func18, Tryz.ntmps18
    go_wp2_with (go_at_call 15; refine HR.out.mono ?_; rintro e w1 ⟨rfl, hb1⟩; rw [HB.out])
    go_ret
    exact ⟨by rw [HE.out]; rfl, hb1⟩
  have hb' : sright s = true := by simpa using hb
  have HB := hid hb'
  by_cases hr : root < 0 ∨ (s.length : Int) ≤ root
  · have HE : Hid (m = 2) := by rw [Hid, HMC.out, mayAll, if_neg hb, if_pos hr]
    have HRR : Hid ((s.length : Int) ≤ root ∨ root < 0) := hr.symm
    clear hS h hb hb' HMC hr hn
    by_cases hneg : root < 0
    · go_enter Tryz.func18, Tryz.ntmps18
      go_wp2_with (go_at_call 15; refine HR.out.mono ?_; rintro e w1 ⟨rfl, hb1⟩; rw [HB.out])
      go_ret
      exact ⟨by rw [HE.out]; rfl, hb1⟩
    · have hge : (s.length : Int) ≤ root := by rcases HRR.out with h | h <;> omega
      go_enter Tryz.func18, Tryz.ntmps18
      go_wp2_with (go_at_call 15; refine HR.out.mono ?_; rintro e w1 ⟨rfl, hb1⟩; rw [HB.out])
      go_ret
      exact ⟨by rw [HE.out]; rfl, hb1⟩
  · have HE : Hid (m = if rs.all id then 0 else 12) := by rw [Hid, HMC.out, mayAll, if_neg hb, if_neg hr]
    have hr0 : ¬ root < 0 := fun h => hr (Or.inl h)
    have hr1 : ¬ (s.length : Int) ≤ root := fun h => hr (Or.inr h)
    clear hS h hb hb' HMC hr hn
    go_enter Tryz.func18, Tryz.ntmps18
    go_wp2_with (go_at_call 15; refine HR.out.mono ?_; rintro e w1 ⟨rfl, hb1⟩; rw [HB.out])
    have HB1 := hid hb1
    clear hb1 hr0 hr1
    go_loopw [24] (fun v24 wr => ∃ i : Nat, v24 = .int .i64 i ∧ i ≤ n ∧ Hid ((rs.take i).all id = true) ∧ Hid (Below w1.heap.size w1 wr)) (fun v24 _ => n - (intOf v24).toNat)
    case atStart => exact ⟨0, rfl, by omega, by simp [Hid], Below.refl _ _⟩
    case round =>
      obtain ⟨i, rfl, hi, HI, HB2⟩ := hrel
      have HBW := hid (HB1.out.trans (HB2.out.mono HB1.out.size))
      by_cases hlt : i < n
      · have hri : rs[i]? = some (rs[i]'(by rw [← HN.out]; exact hlt)) := List.getElem?_eq_getElem _
        generalize rs[i]'(by rw [← HN.out]; exact hlt) = r at hri
        have hm := HM.out
        obtain ⟨v1, v2, d, x, g0, g1, hM, hw, hq⟩ := hm i r hri
        clear hm
        obtain ⟨a1, n1, c1, a2, n2, c2, he⟩ := hM.form
        cases he
        have HRI := hid hri
        replace g0 := below_keeps HBW.out _ _ g0
        replace g1 := below_keeps HBW.out _ _ g1
        have hbl : g < wr.heap.size := World.block_lt_of_cell? wr _ g0
        have hix := index_run Tryz.underlying50 size_msg (a := some ⟨g, 0, none⟩) rfl i hlt (cap := c)
        simp only [Nat.zero_add] at hix
        have HW := hid hw
        have hM2 := hM.below HBW.out
        have HMS := hid hM2
        have HQ : Hid ((sright s && rightB s d root x) = r) := by rw [Hid, hq, HB.out, Bool.true_and]
        clear hM hM2 hw hq hri
        go_wp2_with fail
        refine (tree_Right (HS.out.below ?hbs) root (HMS.out.below ?hbm) HW.out).mono ?_
        case hbs => exact HBW.out.alloc HBW.out.size _
        case hbm => exact (Below.refl wr.heap.size wr).alloc (Nat.le_refl _) _
        rintro e w2 ⟨rfl, hb2⟩
        rw [HQ.out]
        have HB3 : Hid (Below w1.heap.size w1 w2) := HB2.out.trans (((Below.refl wr.heap.size wr).alloc (Nat.le_refl _) _ |>.trans (hb2.mono (by simp))).mono HB2.out.size)
        clear hb2
        cases r with
        | false =>
          have HF := hid (all_get_false rs i HRI.out)
          go_wp2_with fail
          go_ret
          exact ⟨by rw [HE.out, HF.out]; rfl, HB1.out.trans (HB3.out.mono HB1.out.size)⟩
        | true =>
          have HT := hid (all_take_step rs i HI.out HRI.out)
          go_wp2_with fail
          go_roundw
          case rel => exact ⟨i + 1, by go_num, hlt, HT.out, HB3.out⟩
          case measure => simp [intOf]; omega
      · obtain rfl : i = n := by omega
        have HT : Hid (rs.all id = true) := by
          have := HI.out
          rw [List.take_of_length_le (by rw [← HN.out]; exact Nat.le_refl _)] at this
          exact this
        go_wp2_with fail
        go_ret
        exact ⟨by rw [HE.out, HT.out]; rfl, HBW.out⟩
end Go.Proofs.YtbdeclkccchnoaaGreat
namespace Go.Proofs.YtbdeclkccchnoaaGreat
open Go.RowKit
def AnsPost (w : World) (d : Nat) (code : Nat) (x : M d) (e : Ending) (w' : World) : Prop := Below w.heap.size w w' ∧ (code ≠ 0 → e = .returned (.tuple #[.agg #[.slice none 0 0, .slice none 0 0], .int .u8 (code : Int)])) ∧
  (code = 0 → ∃ a n c b m k, e = .returned (.tuple #[.agg #[.slice a n c, .slice b m k], .int .u8 0]) ∧ Apart 0 w.heap.size w' fun w2 => MsgAt d w2 (.agg #[.slice a n c, .slice b m k]) x)
theorem may_zero {s : List Mes} {root : Int} {rs : List Bool} (h : mayAll s root rs = 0) : sright s = true ∧ 0 ≤ root ∧ root < s.length ∧ rs.all id = true := by
  unfold mayAll at h
  by_cases h1 : sright s = false
  · rw [if_pos h1] at h; cases h
  · rw [if_neg h1] at h
    by_cases h2 : root < 0 ∨ (s.length : Int) ≤ root
    · rw [if_pos h2] at h; cases h
    · rw [if_neg h2] at h
      cases h3 : rs.all id
      · rw [h3] at h; cases h
      · exact ⟨by simpa using h1, by omega, by omega, rfl⟩
theorem may_small (s : List Mes) (root : Int) (rs : List Bool) : mayAll s root rs ≤ 12 := by
  unfold mayAll
  split
  · omega
  · split
    · omega
    · split <;> omega
end Go.Proofs.YtbdeclkccchnoaaGreat
namespace Go.Proofs.YtbdeclkccchnoaaGreat
open Go.RowKit
theorem putV_sum {α : Type} (f : Val α → Nat) (v : Val α) : ∀ {l : List (Val α)}, RiseV l → ((putV v l).map f).sum + (match getV l v.num with | some w => f w | none => 0) = (l.map f).sum + f v
  | [], _ => by simp [putV, getV_nil]
  | x :: r, h => by
    obtain ⟨h1, h2⟩ := h.tail
    unfold putV
    rw [getV_cons]
    by_cases hlt : x.num < v.num
    · have ih := putV_sum f v h1
      rw [if_pos hlt, if_neg (by omega)]
      simp only [List.map_cons, List.sum_cons]
      omega
    · rw [if_neg hlt]
      by_cases he : x.num = v.num
      · rw [if_pos he, if_pos he]
        simp only [List.map_cons, List.sum_cons]
        omega
      · rw [if_neg he, if_neg he, getV_low (l := r) fun y hy => by have := h2 y hy; omega]
        simp only [List.map_cons, List.sum_cons]
        omega
theorem joinV_sum {α : Type} (f : Val α → Nat) {g : Val α → Val α → Val α} (hg : ∀ w v, (g w v).num = v.num) {a : List (Val α)} (ha : RiseV a) : ∀ {b : List (Val α)}, RiseV b → (∀ w ∈ a, ∀ v ∈ b, w.num = v.num → f (g w v) ≤ f w + f v) → ((joinV g a b).map f).sum ≤ (a.map f).sum + (b.map f).sum := by
  have key : ∀ (b out : List (Val α)), RiseV b → RiseV out → (∀ v ∈ b, getV out v.num = getV a v.num) → (∀ w ∈ a, ∀ v ∈ b, w.num = v.num → f (g w v) ≤ f w + f v) → ((b.foldl (fun out v => putV (withV g a v) out) out).map f).sum ≤ (out.map f).sum + (b.map f).sum := by
    intro b
    induction b with
    | nil => intro out _ _ _ _; simp
    | cons v r ih =>
      intro out hb ho hk hf
      obtain ⟨b1, b2⟩ := hb.tail
      have hs := putV_sum f (withV g a v) ho
      have hn := withV_num hg a v
      have h1 := ih (putV (withV g a v) out) b1 (putV_rise ho) (fun u hu => by
        have := b2 u hu
        rw [putV_get ho, hn, if_neg (by omega)]
        exact hk u (by simp [hu])) fun w hw u hu => hf w hw u (by simp [hu])
      rw [List.foldl_cons, List.map_cons, List.sum_cons]
      rw [hn, hk v (by simp)] at hs
      have h2 : f (withV g a v) ≤ (match getV a v.num with | some w => f w | none => 0) + f v := by
        unfold withV
        cases hgv : getV a v.num with
        | none => simp
        | some w => exact hf w (getV_num hgv).2 v (by simp) (getV_num hgv).1
      omega
  intro b hb hf
  exact key b a hb ha (fun _ _ => rfl) hf
theorem twt_app2 (a b : List (List UInt8)) : twt (a ++ b) = twt a + twt b := by simp [twt]
theorem vwt_both {α : Type} {f : α → Nat} {R : Int → α → Bool} {J : Int → α → α → α} {fl : Fld} {w v : Val α} (hw : fitsB R fl w = true) (hv : fitsB R fl v = true) (hJ : ∀ x y, R fl.of x = true → R fl.of y = true → f (J fl.of x y) ≤ f x + f y) : vwt f (bothV J fl w v) ≤ vwt f w + vwt f v := by
  unfold bothV
  by_cases hr : fl.rep = true
  · rw [if_pos hr]
    simp only [vwt, List.length_append, twt_app2, List.map_append, List.sum_append]
    omega
  · rw [if_neg hr]
    by_cases hk : fl.kind = 17
    · rw [if_pos hk]
      obtain ⟨x, hx, hrx⟩ := fits_sub hw hk (by simpa using hr)
      obtain ⟨y, hy, hry⟩ := fits_sub hv hk (by simpa using hr)
      have := hJ x y hrx hry
      rw [hx, hy]
      simp only [vwt, List.zip_cons_cons, List.zip_nil_left, List.take_succ_cons, List.take_zero, List.map_cons, List.map_nil, List.sum_cons, List.sum_nil, List.length_nil, twt, hx, hy]
      omega
    · rw [if_neg hk]; omega
theorem right_vals2 {s : List Mes} {d : Nat} {root : Int} {x : M (d + 1)} (h : rightB s (d + 1) root x = true) : ValsOk (fitsB (rightB s d)) (s.getD root.toNat .zero).fields (M.vals x) ∧ RiseV (M.vals x) := by
  unfold rightB at h
  by_cases h0 : root < 0 ∨ (s.length : Int) ≤ root
  · rw [if_pos h0] at h; cases h
  · rw [if_neg h0, Bool.and_eq_true] at h
    exact ⟨(valsOk_of h.1).1, (valsOk_of h.1).1.rise⟩
theorem mwt_join (s : List Mes) : ∀ (d : Nat) (root : Int) (a b : M d), rightB s d root a = true → rightB s d root b = true → mwt d (joinM s d root a b) ≤ mwt d a + mwt d b
  | 0, _, a, _, _, _ => a.elim
  | d + 1, root, a, b, ha, hb => by
    obtain ⟨oa, ra⟩ := right_vals2 ha
    obtain ⟨ob, rb⟩ := right_vals2 hb
    have key := joinV_sum (vwt (mwt d)) (g := fun w v => bothV (joinM s d) ((s.getD root.toNat .zero).fields.getD (fieldAt (s.getD root.toNat .zero).fields v.num).toNat .zero) w v) (fun _ _ => bothV_num _ _ _ _) ra rb (fun w hw v hv e => by
      obtain ⟨-, -, -, fw⟩ := oa.at' w hw
      obtain ⟨-, -, -, fv⟩ := ob.at' v hv
      unfold qOf at fw fv
      rw [e] at fw
      exact vwt_both fw fv fun x y hx hy => mwt_join s d _ x y hx hy)
    show 1 + twt (M.unk a ++ M.unk b) + _ ≤ (1 + twt (M.unk a) + _) + (1 + twt (M.unk b) + _)
    rw [twt_app2]
    have h2 : ((M.vals (d := d) (joinM s (d + 1) root a b)).map (vwt (mwt d))).sum ≤ ((M.vals a).map (vwt (mwt d))).sum + ((M.vals b).map (vwt (mwt d))).sum := key
    omega
end Go.Proofs.YtbdeclkccchnoaaGreat
namespace Go.Proofs.YtbdeclkccchnoaaGreat
open Go.RowKit Go.Shelf
theorem may_two {w : World} {g : Nat} {s : List Mes} {root : Int} {v1 v2 u1 u2 : Value} {d : Nat} {x y : M d} {T : TypeId} (hb : Blk w g [v1, v2, u1, u2] T) (hx : MsgAt d w (.agg #[v1, v2]) x) (hy : MsgAt d w (.agg #[u1, u2]) y) (hw : mwt d x ≤ 1099511627776) (hw' : mwt d y ≤ 1099511627776) : MayAt w s root g [rightB s d root x, rightB s d root y] := by
  intro i r hi
  match i, hi with
  | 0, hi =>
    simp at hi
    subst hi
    exact ⟨v1, v2, d, x, by simpa using hb.cell 0 _ rfl, by simpa using hb.cell 1 _ rfl, hx, hw, rfl⟩
  | 1, hi =>
    simp at hi
    subst hi
    exact ⟨u1, u2, d, y, by simpa using hb.cell 2 _ rfl, by simpa using hb.cell 3 _ rfl, hy, hw', rfl⟩
  | i + 2, hi => simp at hi
set_option maxRecDepth 100000 in
set_option maxHeartbeats 8000000 in
theorem alg_Join {w : World} {sv v u : Value} {s : List Mes} {d : Nat} {x y : M d} (hS : SchemaAt w sv s) (root : Int) (hx : MsgAt d w v x) (hy : MsgAt d w u y) (hwx : mwt d x ≤ 536870912) (hwy : mwt d y ≤ 536870912) :
    Calls Tryz.prog 9 #[sv, .int .i64 root, v, u] w (AnsPost w d (mayAll s root [rightB s d root x, rightB s d root y]) (joinM s d root x y)) := by
  obtain ⟨a1, n1, c1, a2, n2, c2, rfl⟩ := hx.form
  obtain ⟨b1, m1, k1, b2, m2, k2, rfl⟩ := hy.form
  obtain ⟨X, HX⟩ : ∃ X, Hid (X = w.heap.size) := ⟨_, rfl⟩
  have hS2 := hS
  obtain ⟨-, sa, sc, rfl, -⟩ := hS2.open
  obtain ⟨sn, HSN⟩ : ∃ n, Hid (n = s.length) := ⟨_, rfl⟩
  rw [← HSN.out] at hS hS2 ⊢
  obtain ⟨W1, HW1⟩ : ∃ W, Hid (W = ((w.alloc (.cells #[.slice a1 n1 c1, .slice a2 n2 c2] 27)).alloc (.cells #[.slice b1 m1 k1, .slice b2 m2 k2] 27)).alloc (.cells #[.slice none 0 0, .slice none 0 0] 27)) := ⟨_, rfl⟩
  have hx1 : Blk W1 X [.slice a1 n1 c1, .slice a2 n2 c2] 27 := by rw [HW1.out, HX.out]; exact ((Blk.new w [.slice a1 n1 c1, .slice a2 n2 c2] _).alloc _).alloc _
  have hy1 : Blk W1 (X + 1) [.slice b1 m1 k1, .slice b2 m2 k2] 27 := by rw [HW1.out, HX.out]; exact (Blk.new' _ [.slice b1 m1 k1, .slice b2 m2 k2] _ _ (by simp)).alloc _
  have hr1 : Blk W1 (X + 1 + 1) [.slice none 0 0, .slice none 0 0] 27 := by rw [HW1.out, HX.out]; exact Blk.new' _ [.slice none 0 0, .slice none 0 0] _ _ (by simp)
  have hb1 : Below w.heap.size w W1 := by rw [HW1.out]; (repeat (first | with_reducible exact Below.refl _ _ | with_reducible refine Below.setCell ?_ (by first | omega | (simp; omega) | (simp; done)) _ | with_reducible refine Below.alloc ?_ (by first | omega | (simp; omega) | (simp; done)) _ | with_reducible refine below_drewN ?_ _ | with_reducible refine Below.drew ?_))
  obtain ⟨W2, HW2⟩ : ∃ W, Hid (W = W1.alloc (.cells #[.slice a1 n1 c1, .slice a2 n2 c2, .slice b1 m1 k1, .slice b2 m2 k2] 27)) := ⟨_, rfl⟩
  obtain ⟨G, HG⟩ : ∃ G, Hid (G = W1.heap.size) := ⟨_, rfl⟩
  have hb12 : Below W1.heap.size W1 W2 := by rw [HW2.out]; exact (Below.refl _ _).alloc (Nat.le_refl _) _
  have hg2 : Blk W2 G [.slice a1 n1 c1, .slice a2 n2 c2, .slice b1 m1 k1, .slice b2 m2 k2] 27 := by rw [HW2.out, HG.out]; exact Blk.new W1 [.slice a1 n1 c1, .slice a2 n2 c2, .slice b1 m1 k1, .slice b2 m2 k2] _
  have hb2 := hb1.trans (hb12.mono hb1.size)
  obtain ⟨code, HC⟩ : ∃ c, Hid (c = mayAll s root [rightB s d root x, rightB s d root y]) := ⟨_, rfl⟩
  have HMAY := hid (alg_may (hS.below hb2) root (may_two (s := s) (root := root) hg2 (hx.below hb2) (hy.below hb2) (by omega) (by omega)) (n := 2) (c := 2) rfl (by decide))
  rw [← HC.out] at HMAY ⊢
  have hc12 : code ≤ 12 := by rw [HC.out]; exact may_small _ _ _
  have HB2 := hid hb2
  have HXB := hid (And.intro (hx1.below hb12) (And.intro (hy1.below hb12) (hr1.below hb12)))
  have HS0 := hid hS
  have HXM := hid (And.intro hx hy)
  have HWT := hid (And.intro hwx hwy)
  obtain ⟨Q, HQ⟩ : ∃ Q : Ending → World → Prop, Hid (Q = AnsPost w d code (joinM s d root x y)) := ⟨_, rfl⟩
  rw [← HQ.out]
  have k0 := hx1.cell 0 _ rfl
  have k1 := hx1.cell 1 _ rfl
  have kl := hx1.lt
  have l0 := hy1.cell 0 _ rfl
  have l1 := hy1.cell 1 _ rfl
  have ll := hy1.lt
  clear hx1 hy1 hr1 hb1 hb12 hg2 hb2 hS hS2 hx hy hwx hwy
  go_enter Tryz.func9, Tryz.ntmps9
  go_upto_region 1 with fail
  rw [← HW1.out, ← HX.out]
  go_wp2_with fail
  rw [← HW2.out, ← HG.out]
  refine HMAY.out.mono ?_
  rintro e w3 ⟨rfl, hb3⟩
  have HB3 := hid (HB2.out.trans (hb3.mono HB2.out.size))
  have HX3 := hid (And.intro (HXB.out.1.below hb3) (And.intro (HXB.out.2.1.below hb3) (HXB.out.2.2.below hb3)))
  clear k0 k1 kl l0 l1 ll
  have k0 := HX3.out.1.cell 0 _ rfl
  have k1 := HX3.out.1.cell 1 _ rfl
  have kl := HX3.out.1.lt
  have l0 := HX3.out.2.1.cell 0 _ rfl
  have l1 := HX3.out.2.1.cell 1 _ rfl
  have ll := HX3.out.2.1.lt
  clear hb3 HMAY HXB
  by_cases h0 : code = 0
  · subst h0
    obtain ⟨g1, g2, g3, g4⟩ := may_zero HC.out.symm
    obtain ⟨r, rfl⟩ : ∃ r : Nat, root = r := ⟨root.toNat, by omega⟩
    have hrt : rightB s d (r : Int) x = true ∧ rightB s d (r : Int) y = true := by simpa using g4
    have HP := hid (alg_join HS0.out d r w3 _ _ x y (by omega) HB3.out HXM.out.1 HXM.out.2 hrt.1 hrt.2 HWT.out.1 HWT.out.2)
    obtain ⟨z, HY⟩ : ∃ z, Hid (z = joinM s d r x y) := ⟨_, rfl⟩
    rw [← HY.out] at HP
    have HYW : Hid (mwt d z ≤ 1099511627776) := by
      have h1 := mwt_join s d r x y hrt.1 hrt.2
      rw [← HY.out] at h1
      have := HWT.out
      show _ ≤ _
      omega
    rw [← HY.out] at HQ
    clear g1 g2 g3 g4 hrt HC hc12
    go_wp2_with fail
    refine HP.out.mono ?_
    rintro e w4 ⟨v4, rfl, hb4, hap4⟩
    have hM4 := hap4.here
    obtain ⟨p1, q1, o1, p2, q2, o2, rfl⟩ := hM4.form
    have HCP := hid (tree_Copy (w0 := w4) d w4 _ z (Below.refl _ _) hM4 HYW.out)
    have HB4 := hid (HB3.out.trans (hb4.mono HB3.out.size))
    have HR4 := hid (HX3.out.2.2.below hb4)
    clear hb4 hap4 hM4 k0 k1 kl l0 l1 ll HX3
    go_wp2_with fail
    refine HCP.out.mono ?_
    rintro e w5 ⟨v5, rfl, hb5, hap5⟩
    obtain ⟨s1, t1, u1, s2, t2, u2, rfl⟩ := hap5.here.form
    have HB5 := hid (HB4.out.trans (hb5.mono HB4.out.size))
    have hr5 := HR4.out.below hb5
    have hlt4 := HR4.out.lt
    have r0 := hr5.cell 0 _ rfl
    have r1 := hr5.cell 1 _ rfl
    have f0 := hr5.free 0
    have f1 := hr5.free 1
    have rl := hr5.lt
    have z1 := hr5.set 0 (.slice s1 t1 u1)
    have z2 := z1.set 1 (.slice s2 t2 u2)
    have q0 := z2.cell 0 _ rfl
    have q1' := z2.cell 1 _ rfl
    have HE : Hid (Q (.returned (.tuple #[.agg #[.slice s1 t1 u1, .slice s2 t2 u2], .int .u8 0])) ((w5.setCell ⟨X + 1 + 1, 0, none⟩ (.slice s1 t1 u1)).setCell ⟨X + 1 + 1, 1, none⟩ (.slice s2 t2 u2))) := by
      rw [HQ.out]
      refine ⟨(HB5.out.setCell (by rw [HX.out]; show w.heap.size ≤ w.heap.size + 1 + 1; omega) _).setCell (by rw [HX.out]; show w.heap.size ≤ w.heap.size + 1 + 1; omega) _, fun h => absurd rfl h, fun _ => ⟨_, _, _, _, _, _, rfl, ?_⟩⟩
      intro w2 hw2
      refine hap5 _ fun b hb hc => ?_
      have hne : b ≠ X + 1 + 1 := by omega
      have h4 := HB4.out.size
      rw [hw2 b (by simpa using hb) (.inr (by omega)), Below.heap_setCell _ _ _ b hne, Below.heap_setCell _ _ _ b hne]
    clear hr5 z1 z2 hap5 hb5 hlt4 HCP HP
    go_wp2_with fail
    refine bodyPost_ret (v := .tuple #[.agg #[.slice s1 t1 u1, .slice s2 t2 u2], .int .u8 0]) ?_ rfl HE.out
    simp [results, Tryz.results9, go_sem, q0, q1']
  · have hne : ((code : Int) != 0) = true := by simpa using h0
    have hr3 := HX3.out.2.2
    have r0 := hr3.cell 0 _ rfl
    have r1 := hr3.cell 1 _ rfl
    have f0 := hr3.free 0
    have f1 := hr3.free 1
    have rl := hr3.lt
    have z1 := hr3.set 0 (.slice none 0 0)
    have z2 := z1.set 1 (.slice none 0 0)
    have q0 := z2.cell 0 _ rfl
    have q1' := z2.cell 1 _ rfl
    have HE : Hid (Q (.returned (.tuple #[.agg #[.slice none 0 0, .slice none 0 0], .int .u8 (code : Int)])) ((w3.setCell ⟨X + 1 + 1, 0, none⟩ (.slice none 0 0)).setCell ⟨X + 1 + 1, 1, none⟩ (.slice none 0 0))) := by
      rw [HQ.out]
      exact ⟨(HB3.out.setCell (by rw [HX.out]; show w.heap.size ≤ w.heap.size + 1 + 1; omega) _).setCell (by rw [HX.out]; show w.heap.size ≤ w.heap.size + 1 + 1; omega) _, fun _ => rfl, fun h => absurd h h0⟩
    clear hr3 z1 z2 HX3 HC h0
    go_wp2_with fail
    refine bodyPost_ret (v := .tuple #[.agg #[.slice none 0 0, .slice none 0 0], .int .u8 (code : Int)]) ?_ rfl HE.out
    simp [results, Tryz.results9, go_sem, q0, q1']
end Go.Proofs.YtbdeclkccchnoaaGreat
namespace Go.Proofs.YtbdeclkccchnoaaGreat
open Go.RowKit
theorem fits_of {α : Type} {R : Int → α → Bool} {f : Fld} {x : Val α} (h0 : 0 < many x) (h1 : f.rep = false → many x ≤ 1)
    (h : (knumber f.kind = true ∧ x.texts = [] ∧ x.subs = [] ∧ ∀ w ∈ x.words, kcanon f.kind w = w) ∨ (f.kind = 17 ∧ x.words = [] ∧ x.texts = [] ∧ ∀ y ∈ x.subs, R f.of y = true) ∨
     (knumber f.kind = false ∧ f.kind ≠ 17 ∧ (f.kind = 15 ∨ f.kind = 16) ∧ x.words = [] ∧ x.subs = [] ∧ (f.kind = 15 → ∀ t ∈ x.texts, ufirst t = t.length))) : fitsB R f x = true := by
  unfold many at h0 h1
  unfold fitsB
  rw [if_neg (by
    rintro (e | ⟨e, er⟩)
    · omega
    · have := h1 er; omega)]
  rcases h with ⟨hk, ht, hs, hw⟩ | ⟨hk, hw, ht, hs⟩ | ⟨hn, hk, hk2, hw, hs, ht⟩
  · rw [if_pos hk]
    simp only [Bool.and_eq_true, decide_eq_true_eq, List.all_eq_true]
    exact ⟨by rw [ht, hs]; simp, hw⟩
  · rw [if_neg (by rw [hk]; decide), if_pos hk]
    simp only [Bool.and_eq_true, decide_eq_true_eq, List.all_eq_true]
    exact ⟨by rw [hw, ht]; simp, hs⟩
  · rw [if_neg (by rw [hn]; decide), if_neg hk]
    rcases hk2 with hk2 | hk2
    · rw [if_pos hk2]
      simp only [Bool.and_eq_true, decide_eq_true_eq, List.all_eq_true]
      exact ⟨by rw [hw, hs]; simp, ht hk2⟩
    · rw [if_neg (by omega)]
      simp only [Bool.and_eq_true, decide_eq_true_eq]
      exact ⟨hk2, by rw [hw, hs]; simp⟩
theorem fits_both {α : Type} {R : Int → α → Bool} {J : Int → α → α → α} {f : Fld} {w v : Val α} (hw : fitsB R f w = true) (hv : fitsB R f v = true) (hJ : ∀ x y, R f.of x = true → R f.of y = true → R f.of (J f.of x y) = true) : fitsB R f (bothV J f w v) = true := by
  unfold bothV
  by_cases hr : f.rep = true
  · rw [if_pos hr]
    obtain ⟨a0, a1, a2⟩ := fits_cases hw
    obtain ⟨b0, b1, b2⟩ := fits_cases hv
    refine fits_of (by unfold many at a0 ⊢; simp only [List.length_append]; omega) (fun e => by rw [hr] at e; cases e) ?_
    rcases a2 with ⟨hk, ht, hs, hw'⟩ | ⟨hk, hw', ht, hs⟩ | ⟨hn, hk, hk2, hw', hs, ht⟩
    · rcases b2 with ⟨-, gt, gs, gw⟩ | ⟨gk, -⟩ | ⟨gn, -⟩
      · exact .inl ⟨hk, by simp [ht, gt], by simp [hs, gs], fun z hz => (List.mem_append.1 hz).elim (hw' z) (gw z)⟩
      · rw [gk] at hk; exact absurd hk (by decide)
      · rw [gn] at hk; cases hk
    · rcases b2 with ⟨gk, -⟩ | ⟨-, gw, gt, gs⟩ | ⟨-, gk, -⟩
      · rw [hk] at gk; exact absurd gk (by decide)
      · exact .inr (.inl ⟨hk, by simp [hw', gw], by simp [ht, gt], fun z hz => (List.mem_append.1 hz).elim (hs z) (gs z)⟩)
      · exact absurd hk gk
    · rcases b2 with ⟨gk, -⟩ | ⟨gk, -⟩ | ⟨-, -, -, gw, gs, gt⟩
      · rw [hn] at gk; cases gk
      · exact absurd gk hk
      · exact .inr (.inr ⟨hn, hk, hk2, by simp [hw', gw], by simp [hs, gs], fun e z hz => (List.mem_append.1 hz).elim (ht e z) (gt e z)⟩)
  · rw [if_neg hr]
    by_cases hk : f.kind = 17
    · rw [if_pos hk]
      obtain ⟨x, hx, hrx⟩ := fits_sub hw hk (by simpa using hr)
      obtain ⟨y, hy, hry⟩ := fits_sub hv hk (by simpa using hr)
      rw [hx, hy]
      refine fits_of (by simp [many]) (fun _ => by simp [many]) (.inr (.inl ⟨hk, rfl, rfl, fun z hz => ?_⟩))
      simp at hz
      subst hz
      exact hJ x y hrx hry
    · rw [if_neg hk]; exact hv
theorem valsB_of {α : Type} {F : Fld → Val α → Bool} {fs : List Fld} : ∀ {l : List (Val α)} {last : Int}, RiseV l → (∀ v ∈ l, last < v.num ∧ 0 ≤ fieldAt fs v.num ∧ F (fs.getD (fieldAt fs v.num).toNat .zero) v = true) → valsB F fs l last = true
  | [], _, _, _ => rfl
  | x :: r, last, hr, h => by
    obtain ⟨h1, h2⟩ := hr.tail
    obtain ⟨g1, g2, g3⟩ := h x (by simp)
    unfold valsB
    rw [if_neg (by
      rintro (e | e | e)
      · omega
      · omega
      · rw [g3] at e; cases e)]
    exact valsB_of h1 fun v hv => ⟨h2 v hv, (h v (by simp [hv])).2⟩
theorem joinV_mem {α : Type} {g : Val α → Val α → Val α} {a b : List (Val α)} {x : Val α} (h : x ∈ joinV g a b) : x ∈ a ∨ ∃ v ∈ b, x = withV g a v := by
  have key : ∀ (b out : List (Val α)), x ∈ b.foldl (fun out v => putV (withV g a v) out) out → x ∈ out ∨ ∃ v ∈ b, x = withV g a v := by
    intro b
    induction b with
    | nil => intro out h; exact .inl h
    | cons v r ih =>
      intro out h
      rcases ih _ h with h | ⟨u, hu, e⟩
      · rcases putV_mem h with e | h
        · exact .inr ⟨v, by simp, e⟩
        · exact .inl h
      · exact .inr ⟨u, by simp [hu], e⟩
  exact key b a h
theorem right_join (s : List Mes) : ∀ (d : Nat) (root : Int) (a b : M d), rightB s d root a = true → rightB s d root b = true → rightB s d root (joinM s d root a b) = true
  | 0, _, a, _, _, _ => a.elim
  | d + 1, root, a, b, ha, hb => by
    have ha' := ha
    have hb' := hb
    unfold rightB at ha' hb'
    by_cases h0 : root < 0 ∨ (s.length : Int) ≤ root
    · rw [if_pos h0] at ha'; cases ha'
    rw [if_neg h0, Bool.and_eq_true] at ha' hb'
    obtain ⟨oa, pa⟩ := valsOk_of ha'.1
    obtain ⟨ob, pb⟩ := valsOk_of hb'.1
    unfold rightB
    rw [if_neg h0, Bool.and_eq_true]
    refine ⟨?_, ?_⟩
    · show valsB _ _ (joinV (fun w v => bothV (joinM s d) ((s.getD root.toNat .zero).fields.getD (fieldAt (s.getD root.toNat .zero).fields v.num).toNat .zero) w v) (M.vals a) (M.vals b)) 0 = true
      refine valsB_of (joinV_rise _ oa.rise) fun x hx => ?_
      rcases joinV_mem hx with hx | ⟨v, hv, rfl⟩
      · obtain ⟨q0, -, -, q3⟩ := oa.at' x hx
        exact ⟨pa x hx, q0, q3⟩
      · obtain ⟨q0, -, -, q3⟩ := ob.at' v hv
        unfold withV
        cases hg : getV (M.vals a) v.num with
        | none => exact ⟨pb v hv, q0, q3⟩
        | some w =>
          obtain ⟨e, hw⟩ := getV_num hg
          obtain ⟨-, -, -, q4⟩ := oa.at' w hw
          unfold qOf at q3 q4 q0
          rw [e] at q4
          simp only [bothV_num]
          exact ⟨pb v hv, q0, fits_both q4 q3 fun x y hx hy => right_join s d _ x y hx hy⟩
    · show (M.unk a ++ M.unk b).all _ = true
      rw [List.all_append, Bool.and_eq_true]
      exact ⟨ha'.2, hb'.2⟩
end Go.Proofs.YtbdeclkccchnoaaGreat
namespace Go.Proofs.YtbdeclkccchnoaaGreat
open Go.RowKit
theorem vput_mono : ∀ (y x : Nat), x ≤ y → (vput x).length ≤ (vput y).length := by
  intro y
  induction y using Nat.strongRecOn with
  | ind y ih =>
    intro x hxy
    by_cases hx : x < 128
    · rw [vput_small hx]
      exact vput_pos y
    · rw [vput_big hx, vput_big (x := y) (by omega), List.length_cons, List.length_cons]
      have := ih (y / 128) (by omega) (x / 128) (Nat.div_le_div_right hxy)
      omega
theorem vput_add : ∀ (n x y : Nat), x + y ≤ n → (vput (x + y)).length ≤ (vput x).length + (vput y).length := by
  intro n
  induction n using Nat.strongRecOn with
  | ind n ih =>
    intro x y hn
    have px := vput_pos x
    have py := vput_pos y
    by_cases hs : x + y < 128
    · rw [vput_small hs, List.length_singleton]; omega
    · rw [vput_big hs, List.length_cons]
      have hd : (x + y) / 128 ≤ x / 128 + y / 128 + 1 := by omega
      have hm := vput_mono _ _ hd
      by_cases hx : x < 128
      · by_cases hy : y < 128
        · have e : (x + y) / 128 < 128 := by omega
          rw [vput_small e, List.length_singleton]; omega
        · rw [vput_big hy, List.length_cons]
          have hz : x / 128 = 0 := by omega
          rw [hz, Nat.zero_add] at hm
          have h1 := ih (y / 128 + 1) (by omega) (y / 128) 1 (Nat.le_refl _)
          rw [vput_small (x := 1) (by omega), List.length_singleton] at h1
          omega
      · by_cases hy : y < 128
        · rw [vput_big hx, List.length_cons]
          have hz : y / 128 = 0 := by omega
          rw [hz, Nat.add_zero] at hm
          have h1 := ih (x / 128 + 1) (by omega) (x / 128) 1 (Nat.le_refl _)
          rw [vput_small (x := 1) (by omega), List.length_singleton] at h1
          omega
        · rw [vput_big hx, vput_big hy, List.length_cons, List.length_cons]
          have h1 := ih (x / 128 + y / 128 + 1) (by omega) (x / 128 + y / 128) 1 (Nat.le_refl _)
          have h2 := ih (x / 128 + y / 128) (by omega) (x / 128) (y / 128) (Nat.le_refl _)
          rw [vput_small (x := 1) (by omega), List.length_singleton] at h1
          omega
theorem rput2_len (n : Int) (l : List UInt8) : (rput n 2 l).length = (vput (8 * n + 2).toNat).length + ((vput l.length).length + l.length) := by
  unfold rput
  rw [if_pos rfl, List.length_append, List.length_append]
theorem flatJ_len {α : Type} (g : α → List UInt8) (a b : List α) : ((a ++ b).flatMap g).length = (a.flatMap g).length + (b.flatMap g).length := by
  rw [List.flatMap_append, List.length_append]
theorem encV_both {α : Type} {E : Int → α → List UInt8} {R : Int → α → Bool} {J : Int → α → α → α} {f : Fld} {w v : Val α} (hw : fitsB R f w = true) (hv : fitsB R f v = true) (hJ : ∀ x y, R f.of x = true → R f.of y = true → (E f.of (J f.of x y)).length ≤ (E f.of x).length + (E f.of y).length) :
    (encV E f (bothV J f w v)).length ≤ (encV E f w).length + (encV E f v).length := by
  unfold bothV
  by_cases hr : f.rep = true
  · rw [if_pos hr]
    unfold encV
    by_cases hk : knumber f.kind = true
    · simp only [if_pos hk, if_pos hr, rput2_len, kpack, flatJ_len]
      have := vput_add _ (w.words.flatMap (kput f.kind)).length (v.words.flatMap (kput f.kind)).length (Nat.le_refl _)
      omega
    · simp only [if_neg hk, List.length_append, flatJ_len]
      omega
  · rw [if_neg hr]
    by_cases hk : f.kind = 17
    · rw [if_pos hk]
      obtain ⟨x, hx, hrx⟩ := fits_sub hw hk (by simpa using hr)
      obtain ⟨y, hy, hry⟩ := fits_sub hv hk (by simpa using hr)
      have h1 := hJ x y hrx hry
      have hn : ¬ knumber f.kind = true := by rw [hk]; decide
      unfold encV
      simp only [if_neg hn, hx, hy, List.zip_cons_cons, List.zip_nil_left, List.take_succ_cons, List.take_zero, List.map_cons, List.map_nil, List.flatMap_cons, List.flatMap_nil, List.nil_append, List.append_nil, List.length_append, rput2_len]
      have h2 := vput_mono _ _ h1
      have h3 := vput_add _ (E f.of x).length (E f.of y).length (Nat.le_refl _)
      omega
    · rw [if_neg hk]; omega
theorem flat_len_sum {α : Type} (g : α → List UInt8) (l : List α) : (l.flatMap g).length = (l.map fun x => (g x).length).sum := by
  induction l with
  | nil => rfl
  | cons x r ih => rw [List.flatMap_cons, List.length_append, List.map_cons, List.sum_cons, ih]
theorem enc_join (s : List Mes) : ∀ (d : Nat) (root : Int) (a b : M d), rightB s d root a = true → rightB s d root b = true → (encM s d root (joinM s d root a b)).length ≤ (encM s d root a).length + (encM s d root b).length
  | 0, _, a, _, _, _ => a.elim
  | d + 1, root, a, b, ha, hb => by
    obtain ⟨oa, ra⟩ := right_vals2 ha
    obtain ⟨ob, rb⟩ := right_vals2 hb
    have key := joinV_sum (fun v => (encV (encM s d) ((s.getD root.toNat .zero).fields.getD (fieldAt (s.getD root.toNat .zero).fields v.num).toNat .zero) v).length) (g := fun w v => bothV (joinM s d) ((s.getD root.toNat .zero).fields.getD (fieldAt (s.getD root.toNat .zero).fields v.num).toNat .zero) w v) (fun _ _ => bothV_num _ _ _ _) ra rb (fun w hw v hv e => by
      obtain ⟨-, -, -, fw⟩ := oa.at' w hw
      obtain ⟨-, -, -, fv⟩ := ob.at' v hv
      unfold qOf at fw fv
      rw [e] at fw
      simp only [bothV_num]
      rw [e]
      exact encV_both fw fv fun x y hx hy => enc_join s d _ x y hx hy)
    have k2 : ((joinV (fun w v => bothV (joinM s d) ((s.getD root.toNat .zero).fields.getD (fieldAt (s.getD root.toNat .zero).fields v.num).toNat .zero) w v) (M.vals a) (M.vals b)).flatMap (fun v => encV (encM s d) ((s.getD root.toNat .zero).fields.getD (fieldAt (s.getD root.toNat .zero).fields v.num).toNat .zero) v)).length ≤ ((M.vals a).flatMap (fun v => encV (encM s d) ((s.getD root.toNat .zero).fields.getD (fieldAt (s.getD root.toNat .zero).fields v.num).toNat .zero) v)).length + ((M.vals b).flatMap (fun v => encV (encM s d) ((s.getD root.toNat .zero).fields.getD (fieldAt (s.getD root.toNat .zero).fields v.num).toNat .zero) v)).length := by
      rw [flat_len_sum, flat_len_sum, flat_len_sum]
      exact key
    have e0 : encM s (d + 1) root (joinM s (d + 1) root a b) = (joinV (fun w v => bothV (joinM s d) ((s.getD root.toNat .zero).fields.getD (fieldAt (s.getD root.toNat .zero).fields v.num).toNat .zero) w v) (M.vals a) (M.vals b)).flatMap (fun v => encV (encM s d) ((s.getD root.toNat .zero).fields.getD (fieldAt (s.getD root.toNat .zero).fields v.num).toNat .zero) v) ++ (M.unk a ++ M.unk b).flatMap id := rfl
    have e1 : encM s (d + 1) root a = (M.vals a).flatMap (fun v => encV (encM s d) ((s.getD root.toNat .zero).fields.getD (fieldAt (s.getD root.toNat .zero).fields v.num).toNat .zero) v) ++ (M.unk a).flatMap id := rfl
    have e2 : encM s (d + 1) root b = (M.vals b).flatMap (fun v => encV (encM s d) ((s.getD root.toNat .zero).fields.getD (fieldAt (s.getD root.toNat .zero).fields v.num).toNat .zero) v) ++ (M.unk b).flatMap id := rfl
    rw [e0, e1, e2, List.length_append, List.length_append, List.length_append, flatJ_len]
    omega
/-! What is alike, joined. -/
theorem sameJ_open {α β : Type} {S : α → β → Bool} {x : Val α} {y : Val β} (h : sameV S x y = true) : x.num = y.num ∧ x.words = y.words ∧ x.texts = y.texts ∧ all2 S x.subs y.subs = true := by
  unfold sameV at h
  rw [Bool.and_eq_true, decide_eq_true_eq] at h
  exact ⟨h.1.1, h.1.2.1, h.1.2.2, h.2⟩
theorem sameJ_mk {α β : Type} {S : α → β → Bool} {x : Val α} {y : Val β} (h1 : x.num = y.num) (h2 : x.words = y.words) (h3 : x.texts = y.texts) (h4 : all2 S x.subs y.subs = true) : sameV S x y = true := by
  unfold sameV
  rw [Bool.and_eq_true, decide_eq_true_eq]
  exact ⟨⟨h1, h2, h3⟩, h4⟩
theorem all2_app {α β : Type} {S : α → β → Bool} : ∀ {a : List α} {b : List β} {c : List α} {e : List β}, all2 S a b = true → all2 S c e = true → all2 S (a ++ c) (b ++ e) = true
  | [], [], _, _, _, h => h
  | x :: r, y :: t, _, _, g, h => by
    rw [all2, Bool.and_eq_true] at g
    rw [List.cons_append, List.cons_append, all2, g.1, all2_app g.2 h]; rfl
  | [], _ :: _, _, _, g, _ => by simp [all2] at g
  | _ :: _, [], _, _, g, _ => by simp [all2] at g
theorem all2_zip {α β : Type} {S : α → β → Bool} {J : α → α → α} {K : β → β → β} (h : ∀ x y p q, S x p = true → S y q = true → S (J x y) (K p q) = true) : ∀ {a c : List α} {b e : List β}, all2 S a b = true → all2 S c e = true → all2 S (((a.zip c).take 1).map fun p => J p.1 p.2) (((b.zip e).take 1).map fun p => K p.1 p.2) = true
  | [], _, [], _, _, _ => rfl
  | x :: r, [], p :: t, [], _, _ => rfl
  | x :: r, y :: u, p :: t, q :: v, g, h' => by
    rw [all2, Bool.and_eq_true] at g h'
    show all2 S [J x y] [K p q] = true
    rw [all2, h _ _ _ _ g.1 h'.1]; rfl
  | [], _, _ :: _, _, g, _ => by simp [all2] at g
  | _ :: _, _, [], _, g, _ => by simp [all2] at g
  | _ :: _, [], _ :: _, _ :: _, _, h' => by simp [all2] at h'
  | _ :: _, _ :: _, _ :: _, [], _, h' => by simp [all2] at h'
theorem same_getV {α β : Type} {S : α → β → Bool} : ∀ {a : List (Val α)} {b : List (Val β)}, all2 (sameV S) a b = true → ∀ n, (getV a n = none ∧ getV b n = none) ∨ ∃ x y, getV a n = some x ∧ getV b n = some y ∧ sameV S x y = true
  | [], [], _, n => .inl ⟨rfl, rfl⟩
  | x :: r, y :: t, g, n => by
    rw [all2, Bool.and_eq_true] at g
    have hn := (sameJ_open g.1).1
    rw [getV_cons, getV_cons]
    by_cases e : x.num = n
    · rw [if_pos e, if_pos (by omega)]
      exact .inr ⟨x, y, rfl, rfl, g.1⟩
    · rw [if_neg e, if_neg (by omega)]
      exact same_getV g.2 n
  | [], _ :: _, g, _ => by simp [all2] at g
  | _ :: _, [], g, _ => by simp [all2] at g
theorem same_putV {α β : Type} {S : α → β → Bool} {v : Val α} {u : Val β} (h : sameV S v u = true) : ∀ {a : List (Val α)} {b : List (Val β)}, all2 (sameV S) a b = true → all2 (sameV S) (putV v a) (putV u b) = true
  | [], [], _ => by unfold putV; rw [all2, h]; rfl
  | x :: r, y :: t, g => by
    rw [all2, Bool.and_eq_true] at g
    have hn := (sameJ_open g.1).1
    have hv := (sameJ_open h).1
    unfold putV
    by_cases h1 : x.num < v.num
    · rw [if_pos h1, if_pos (show y.num < u.num by omega), all2, g.1, same_putV h g.2]; rfl
    · rw [if_neg h1, if_neg (show ¬ y.num < u.num by omega)]
      by_cases h2 : x.num = v.num
      · rw [if_pos h2, if_pos (show y.num = u.num by omega), all2, h, g.2]; rfl
      · rw [if_neg h2, if_neg (show ¬ y.num = u.num by omega), all2, all2, h, g.1, g.2]; rfl
  | [], _ :: _, g => by simp [all2] at g
  | _ :: _, [], g => by simp [all2] at g
theorem same_joinV {α β : Type} {S : α → β → Bool} {G : Val α → Val α → Val α} {H : Val β → Val β → Val β} (h : ∀ w v p q, sameV S w p = true → sameV S v q = true → w.num = v.num → sameV S (G w v) (H p q) = true) {a : List (Val α)} {b : List (Val β)} (hab : all2 (sameV S) a b = true) :
    ∀ {c : List (Val α)} {e : List (Val β)}, all2 (sameV S) c e = true → all2 (sameV S) (joinV G a c) (joinV H b e) = true := by
  have key : ∀ (c : List (Val α)) (e : List (Val β)) (o : List (Val α)) (p : List (Val β)), all2 (sameV S) c e = true → all2 (sameV S) o p = true → all2 (sameV S) (c.foldl (fun out v => putV (withV G a v) out) o) (e.foldl (fun out v => putV (withV H b v) out) p) = true := by
    intro c
    induction c with
    | nil =>
      intro e o p g ho
      cases e with
      | nil => exact ho
      | cons y t => simp [all2] at g
    | cons x r ih =>
      intro e o p g ho
      cases e with
      | nil => simp [all2] at g
      | cons y t =>
        rw [all2, Bool.and_eq_true] at g
        rw [List.foldl_cons, List.foldl_cons]
        refine ih t _ _ g.2 (same_putV ?_ ho)
        have hn := (sameJ_open g.1).1
        unfold withV
        rcases same_getV hab x.num with ⟨h1, h2⟩ | ⟨w, q, h1, h2, h3⟩
        · rw [h1, ← hn, h2]; exact g.1
        · rw [h1, ← hn, h2]
          exact h w x q y h3 g.1 (getV_num h1).1
  intro c e g
  exact key c e a b g hab
theorem join_same (s : List Mes) : ∀ (a b : Nat) (root : Int) (x y : M a) (p q : M b), sameB a b x p = true → sameB a b y q = true → sameB a b (joinM s a root x y) (joinM s b root p q) = true
  | 0, _, _, x, _, _, _, _, _ => Empty.elim x
  | _ + 1, 0, _, _, _, p, _, _, _ => Empty.elim p
  | a + 1, b + 1, root, x, y, p, q, h, g => by
    unfold sameB at h g ⊢
    rw [Bool.and_eq_true, decide_eq_true_eq] at h g ⊢
    refine ⟨?_, ?_⟩
    · show M.unk x ++ M.unk y = M.unk p ++ M.unk q
      rw [h.1, g.1]
    · show all2 (sameV (sameB a b)) (joinV _ (M.vals x) (M.vals y)) (joinV _ (M.vals p) (M.vals q)) = true
      refine same_joinV (fun w v r u hw hv _ => ?_) h.2 g.2
      obtain ⟨w1, w2, w3, w4⟩ := sameJ_open hw
      obtain ⟨v1, v2, v3, v4⟩ := sameJ_open hv
      rw [← v1]
      unfold bothV
      split
      · exact sameJ_mk v1 (by simp [w2, v2]) (by simp [w3, v3]) (all2_app w4 v4)
      · split
        · exact sameJ_mk v1 rfl rfl (all2_zip (fun x y p q h1 h2 => join_same s a b _ x y p q h1 h2) w4 v4)
        · exact hv
end Go.Proofs.YtbdeclkccchnoaaGreat
namespace Go.Proofs.YtbdeclkccchnoaaGreat
open Go.RowKit
structure RecA (s : List Mes) (d : Nat) (f : Fld) (x : AR) : Prop where
  run : x.run = true → f.rep = true ∧ knumber f.kind = true
  sub : f.kind = 17 → SubOk s d f.of x.val
theorem many_zero {α : Type} {v : Val α} (h : many v = 0) : v.words = [] ∧ v.texts = [] ∧ v.subs = [] := by
  unfold many at h
  exact ⟨List.length_eq_zero_iff.1 (by omega), List.length_eq_zero_iff.1 (by omega), List.length_eq_zero_iff.1 (by omega)⟩
theorem sub_flat {s : List Mes} {d : Nat} {o : Int} : ∀ {X : List AR}, X ≠ [] → (∀ x ∈ X, SubOk s d o x.val) → SubOk s d o (X.flatMap AR.val) := by
  intro X hne h
  obtain ⟨x0, hx0⟩ := List.exists_mem_of_ne_nil _ hne
  obtain ⟨d', rfl, -⟩ := h x0 hx0
  refine ⟨d', rfl, ?_⟩
  rw [List.flatMap_def]
  refine vmsg_flat fun b hb => ?_
  obtain ⟨x, hx, rfl⟩ := List.mem_map.1 hb
  obtain ⟨d2, e2, h2⟩ := h x hx
  obtain rfl : d2 = d' := by omega
  exact h2
theorem sub_one_len {s : List Mes} {d : Nat} {o : Int} {b : List UInt8} (h : SubOk s d o b) : ∃ y, tsub s d o b = [y] := by
  obtain ⟨d', rfl, -⟩ := h
  exact ⟨_, rfl⟩
theorem fieldA_rep {α : Type} (sub : Int → List UInt8 → List α) {f : Fld} (hr : f.rep = true) (X : List AR) : fieldA sub f X = ⟨f.number, X.flatMap (arW f), if f.kind = 17 then [] else X.flatMap (arB f), if f.kind = 17 then X.flatMap (fun x => sub f.of x.val) else []⟩ := by
  unfold fieldA counts
  rw [if_pos hr, if_pos hr]
theorem fieldA_17 {s : List Mes} {d : Nat} {f : Fld} (hr : f.rep = false) (hk : f.kind = 17) {X : List AR} (h : ∀ x ∈ X, RecA s d f x) : fieldA (tsub s d) f X = ⟨f.number, [], [], if X = [] then [] else tsub s d f.of (X.flatMap AR.val)⟩ := by
  have hw : ∀ x ∈ counts f X, arW f x = [] := by
    intro x hx
    have hx' := h x (counts_sub f X hx)
    unfold arW
    rw [if_neg (fun e => by have := (hx'.run e).1; rw [hr] at this; cases this), if_neg (by rw [hk]; decide)]
  unfold fieldA
  rw [if_pos hk, if_pos hk, if_neg (by rw [hr]; decide)]
  congr 1
  rw [List.flatMap_eq_nil_iff]
  exact hw
theorem fieldA_last {s : List Mes} {d : Nat} {f : Fld} (hr : f.rep = false) (hk : f.kind ≠ 17) {X : List AR} (h : ∀ x ∈ X, RecA s d f x) {p : List AR} {x : AR} (e : X = p ++ [x]) :
    fieldA (tsub s d) f X = ⟨f.number, arW f x, arB f x, []⟩ ∧ 0 < many (fieldA (tsub s d) f X) := by
  have e1 : fieldA (tsub s d) f X = ⟨f.number, arW f x, arB f x, []⟩ := by
    unfold fieldA counts
    rw [if_neg (by rw [hr]; decide), if_neg hk, if_neg hk, e, lastOf_snoc]
    simp
  refine ⟨e1, ?_⟩
  have hx := h x (by rw [e]; simp)
  have hrun : ¬ x.run = true := fun e => by have := (hx.run e).1; rw [hr] at this; cases this
  rw [e1]
  unfold many arW arB
  by_cases hn : knumber f.kind = true
  · rw [if_neg hrun, if_pos hn]; simp only [List.length_cons, List.length_nil]; omega
  · rw [if_neg hrun, if_neg hn, if_neg (by rintro (e | e); exact hrun e; exact hn e)]; simp
theorem join_field {s : List Mes} {d : Nat} {f : Fld} {J : Int → M d → M d → M d} {A B : List AR} (hA : ∀ x ∈ A, RecA s d f x) (hB : ∀ x ∈ B, RecA s d f x)
    (hJ : ∀ p q x y, SubOk s d f.of p → SubOk s d f.of q → tsub s d f.of p = [x] → tsub s d f.of q = [y] → tsub s d f.of (p ++ q) = [J f.of x y]) :
    (many (fieldA (tsub s d) f B) = 0 → fieldA (tsub s d) f (A ++ B) = fieldA (tsub s d) f A) ∧
    (0 < many (fieldA (tsub s d) f B) → many (fieldA (tsub s d) f A) = 0 → fieldA (tsub s d) f (A ++ B) = fieldA (tsub s d) f B) ∧
    (0 < many (fieldA (tsub s d) f B) → 0 < many (fieldA (tsub s d) f A) → fieldA (tsub s d) f (A ++ B) = bothV J f (fieldA (tsub s d) f A) (fieldA (tsub s d) f B) ∧ 0 < many (fieldA (tsub s d) f (A ++ B))) := by
  have hAB : ∀ x ∈ A ++ B, RecA s d f x := fun x hx => (List.mem_append.1 hx).elim (hA x) (hB x)
  cases hr : f.rep with
  | true =>
    rw [fieldA_rep _ hr, fieldA_rep _ hr, fieldA_rep _ hr]
    refine ⟨fun h => ?_, fun _ h => ?_, fun h _ => ?_⟩
    · obtain ⟨h1, h2, h3⟩ := many_zero h
      simp only at h1 h2 h3
      rw [List.flatMap_append, h1, List.append_nil]
      by_cases hk : f.kind = 17
      · rw [if_pos hk] at h3 ⊢
        rw [if_pos hk, if_pos hk, if_pos hk, List.flatMap_append, h3, List.append_nil]
      · rw [if_neg hk] at h2 ⊢
        rw [if_neg hk, if_neg hk, if_neg hk, List.flatMap_append, h2, List.append_nil]
    · obtain ⟨h1, h2, h3⟩ := many_zero h
      simp only at h1 h2 h3
      rw [List.flatMap_append, h1, List.nil_append]
      by_cases hk : f.kind = 17
      · rw [if_pos hk] at h3 ⊢
        rw [if_pos hk, if_pos hk, if_pos hk, List.flatMap_append, h3, List.nil_append]
      · rw [if_neg hk] at h2 ⊢
        rw [if_neg hk, if_neg hk, if_neg hk, List.flatMap_append, h2, List.nil_append]
    · have e : (⟨f.number, (A ++ B).flatMap (arW f), if f.kind = 17 then [] else (A ++ B).flatMap (arB f), if f.kind = 17 then (A ++ B).flatMap (fun x => tsub s d f.of x.val) else []⟩ : Val (M d)) = bothV J f ⟨f.number, A.flatMap (arW f), if f.kind = 17 then [] else A.flatMap (arB f), if f.kind = 17 then A.flatMap (fun x => tsub s d f.of x.val) else []⟩ ⟨f.number, B.flatMap (arW f), if f.kind = 17 then [] else B.flatMap (arB f), if f.kind = 17 then B.flatMap (fun x => tsub s d f.of x.val) else []⟩ := by
        unfold bothV
        rw [if_pos hr]
        by_cases hk : f.kind = 17
        · simp only [if_pos hk, List.flatMap_append, List.append_nil]
        · simp only [if_neg hk, List.flatMap_append, List.append_nil]
      refine ⟨e, ?_⟩
      unfold many at h ⊢
      by_cases hk : f.kind = 17
      · simp only [if_pos hk, List.flatMap_append, List.length_append, List.length_nil] at h ⊢; omega
      · simp only [if_neg hk, List.flatMap_append, List.length_append, List.length_nil] at h ⊢; omega
  | false =>
    by_cases hk : f.kind = 17
    · rw [fieldA_17 hr hk hA, fieldA_17 hr hk hB, fieldA_17 hr hk hAB]
      by_cases hb : B = []
      · subst hb
        refine ⟨fun _ => by rw [List.append_nil], fun h => ?_, fun h => ?_⟩ <;> simp [many] at h
      · obtain ⟨y, hy⟩ := sub_one_len (sub_flat hb fun x hx => (hB x hx).sub hk)
        rw [if_neg hb, hy]
        refine ⟨fun h => by simp [many] at h, fun _ h => ?_, fun _ h => ?_⟩
        · by_cases ha : A = []
          · subst ha
            rw [List.nil_append, if_neg hb, hy]
          · obtain ⟨x, hx⟩ := sub_one_len (sub_flat ha fun x hx => (hA x hx).sub hk)
            rw [if_neg ha, hx] at h
            simp [many] at h
        · by_cases ha : A = []
          · subst ha
            simp [many] at h
          · obtain ⟨x, hx⟩ := sub_one_len (sub_flat ha fun x hx => (hA x hx).sub hk)
            have hj := hJ _ _ x y (sub_flat ha fun x hx => (hA x hx).sub hk) (sub_flat hb fun x hx => (hB x hx).sub hk) hx hy
            rw [if_neg (by simp [ha]), if_neg ha, hx, List.flatMap_append, hj]
            refine ⟨?_, by simp [many]⟩
            unfold bothV
            rw [if_neg (by rw [hr]; decide), if_pos hk]
            rfl
    · rcases lastOf_cases B with ⟨rfl, -⟩ | ⟨p, x, e, -⟩
      · have hz : many (fieldA (tsub s d) f ([] : List AR)) = 0 := by
          unfold fieldA counts
          rw [if_neg (by rw [hr]; decide), if_neg hk, if_neg hk]
          rfl
        refine ⟨fun _ => by rw [List.append_nil], fun h => ?_, fun h => ?_⟩ <;> omega
      · obtain ⟨e1, e2⟩ := fieldA_last hr hk hB e
        obtain ⟨e3, e4⟩ := fieldA_last hr hk hAB (p := A ++ p) (x := x) (by rw [e, List.append_assoc])
        refine ⟨fun h => by omega, fun _ _ => by rw [e3, e1], fun _ _ => ⟨?_, e4⟩⟩
        unfold bothV
        rw [if_neg (by rw [hr]; decide), if_neg hk, e3, e1]
def valsX {α : Type} (sub : Int → List UInt8 → List α) (fs : List Fld) (X : List AR) : List (Val α) := ((sortedF fs).map fun i => fieldA sub (fs.getD i.toNat .zero) (X.filter fun x => decide (x.k = i))).filter (fun v => decide (0 < many v))
theorem valsX_mem {α : Type} {sub : Int → List UInt8 → List α} {fs : List Fld} {X : List AR} {v : Val α} : v ∈ valsX sub fs X ↔ ∃ q : Nat, q < fs.length ∧ v = fieldA sub (fs.getD q .zero) (X.filter fun x => decide (x.k = q)) ∧ 0 < many v := by
  unfold valsX
  rw [List.mem_filter, List.mem_map, decide_eq_true_eq]
  constructor
  · rintro ⟨⟨i, hi, rfl⟩, h⟩
    have hb := sortedF_mem hi
    obtain ⟨q, rfl⟩ : ∃ q : Nat, i = q := ⟨i.toNat, by omega⟩
    exact ⟨q, by omega, by rw [Int.toNat_natCast], h⟩
  · rintro ⟨q, hq, rfl, h⟩
    refine ⟨⟨(q : Int), (sortF_ok fs _).1.mem_iff.2 (upTo_mem.2 ⟨by omega, by omega⟩), by rw [Int.toNat_natCast]⟩, h⟩
theorem valsX_rise {α : Type} {sub : Int → List UInt8 → List α} {fs : List Fld} (hN : Nums fs) (X : List AR) : RiseV (valsX sub fs X) := by
  unfold RiseV valsX
  refine List.Pairwise.filter _ (List.pairwise_map.2 ?_)
  refine List.Pairwise.imp_of_mem (fun {i j} hi hj h => ?_) (sortF_ok fs fs.length).2
  exact hN.lt (sortedF_mem hi) (sortedF_mem hj) h
theorem valsX_get {α : Type} {sub : Int → List UInt8 → List α} {fs : List Fld} (hN : Nums fs) (X : List AR) {q : Nat} (hq : q < fs.length) :
    getV (valsX sub fs X) (fs.getD q .zero).number = if 0 < many (fieldA sub (fs.getD q .zero) (X.filter fun x => decide (x.k = q))) then some (fieldA sub (fs.getD q .zero) (X.filter fun x => decide (x.k = q))) else none := by
  split
  · rename_i h
    exact getV_mem (valsX_rise hN X) (valsX_mem.2 ⟨q, hq, rfl, h⟩)
  · rename_i h
    cases hg : getV (valsX sub fs X) (fs.getD q .zero).number with
    | none => rfl
    | some v =>
      exfalso
      obtain ⟨hn, hv⟩ := getV_num hg
      obtain ⟨r, hr, rfl, hm⟩ := valsX_mem.1 hv
      have h1 := hN.at hq
      have h2 := hN.at hr
      have h3 : (fs.getD r .zero).number = (fs.getD q .zero).number := hn
      rw [h3, h1] at h2
      have : r = q := by omega
      subst this
      exact h hm
theorem valsX_none {α : Type} {sub : Int → List UInt8 → List α} {fs : List Fld} (X : List AR) {n : Int} (h : ∀ q : Nat, q < fs.length → (fs.getD q .zero).number ≠ n) : getV (valsX sub fs X) n = none := by
  cases hg : getV (valsX sub fs X) n with
  | none => rfl
  | some v =>
    exfalso
    obtain ⟨hn, hv⟩ := getV_num hg
    obtain ⟨r, hr, rfl, -⟩ := valsX_mem.1 hv
    exact h r hr hn
theorem recs_A {s : List Mes} {d m : Nat} {l : List UInt8} (h : (vmsg s d m l).2 = 0) {q : Nat} : ∀ x ∈ (arecs (s.getD m .zero).fields l).filter (fun x => decide (x.k = (q : Int))), RecA s d ((s.getD m .zero).fields.getD q .zero) x := by
  intro x hx
  rw [List.mem_filter, decide_eq_true_eq] at hx
  obtain ⟨y, hy, rfl⟩ := List.mem_map.1 hx.1
  have hv := (vall_ok h).2 y hy
  have hk : y.k = (q : Int) := hx.2
  refine ⟨fun hr => ?_, fun h17 => hv.sub hk h17⟩
  obtain ⟨-, -, -, h3⟩ := hv.facts
  rcases h3 with ⟨h3, -⟩ | ⟨k, h3, -, h4, -⟩
  · omega
  · have : k = q := by omega
    subst this
    exact h4 hr
theorem tof_join {s : List Mes} (hs : sright s = true) : ∀ (d m : Nat) (a b : List UInt8), m < s.length → (vmsg s d m a).2 = 0 → (vmsg s d m b).2 = 0 → tof s d m (a ++ b) = joinM s (d + 1) (m : Int) (tof s d m a) (tof s d m b) := by
  intro d
  induction d using Nat.strongRecOn with
  | ind d ih =>
    intro m a b hm ha hb
    have hN := schema_Nums hs m hm
    have happ := (arecs_app (vall_ok ha).1 (vall_ok hb).1).2
    rw [tof_msg, tof_msg, tof_msg, ← msgA_of, ← msgA_of, ← msgA_of, happ]
    have hfA := fun q => recs_A ha (q := q)
    have hfB := fun q => recs_A hb (q := q)
    have hof := fun q hq => of_range hs hm (q := q) hq
    generalize arecs (s.getD m .zero).fields a = A at hfA ⊢
    generalize arecs (s.getD m .zero).fields b = B at hfB ⊢
    have hvals : valsX (tsub s d) (s.getD m .zero).fields (A ++ B) = joinV (fun w v => bothV (joinM s d) ((s.getD m .zero).fields.getD (fieldAt (s.getD m .zero).fields v.num).toNat .zero) w v) (valsX (tsub s d) (s.getD m .zero).fields A) (valsX (tsub s d) (s.getD m .zero).fields B) := by
      generalize (s.getD m .zero).fields = fs at *
      refine rise_ext (valsX_rise hN _) (joinV_rise _ (valsX_rise hN _)) fun n => ?_
      rw [joinV_get (fun _ _ => bothV_num _ _ _ _) (valsX_rise hN _) (valsX_rise hN _)]
      by_cases hq : ∃ q : Nat, q < fs.length ∧ (fs.getD q .zero).number = n
      · obtain ⟨q, hq, rfl⟩ := hq
        have hat := hN.at hq
        have hJ := join_field (f := fs.getD q .zero) (J := joinM s d) (hfA q) (hfB q) (fun p r x y hp hr hx hy => by
          obtain ⟨d', rfl, hp⟩ := hp
          obtain ⟨d2, e2, hr⟩ := hr
          obtain rfl : d2 = d' := by omega
          have h1 := ih d2 (by omega) (fs.getD q .zero).of.toNat p r (by have := hof q hq; omega) hp hr
          injection hx with hx
          injection hy with hy
          rw [Int.toNat_of_nonneg (hof q hq).1] at h1
          show [tof s d2 (fs.getD q .zero).of.toNat (p ++ r)] = _
          rw [h1, ← hx, ← hy])
        rw [valsX_get hN _ hq, valsX_get hN _ hq, valsX_get hN _ hq, List.filter_append]
        obtain ⟨j1, j2, j3⟩ := hJ
        by_cases hB0 : 0 < many (fieldA (tsub s d) (fs.getD q .zero) (B.filter fun x => decide (x.k = q)))
        · rw [if_pos hB0]
          simp only
          unfold withV
          have hnum : (fieldA (tsub s d) (fs.getD q .zero) (B.filter fun x => decide (x.k = q))).num = (fs.getD q .zero).number := rfl
          rw [hnum, valsX_get hN _ hq]
          by_cases hA0 : 0 < many (fieldA (tsub s d) (fs.getD q .zero) (A.filter fun x => decide (x.k = q)))
          · obtain ⟨e1, e2⟩ := j3 hB0 hA0
            rw [if_pos hA0, if_pos e2]
            simp only [hnum, hat, Int.toNat_natCast]
            rw [e1]
          · rw [if_neg hA0]
            have e := j2 hB0 (by omega)
            rw [e, if_pos hB0]
        · rw [if_neg hB0]
          simp only
          rw [j1 (by omega)]
      · have hno : ∀ q : Nat, q < fs.length → (fs.getD q .zero).number ≠ n := fun q h e => hq ⟨q, h, e⟩
        rw [valsX_none _ hno, valsX_none _ hno, valsX_none _ hno]
    show (⟨valsX (tsub s d) (s.getD m .zero).fields (A ++ B), ((A ++ B).filter fun x => decide (x.k < 0)).map AR.whole⟩ : Msgd (M d)) =
      ⟨joinV (fun w v => bothV (joinM s d) ((s.getD (m : Int).toNat .zero).fields.getD (fieldAt (s.getD (m : Int).toNat .zero).fields v.num).toNat .zero) w v) (valsX (tsub s d) (s.getD m .zero).fields A) (valsX (tsub s d) (s.getD m .zero).fields B), (A.filter fun x => decide (x.k < 0)).map AR.whole ++ (B.filter fun x => decide (x.k < 0)).map AR.whole⟩
    rw [hvals, Int.toNat_natCast, List.filter_append, List.map_append]
end Go.Proofs.YtbdeclkccchnoaaGreat
namespace Go.Proofs.YtbdeclkccchnoaaGreat
open Go.RowKit
theorem TOfOk.laterM {w0 w1 : World} {sv : Value} {s : List Mes} {d : Nat} (h : TOfOk w0 sv s d) (hb : Below w0.heap.size w0 w1) : TOfOk w1 sv s d :=
  fun m w v l hm hw => h m w v l hm (hb.trans (hw.mono hb.size))
end Go.Proofs.YtbdeclkccchnoaaGreat
namespace Go.Proofs.YtbdeclkccchnoaaGreat
open Go.RowKit
theorem bytes_two {w : World} {p q : Value} {l m : List UInt8} (hp : Bytes w p l) (hq : Bytes w q m) (hlen : l.length + m.length ≤ 1099511627776) :
    ∃ v1 w1 v2 w2, (Builtin.append_ #[32, 32] 32 #[.slice (some ⟨w.heap.size, 0, none⟩) 0 0, p]).run Tryz.prog (w.alloc (.cells #[] 5)) = .ok v1 w1 ∧
      (Builtin.append_ #[32, 32] 32 #[v1, q]).run Tryz.prog w1 = .ok v2 w2 ∧ Bytes w2 v2 (l ++ m) ∧ Below w.heap.size w w2 ∧ (∃ a n c, v1 = .slice a n c) ∧ (∃ a c, v2 = .slice a (l ++ m).length c) := by
  have hb0 : Below w.heap.size w (w.alloc (.cells #[] 5)) := (Below.refl _ _).alloc (Nat.le_refl _) _
  have h0 : Own (w.alloc (.cells #[] 5)) w.heap.size (.slice (some ⟨w.heap.size, 0, none⟩) 0 0) [] := World.ownsRow_made (base := w.heap.size) (e := 5) (size := 1) w #[] 0 (Nat.le_refl _) (by unfold maxLen; omega) rfl
  obtain ⟨v1, w1, e1, o1, g1, -⟩ := own_append h0 (hp.below hb0) (by simp; omega) hb0.size
  have hb1 : Below w.heap.size w w1 := hb0.grown g1 hb0.size (by intro q e; simp [Value.ownBlock] at e; omega)
  obtain ⟨v2, w2, e2, o2, g2, -⟩ := own_append o1 (hq.below hb1) (by simpa using Nat.le_trans hlen (by omega)) hb1.size
  have hb2 : Below w.heap.size w w2 := hb1.grown g2 hb1.size (fun q e => (World.ownsRow.lt o1 q e).1)
  rw [List.nil_append] at o2 o1
  have hB := o2.bytes (by rw [List.length_append]; omega)
  obtain ⟨-, a2, c2, hv2, -⟩ := hB.open
  refine ⟨v1, w1, v2, w2, e1, e2, hB, hb2, ?_, a2, c2, hv2⟩
  rcases o1.2 with ⟨h, -⟩ | ⟨g, cap, cur, h, -⟩
  · exact ⟨_, _, _, h⟩
  · exact ⟨_, _, _, h⟩
end Go.Proofs.YtbdeclkccchnoaaGreat
