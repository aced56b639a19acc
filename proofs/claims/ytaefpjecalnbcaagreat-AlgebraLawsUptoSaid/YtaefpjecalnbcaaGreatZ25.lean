/- algebra.may of any list of meanings: mayAll of the list of each one's rightness. Each meaning weighs at most 2^40. At most 2^40 in the list. What algebra's functions answer: a code, or a meaning (AnsPost). No condition. Plain laws: two right meanings, joined, weigh no more than both (mwt_join). No condition. algebra.Join: two meanings, joined, or why they can't be. Meanings of at most 2^29 things. A region that draws its order and whose operation L waits for whatever is taken first: a condition on the world that holds behind each operation but L lets loads be taken first, though L writes what they read. No condition. Masks, in plain words: of a union, of a meet, of what lies under a number. Plain: the part of a meaning that a mask keeps, or leaves (partM). No condition. Slices of ways (slices of ints): what they hold; darningref13.Same, Has, Whole, less; mask.Has. No condition. Slices of ways: slices.IndexFunc, ContainsFunc; darningref13.Has, Whole; mask.Has, Mask.Whole's test. No condition. Mask.Whole's test, darningref13.Whole; slices.Clone of ways; darninglaw13.Many. No condition. -/
import Derived.Test.YtaefpjecalnbcaaGreatZ01
import Derived.Test.YtaefpjecalnbcaaGreatZ06
import Derived.Test.YtaefpjecalnbcaaGreatZ07
import Derived.Test.YtaefpjecalnbcaaGreatZ08
import Derived.Test.YtaefpjecalnbcaaGreatZ09
import Derived.Test.YtaefpjecalnbcaaGreatZ10
import Derived.Test.YtaefpjecalnbcaaGreatZ12
import Derived.Test.YtaefpjecalnbcaaGreatZ13
import Derived.Test.YtaefpjecalnbcaaGreatZ22
import Derived.Test.YtaefpjecalnbcaaGreatZ23
import Derived.Test.YtaefpjecalnbcaaGreatZ24
import Derived.Deep.RegionHeld3
import Derived.StillTail
namespace Go.Proofs.YtaefpjecalnbcaaGreat
open Go.RowKit
def mayAll (s : List Mes) (root : Int) (rs : List Bool) : Nat := if sright s = false then 9 else if root < 0 ∨ (s.length : Int) ≤ root then 2 else if rs.all id then 0 else 12
/-- The messages of a variadic list: at each index two cells, a message's, of the rightness in the list. -/
def MayAt (w : World) (s : List Mes) (root : Int) (g : Nat) (rs : List Bool) : Prop :=
  ∀ i r, rs[i]? = some r → ∃ v1 v2 d, ∃ x : M d, w.cell? ⟨g, i * 2, none⟩ = some v1 ∧ w.cell? ⟨g, i * 2 + 1, none⟩ = some v2 ∧ MsgAt d w (.agg #[v1, v2]) x ∧ mwt d x ≤ 1099511627776 ∧ (sright s && rightB s d root x) = (sright s && r)
theorem all_take_step (rs : List Bool) (i : Nat) (h : (rs.take i).all id = true) (hi : rs[i]? = some true) : (rs.take (i + 1)).all id = true := by
  rw [List.take_add_one, hi]
  simp [h]
theorem all_get_false (rs : List Bool) (i : Nat) (hi : rs[i]? = some false) : rs.all id = false := by
  have := List.mem_of_getElem? hi
  rw [List.all_eq_false]
  exact ⟨false, this, by simp⟩
set_option maxRecDepth 100000 in
set_option maxHeartbeats 4000000 in
theorem alg_may {w : World} {sv : Value} {s : List Mes} {g n c : Nat} {rs : List Bool} (hS : SchemaAt w sv s) (root : Int) (h : MayAt w s root g rs) (hn : n = rs.length) (hnb : n ≤ 1099511627776) :
    Calls Tryz.prog 36 #[sv, .int .i64 root, .slice (some ⟨g, 0, none⟩) n c] w fun e w' => e = .returned (.int .u8 (mayAll s root rs)) ∧ Below w.heap.size w w' := by
  have HS := hid hS
  have HM := hid h
  have HN := hid hn
  have HR := hid (schema_Right hS)
  obtain ⟨hsl, sa, sc, rfl, -⟩ := hS.open
  obtain ⟨m, HMC⟩ : ∃ m, Hid (m = mayAll s root rs) := ⟨_, rfl⟩
  rw [← HMC.out]
  by_cases hb : sright s = false
  · have HE : Hid (m = 9) := by rw [Hid, HMC.out, mayAll, if_pos hb]
    have HB := hid hb
    clear hS h hb HMC hn
    go_enter Tryz.func36, Tryz.ntmps36
    go_wp2_with (go_at_call 42; refine HR.out.mono ?_; rintro e w1 ⟨rfl, hb1⟩; rw [HB.out])
    go_ret
    exact ⟨by rw [HE.out]; rfl, hb1⟩
  have hb' : sright s = true := by simpa using hb
  have HB := hid hb'
  by_cases hr : root < 0 ∨ (s.length : Int) ≤ root
  · have HE : Hid (m = 2) := by rw [Hid, HMC.out, mayAll, if_neg hb, if_pos hr]
    have HRR : Hid ((s.length : Int) ≤ root ∨ root < 0) := hr.symm
    clear hS h hb hb' HMC hr hn
    by_cases hneg : root < 0
    · go_enter Tryz.func36, Tryz.ntmps36
      go_wp2_with (go_at_call 42; refine HR.out.mono ?_; rintro e w1 ⟨rfl, hb1⟩; rw [HB.out])
      go_ret
      exact ⟨by rw [HE.out]; rfl, hb1⟩
    · have hge : (s.length : Int) ≤ root := by rcases HRR.out with h | h <;> omega
      go_enter Tryz.func36, Tryz.ntmps36
      go_wp2_with (go_at_call 42; refine HR.out.mono ?_; rintro e w1 ⟨rfl, hb1⟩; rw [HB.out])
      go_ret
      exact ⟨by rw [HE.out]; rfl, hb1⟩
  · have HE : Hid (m = if rs.all id then 0 else 12) := by rw [Hid, HMC.out, mayAll, if_neg hb, if_neg hr]
    have hr0 : ¬ root < 0 := fun h => hr (Or.inl h)
    have hr1 : ¬ (s.length : Int) ≤ root := fun h => hr (Or.inr h)
    clear hS h hb hb' HMC hr hn
    go_enter Tryz.func36, Tryz.ntmps36
    go_wp2_with (go_at_call 42; refine HR.out.mono ?_; rintro e w1 ⟨rfl, hb1⟩; rw [HB.out])
    have HB1 := hid hb1
    clear hb1 hr0 hr1
    go_loopw [24] (fun v24 wr => ∃ i : Nat, v24 = .int .i64 i ∧ i ≤ n ∧ Hid ((rs.take i).all id = true) ∧ Hid (Below w1.heap.size w1 wr)) (fun v24 _ => n - (intOf v24).toNat)
    case atStart => exact ⟨0, rfl, by omega, by simp [Hid], Below.refl _ _⟩
    case round =>
      obtain ⟨i, rfl, hi, HI, HB2⟩ := hrel
      have HBW := hid (HB1.out.trans (HB2.out.mono HB1.out.size))
      by_cases hlt : i < n
      · have hri : rs[i]? = some (rs[i]'(by rw [← HN.out]; exact hlt)) := List.getElem?_eq_getElem _
        generalize rs[i]'(by rw [← HN.out]; exact hlt) = r at hri
        have hm := HM.out
        obtain ⟨v1, v2, d, x, g0, g1, hM, hw, hq⟩ := hm i r hri
        clear hm
        obtain ⟨a1, n1, c1, a2, n2, c2, he⟩ := hM.form
        cases he
        have HRI := hid hri
        replace g0 := below_keeps HBW.out _ _ g0
        replace g1 := below_keeps HBW.out _ _ g1
        have hbl : g < wr.heap.size := World.block_lt_of_cell? wr _ g0
        have hix := index_run Tryz.underlying65 size_msg (a := some ⟨g, 0, none⟩) rfl i hlt (cap := c)
        simp only [Nat.zero_add] at hix
        have HW := hid hw
        have hM2 := hM.below HBW.out
        have HMS := hid hM2
        have HQ : Hid ((sright s && rightB s d root x) = r) := by rw [Hid, hq, HB.out, Bool.true_and]
        clear hM hM2 hw hq hri
        go_wp2_with fail
        refine (tree_Right (HS.out.below ?hbs) root (HMS.out.below ?hbm) HW.out).mono ?_
        case hbs => exact HBW.out.alloc HBW.out.size _
        case hbm => exact (Below.refl wr.heap.size wr).alloc (Nat.le_refl _) _
        rintro e w2 ⟨rfl, hb2⟩
        rw [HQ.out]
        have HB3 : Hid (Below w1.heap.size w1 w2) := HB2.out.trans (((Below.refl wr.heap.size wr).alloc (Nat.le_refl _) _ |>.trans (hb2.mono (by simp))).mono HB2.out.size)
        clear hb2
        cases r with
        | false =>
          have HF := hid (all_get_false rs i HRI.out)
          go_wp2_with fail
          go_ret
          exact ⟨by rw [HE.out, HF.out]; rfl, HB1.out.trans (HB3.out.mono HB1.out.size)⟩
        | true =>
          have HT := hid (all_take_step rs i HI.out HRI.out)
          go_wp2_with fail
          go_roundw
          case rel => exact ⟨i + 1, by go_num, hlt, HT.out, HB3.out⟩
          case measure => simp [intOf]; omega
      · obtain rfl : i = n := by omega
        have HT : Hid (rs.all id = true) := by
          have := HI.out
          rw [List.take_of_length_le (by rw [← HN.out]; exact Nat.le_refl _)] at this
          exact this
        go_wp2_with fail
        go_ret
        exact ⟨by rw [HE.out, HT.out]; rfl, HBW.out⟩
end Go.Proofs.YtaefpjecalnbcaaGreat
namespace Go.Proofs.YtaefpjecalnbcaaGreat
open Go.RowKit
/-- the answer: a code, or a meaning -/
def AnsPost (w : World) (d : Nat) (code : Nat) (x : M d) (e : Ending) (w' : World) : Prop := Below w.heap.size w w' ∧ (code ≠ 0 → e = .returned (.tuple #[.agg #[.slice none 0 0, .slice none 0 0], .int .u8 (code : Int)])) ∧
  (code = 0 → ∃ a n c b m k, e = .returned (.tuple #[.agg #[.slice a n c, .slice b m k], .int .u8 0]) ∧ Apart 0 w.heap.size w' fun w2 => MsgAt d w2 (.agg #[.slice a n c, .slice b m k]) x)
theorem may_one {w : World} {g : Nat} {s : List Mes} {root : Int} {v1 v2 : Value} {d : Nat} {x : M d} {T : TypeId} (hb : Blk w g [v1, v2] T) (hx : MsgAt d w (.agg #[v1, v2]) x) (hw : mwt d x ≤ 1099511627776) : MayAt w s root g [rightB s d root x] := by
  intro i r hi
  cases i with
  | zero =>
    simp at hi
    subst hi
    exact ⟨v1, v2, d, x, by simpa using hb.cell 0 _ rfl, by simpa using hb.cell 1 _ rfl, hx, hw, rfl⟩
  | succ i => simp at hi
theorem may_zero {s : List Mes} {root : Int} {rs : List Bool} (h : mayAll s root rs = 0) : sright s = true ∧ 0 ≤ root ∧ root < s.length ∧ rs.all id = true := by
  unfold mayAll at h
  by_cases h1 : sright s = false
  · rw [if_pos h1] at h; cases h
  · rw [if_neg h1] at h
    by_cases h2 : root < 0 ∨ (s.length : Int) ≤ root
    · rw [if_pos h2] at h; cases h
    · rw [if_neg h2] at h
      cases h3 : rs.all id
      · rw [h3] at h; cases h
      · exact ⟨by simpa using h1, by omega, by omega, rfl⟩
theorem may_small (s : List Mes) (root : Int) (rs : List Bool) : mayAll s root rs ≤ 12 := by
  unfold mayAll
  split
  · omega
  · split
    · omega
    · split <;> omega
end Go.Proofs.YtaefpjecalnbcaaGreat
namespace Go.Proofs.YtaefpjecalnbcaaGreat
open Go.RowKit
theorem putV_sum {α : Type} (f : Val α → Nat) (v : Val α) : ∀ {l : List (Val α)}, RiseV l → ((putV v l).map f).sum + (match getV l v.num with | some w => f w | none => 0) = (l.map f).sum + f v
  | [], _ => by simp [putV, getV_nil]
  | x :: r, h => by
    obtain ⟨h1, h2⟩ := h.tail
    unfold putV
    rw [getV_cons]
    by_cases hlt : x.num < v.num
    · have ih := putV_sum f v h1
      rw [if_pos hlt, if_neg (by omega)]
      simp only [List.map_cons, List.sum_cons]
      omega
    · rw [if_neg hlt]
      by_cases he : x.num = v.num
      · rw [if_pos he, if_pos he]
        simp only [List.map_cons, List.sum_cons]
        omega
      · rw [if_neg he, if_neg he, getV_low (l := r) fun y hy => by have := h2 y hy; omega]
        simp only [List.map_cons, List.sum_cons]
        omega
theorem joinV_sum {α : Type} (f : Val α → Nat) {g : Val α → Val α → Val α} (hg : ∀ w v, (g w v).num = v.num) {a : List (Val α)} (ha : RiseV a) : ∀ {b : List (Val α)}, RiseV b → (∀ w ∈ a, ∀ v ∈ b, w.num = v.num → f (g w v) ≤ f w + f v) → ((joinV g a b).map f).sum ≤ (a.map f).sum + (b.map f).sum := by
  have key : ∀ (b out : List (Val α)), RiseV b → RiseV out → (∀ v ∈ b, getV out v.num = getV a v.num) → (∀ w ∈ a, ∀ v ∈ b, w.num = v.num → f (g w v) ≤ f w + f v) → ((b.foldl (fun out v => putV (withV g a v) out) out).map f).sum ≤ (out.map f).sum + (b.map f).sum := by
    intro b
    induction b with
    | nil => intro out _ _ _ _; simp
    | cons v r ih =>
      intro out hb ho hk hf
      obtain ⟨b1, b2⟩ := hb.tail
      have hs := putV_sum f (withV g a v) ho
      have hn := withV_num hg a v
      have h1 := ih (putV (withV g a v) out) b1 (putV_rise ho) (fun u hu => by
        have := b2 u hu
        rw [putV_get ho, hn, if_neg (by omega)]
        exact hk u (by simp [hu])) fun w hw u hu => hf w hw u (by simp [hu])
      rw [List.foldl_cons, List.map_cons, List.sum_cons]
      rw [hn, hk v (by simp)] at hs
      have h2 : f (withV g a v) ≤ (match getV a v.num with | some w => f w | none => 0) + f v := by
        unfold withV
        cases hgv : getV a v.num with
        | none => simp
        | some w => exact hf w (getV_num hgv).2 v (by simp) (getV_num hgv).1
      omega
  intro b hb hf
  exact key b a hb ha (fun _ _ => rfl) hf
theorem twt_app2 (a b : List (List UInt8)) : twt (a ++ b) = twt a + twt b := by simp [twt]
theorem vwt_both {α : Type} {f : α → Nat} {R : Int → α → Bool} {J : Int → α → α → α} {fl : Fld} {w v : Val α} (hw : fitsB R fl w = true) (hv : fitsB R fl v = true) (hJ : ∀ x y, R fl.of x = true → R fl.of y = true → f (J fl.of x y) ≤ f x + f y) : vwt f (bothV J fl w v) ≤ vwt f w + vwt f v := by
  unfold bothV
  by_cases hr : fl.rep = true
  · rw [if_pos hr]
    simp only [vwt, List.length_append, twt_app2, List.map_append, List.sum_append]
    omega
  · rw [if_neg hr]
    by_cases hk : fl.kind = 17
    · rw [if_pos hk]
      obtain ⟨x, hx, hrx⟩ := fits_sub hw hk (by simpa using hr)
      obtain ⟨y, hy, hry⟩ := fits_sub hv hk (by simpa using hr)
      have := hJ x y hrx hry
      rw [hx, hy]
      simp only [vwt, List.zip_cons_cons, List.zip_nil_left, List.take_succ_cons, List.take_zero, List.map_cons, List.map_nil, List.sum_cons, List.sum_nil, List.length_nil, twt, hx, hy]
      omega
    · rw [if_neg hk]; omega
theorem right_vals2 {s : List Mes} {d : Nat} {root : Int} {x : M (d + 1)} (h : rightB s (d + 1) root x = true) : ValsOk (fitsB (rightB s d)) (s.getD root.toNat .zero).fields (M.vals x) ∧ RiseV (M.vals x) := by
  unfold rightB at h
  by_cases h0 : root < 0 ∨ (s.length : Int) ≤ root
  · rw [if_pos h0] at h; cases h
  · rw [if_neg h0, Bool.and_eq_true] at h
    exact ⟨(valsOk_of h.1).1, (valsOk_of h.1).1.rise⟩
theorem mwt_join (s : List Mes) : ∀ (d : Nat) (root : Int) (a b : M d), rightB s d root a = true → rightB s d root b = true → mwt d (joinM s d root a b) ≤ mwt d a + mwt d b
  | 0, _, a, _, _, _ => a.elim
  | d + 1, root, a, b, ha, hb => by
    obtain ⟨oa, ra⟩ := right_vals2 ha
    obtain ⟨ob, rb⟩ := right_vals2 hb
    have key := joinV_sum (vwt (mwt d)) (g := fun w v => bothV (joinM s d) ((s.getD root.toNat .zero).fields.getD (fieldAt (s.getD root.toNat .zero).fields v.num).toNat .zero) w v) (fun _ _ => bothV_num _ _ _ _) ra rb (fun w hw v hv e => by
      obtain ⟨-, -, -, fw⟩ := oa.at' w hw
      obtain ⟨-, -, -, fv⟩ := ob.at' v hv
      unfold qOf at fw fv
      rw [e] at fw
      exact vwt_both fw fv fun x y hx hy => mwt_join s d _ x y hx hy)
    show 1 + twt (M.unk a ++ M.unk b) + _ ≤ (1 + twt (M.unk a) + _) + (1 + twt (M.unk b) + _)
    rw [twt_app2]
    have h2 : ((M.vals (d := d) (joinM s (d + 1) root a b)).map (vwt (mwt d))).sum ≤ ((M.vals a).map (vwt (mwt d))).sum + ((M.vals b).map (vwt (mwt d))).sum := key
    omega
end Go.Proofs.YtaefpjecalnbcaaGreat
namespace Go.Proofs.YtaefpjecalnbcaaGreat
open Go.RowKit Go.Shelf
theorem may_two {w : World} {g : Nat} {s : List Mes} {root : Int} {v1 v2 u1 u2 : Value} {d : Nat} {x y : M d} {T : TypeId} (hb : Blk w g [v1, v2, u1, u2] T) (hx : MsgAt d w (.agg #[v1, v2]) x) (hy : MsgAt d w (.agg #[u1, u2]) y) (hw : mwt d x ≤ 1099511627776) (hw' : mwt d y ≤ 1099511627776) : MayAt w s root g [rightB s d root x, rightB s d root y] := by
  intro i r hi
  match i, hi with
  | 0, hi =>
    simp at hi
    subst hi
    exact ⟨v1, v2, d, x, by simpa using hb.cell 0 _ rfl, by simpa using hb.cell 1 _ rfl, hx, hw, rfl⟩
  | 1, hi =>
    simp at hi
    subst hi
    exact ⟨u1, u2, d, y, by simpa using hb.cell 2 _ rfl, by simpa using hb.cell 3 _ rfl, hy, hw', rfl⟩
  | i + 2, hi => simp at hi
set_option maxRecDepth 100000 in
set_option maxHeartbeats 8000000 in
theorem alg_Join {w : World} {sv v u : Value} {s : List Mes} {d : Nat} {x y : M d} (hS : SchemaAt w sv s) (root : Int) (hx : MsgAt d w v x) (hy : MsgAt d w u y) (hwx : mwt d x ≤ 536870912) (hwy : mwt d y ≤ 536870912) :
    Calls Tryz.prog 17 #[sv, .int .i64 root, v, u] w (AnsPost w d (mayAll s root [rightB s d root x, rightB s d root y]) (joinM s d root x y)) := by
  obtain ⟨a1, n1, c1, a2, n2, c2, rfl⟩ := hx.form
  obtain ⟨b1, m1, k1, b2, m2, k2, rfl⟩ := hy.form
  obtain ⟨X, HX⟩ : ∃ X, Hid (X = w.heap.size) := ⟨_, rfl⟩
  have hS2 := hS
  obtain ⟨-, sa, sc, rfl, -⟩ := hS2.open
  obtain ⟨sn, HSN⟩ : ∃ n, Hid (n = s.length) := ⟨_, rfl⟩
  rw [← HSN.out] at hS hS2 ⊢
  obtain ⟨W1, HW1⟩ : ∃ W, Hid (W = ((w.alloc (.cells #[.slice a1 n1 c1, .slice a2 n2 c2] 27)).alloc (.cells #[.slice b1 m1 k1, .slice b2 m2 k2] 27)).alloc (.cells #[.slice none 0 0, .slice none 0 0] 27)) := ⟨_, rfl⟩
  have hx1 : Blk W1 X [.slice a1 n1 c1, .slice a2 n2 c2] 27 := by rw [HW1.out, HX.out]; exact ((Blk.new w [.slice a1 n1 c1, .slice a2 n2 c2] _).alloc _).alloc _
  have hy1 : Blk W1 (X + 1) [.slice b1 m1 k1, .slice b2 m2 k2] 27 := by rw [HW1.out, HX.out]; exact (Blk.new' _ [.slice b1 m1 k1, .slice b2 m2 k2] _ _ (by simp)).alloc _
  have hr1 : Blk W1 (X + 1 + 1) [.slice none 0 0, .slice none 0 0] 27 := by rw [HW1.out, HX.out]; exact Blk.new' _ [.slice none 0 0, .slice none 0 0] _ _ (by simp)
  have hb1 : Below w.heap.size w W1 := by rw [HW1.out]; (repeat (first | with_reducible exact Below.refl _ _ | with_reducible refine Below.setCell ?_ (by first | omega | (simp; omega) | (simp; done)) _ | with_reducible refine Below.alloc ?_ (by first | omega | (simp; omega) | (simp; done)) _ | with_reducible refine below_drewN ?_ _ | with_reducible refine Below.drew ?_))
  obtain ⟨W2, HW2⟩ : ∃ W, Hid (W = W1.alloc (.cells #[.slice a1 n1 c1, .slice a2 n2 c2, .slice b1 m1 k1, .slice b2 m2 k2] 27)) := ⟨_, rfl⟩
  obtain ⟨G, HG⟩ : ∃ G, Hid (G = W1.heap.size) := ⟨_, rfl⟩
  have hb12 : Below W1.heap.size W1 W2 := by rw [HW2.out]; exact (Below.refl _ _).alloc (Nat.le_refl _) _
  have hg2 : Blk W2 G [.slice a1 n1 c1, .slice a2 n2 c2, .slice b1 m1 k1, .slice b2 m2 k2] 27 := by rw [HW2.out, HG.out]; exact Blk.new W1 [.slice a1 n1 c1, .slice a2 n2 c2, .slice b1 m1 k1, .slice b2 m2 k2] _
  have hb2 := hb1.trans (hb12.mono hb1.size)
  obtain ⟨code, HC⟩ : ∃ c, Hid (c = mayAll s root [rightB s d root x, rightB s d root y]) := ⟨_, rfl⟩
  have HMAY := hid (alg_may (hS.below hb2) root (may_two (s := s) (root := root) hg2 (hx.below hb2) (hy.below hb2) (by omega) (by omega)) (n := 2) (c := 2) rfl (by decide))
  rw [← HC.out] at HMAY ⊢
  have hc12 : code ≤ 12 := by rw [HC.out]; exact may_small _ _ _
  have HB2 := hid hb2
  have HXB := hid (And.intro (hx1.below hb12) (And.intro (hy1.below hb12) (hr1.below hb12)))
  have HS0 := hid hS
  have HXM := hid (And.intro hx hy)
  have HWT := hid (And.intro hwx hwy)
  obtain ⟨Q, HQ⟩ : ∃ Q : Ending → World → Prop, Hid (Q = AnsPost w d code (joinM s d root x y)) := ⟨_, rfl⟩
  rw [← HQ.out]
  have k0 := hx1.cell 0 _ rfl
  have k1 := hx1.cell 1 _ rfl
  have kl := hx1.lt
  have l0 := hy1.cell 0 _ rfl
  have l1 := hy1.cell 1 _ rfl
  have ll := hy1.lt
  clear hx1 hy1 hr1 hb1 hb12 hg2 hb2 hS hS2 hx hy hwx hwy
  go_enter Tryz.func17, Tryz.ntmps17
  go_upto_region 1 with fail
  rw [← HW1.out, ← HX.out]
  go_wp2_with fail
  rw [← HW2.out, ← HG.out]
  refine HMAY.out.mono ?_
  rintro e w3 ⟨rfl, hb3⟩
  have HB3 := hid (HB2.out.trans (hb3.mono HB2.out.size))
  have HX3 := hid (And.intro (HXB.out.1.below hb3) (And.intro (HXB.out.2.1.below hb3) (HXB.out.2.2.below hb3)))
  clear k0 k1 kl l0 l1 ll
  have k0 := HX3.out.1.cell 0 _ rfl
  have k1 := HX3.out.1.cell 1 _ rfl
  have kl := HX3.out.1.lt
  have l0 := HX3.out.2.1.cell 0 _ rfl
  have l1 := HX3.out.2.1.cell 1 _ rfl
  have ll := HX3.out.2.1.lt
  clear hb3 HMAY HXB
  by_cases h0 : code = 0
  · subst h0
    obtain ⟨g1, g2, g3, g4⟩ := may_zero HC.out.symm
    obtain ⟨r, rfl⟩ : ∃ r : Nat, root = r := ⟨root.toNat, by omega⟩
    have hrt : rightB s d (r : Int) x = true ∧ rightB s d (r : Int) y = true := by simpa using g4
    have HP := hid (alg_join HS0.out d r w3 _ _ x y (by omega) HB3.out HXM.out.1 HXM.out.2 hrt.1 hrt.2 HWT.out.1 HWT.out.2)
    obtain ⟨z, HY⟩ : ∃ z, Hid (z = joinM s d r x y) := ⟨_, rfl⟩
    rw [← HY.out] at HP
    have HYW : Hid (mwt d z ≤ 1099511627776) := by
      have h1 := mwt_join s d r x y hrt.1 hrt.2
      rw [← HY.out] at h1
      have := HWT.out
      show _ ≤ _
      omega
    rw [← HY.out] at HQ
    clear g1 g2 g3 g4 hrt HC hc12
    go_wp2_with fail
    refine HP.out.mono ?_
    rintro e w4 ⟨v4, rfl, hb4, hap4⟩
    have hM4 := hap4.here
    obtain ⟨p1, q1, o1, p2, q2, o2, rfl⟩ := hM4.form
    have HCP := hid (tree_Copy (w0 := w4) d w4 _ z (Below.refl _ _) hM4 HYW.out)
    have HB4 := hid (HB3.out.trans (hb4.mono HB3.out.size))
    have HR4 := hid (HX3.out.2.2.below hb4)
    clear hb4 hap4 hM4 k0 k1 kl l0 l1 ll HX3
    go_wp2_with fail
    refine HCP.out.mono ?_
    rintro e w5 ⟨v5, rfl, hb5, hap5⟩
    obtain ⟨s1, t1, u1, s2, t2, u2, rfl⟩ := hap5.here.form
    have HB5 := hid (HB4.out.trans (hb5.mono HB4.out.size))
    have hr5 := HR4.out.below hb5
    have hlt4 := HR4.out.lt
    have r0 := hr5.cell 0 _ rfl
    have r1 := hr5.cell 1 _ rfl
    have f0 := hr5.free 0
    have f1 := hr5.free 1
    have rl := hr5.lt
    have z1 := hr5.set 0 (.slice s1 t1 u1)
    have z2 := z1.set 1 (.slice s2 t2 u2)
    have q0 := z2.cell 0 _ rfl
    have q1' := z2.cell 1 _ rfl
    have HE : Hid (Q (.returned (.tuple #[.agg #[.slice s1 t1 u1, .slice s2 t2 u2], .int .u8 0])) ((w5.setCell ⟨X + 1 + 1, 0, none⟩ (.slice s1 t1 u1)).setCell ⟨X + 1 + 1, 1, none⟩ (.slice s2 t2 u2))) := by
      rw [HQ.out]
      refine ⟨(HB5.out.setCell (by rw [HX.out]; show w.heap.size ≤ w.heap.size + 1 + 1; omega) _).setCell (by rw [HX.out]; show w.heap.size ≤ w.heap.size + 1 + 1; omega) _, fun h => absurd rfl h, fun _ => ⟨_, _, _, _, _, _, rfl, ?_⟩⟩
      intro w2 hw2
      refine hap5 _ fun b hb hc => ?_
      have hne : b ≠ X + 1 + 1 := by omega
      have h4 := HB4.out.size
      rw [hw2 b (by simpa using hb) (.inr (by omega)), Below.heap_setCell _ _ _ b hne, Below.heap_setCell _ _ _ b hne]
    clear hr5 z1 z2 hap5 hb5 hlt4 HCP HP
    go_wp2_with fail
    refine bodyPost_ret (v := .tuple #[.agg #[.slice s1 t1 u1, .slice s2 t2 u2], .int .u8 0]) ?_ rfl HE.out
    simp [results, Tryz.results17, go_sem, q0, q1']
  · have hne : ((code : Int) != 0) = true := by simpa using h0
    have hr3 := HX3.out.2.2
    have r0 := hr3.cell 0 _ rfl
    have r1 := hr3.cell 1 _ rfl
    have f0 := hr3.free 0
    have f1 := hr3.free 1
    have rl := hr3.lt
    have z1 := hr3.set 0 (.slice none 0 0)
    have z2 := z1.set 1 (.slice none 0 0)
    have q0 := z2.cell 0 _ rfl
    have q1' := z2.cell 1 _ rfl
    have HE : Hid (Q (.returned (.tuple #[.agg #[.slice none 0 0, .slice none 0 0], .int .u8 (code : Int)])) ((w3.setCell ⟨X + 1 + 1, 0, none⟩ (.slice none 0 0)).setCell ⟨X + 1 + 1, 1, none⟩ (.slice none 0 0))) := by
      rw [HQ.out]
      exact ⟨(HB3.out.setCell (by rw [HX.out]; show w.heap.size ≤ w.heap.size + 1 + 1; omega) _).setCell (by rw [HX.out]; show w.heap.size ≤ w.heap.size + 1 + 1; omega) _, fun _ => rfl, fun h => absurd h h0⟩
    clear hr3 z1 z2 HX3 HC h0
    go_wp2_with fail
    refine bodyPost_ret (v := .tuple #[.agg #[.slice none 0 0, .slice none 0 0], .int .u8 (code : Int)]) ?_ rfl HE.out
    simp [results, Tryz.results17, go_sem, q0, q1']
end Go.Proofs.YtaefpjecalnbcaaGreat
namespace Go.Proofs.YtaefpjecalnbcaaGreat
open Go.RowKit
section
variable {P : Program} {ops : Array Oper} {Q : Exit → Act → World → Prop} {S : World → Prop} {L : Nat}
/-- whatever comes up: S holds behind it, unless it is L -/
def wpAnyE (P : Program) (ops : Array Oper) (Q : Exit → Act → World → Prop) (S : World → Prop) (L : Nat) : Nat → Array Bool → Act → World → Prop
  | 0, listed, a, w => Region.ready .any ops listed = [] ∧ Q .normal a w
  | fuel + 1, listed, a, w =>
    (Region.ready .any ops listed = [] → Q .normal a w) ∧
    ∀ i ∈ Region.ready .any ops listed, wpOp P ops Q i (fun a' w' => (i ≠ L → S w') ∧ wpAnyE P ops Q S L fuel (listed.setIfInBounds i true) a' w') a w
theorem wpAny_of_E : ∀ (fuel : Nat) (listed : Array Bool) (a : Act) (w : World), wpAnyE P ops Q S L fuel listed a w → wpAny P .any ops Q fuel listed a w
  | 0, _, _, _, h => h
  | fuel + 1, _, _, _, h => ⟨h.1, fun i hi => wpOp_mono (fun a' w' h' => wpAny_of_E fuel _ a' w' h'.2) (h.2 i hi)⟩
theorem wpAnyE_first {i : Nat} {oi : Oper} {v : Value} (hi : ops[i]? = some oi) (hsel : ∀ (j : Nat) (o : Oper) cs b, ops[j]? = some o → o.op ≠ .select cs b)
    (hQ : ∀ c a w, Q (.panic c) (a.put oi.dst v) w → Q (.panic c) a w) (hL : Region.waitsFor .any ops L i = true) :
    ∀ (fuel : Nat) (listed : Array Bool) (a : Act) (w : World),
      (∀ j oj, ops[j]? = some oj → j ≠ i → listed.getD j true = false → (∀ e ∈ oj.after, Region.binds .any e = true → e.on ≠ i) → oi.apart ops oj = true) →
      i ∈ Region.ready .any ops listed → YieldsIf P ops S oi v a → S w →
      wpAnyE P ops Q S L fuel (listed.setIfInBounds i true) (a.put oi.dst v) w → wpAnyE P ops Q S L (fuel + 1) listed a w := by
  obtain ⟨oL, hoL, eL, heL, hbL, honL⟩ := Region.waitsFor_spec hL
  have hnL : ∀ (listed : Array Bool) (j : Nat), i ∈ Region.ready .any ops listed → j ∈ Region.ready .any ops listed → j ≠ L := by
    rintro listed j hr hj rfl
    obtain ⟨-, o, ho, hall⟩ := mem_ready.1 hj
    rw [hoL] at ho
    cases ho
    have h1 := hall eL heL hbL
    rw [honL] at h1
    have h0 := (mem_ready.1 hr).1
    rw [getD_both h0] at h1
    cases h1
  intro fuel
  induction fuel with
  | zero =>
    intro listed a w _ hr hy hS H
    refine ⟨fun h => (by rw [h] at hr; cases hr), fun j hj => ?_⟩
    by_cases hji : j = i
    · subst hji; exact hy.wpOp hi hS ⟨fun _ => hS, H⟩
    · have := ready_mono hj hji
      rw [H.1] at this
      cases this
  | succ fuel ih =>
    intro listed a w hfree hr hy hS H
    refine ⟨fun h => (by rw [h] at hr; cases hr), fun j hj => ?_⟩
    by_cases hji : j = i
    · subst hji; exact hy.wpOp hi hS ⟨fun _ => hS, H⟩
    · have hjL := hnL listed j hr hj
      have h1 := H.2 j (ready_mono hj hji)
      obtain ⟨hjun, oj, hoj, hall⟩ := mem_ready.1 hj
      have hnot : ∀ e ∈ oj.after, Region.binds .any e = true → e.on ≠ i := fun e he hb heq => by
        have h1 := hall e he hb
        have h0 := (mem_ready.1 hr).1
        rw [heq, getD_both h0] at h1
        cases h1
      have h2 := wpOp_putIf hoj (hfree j oj hoj hji hjun hnot) (fun cs b => hsel i oi cs b hi) (fun cs b => hsel j oj cs b hoj) hQ hy h1
      have hfree' : ∀ k ok, ops[k]? = some ok → k ≠ i → (listed.setIfInBounds j true).getD k true = false →
          (∀ e ∈ ok.after, Region.binds .any e = true → e.on ≠ i) → oi.apart ops ok = true := fun k ok hk hki hun hno => by
        refine hfree k ok hk hki ?_ hno
        by_cases hjk : j = k
        · subst hjk; exact hjun
        · rw [getD_set_ne true hjk] at hun; exact hun
      refine wpOp_mono (fun a' w' h3 => ⟨h3.2.1, ih (listed.setIfInBounds j true) a' w' hfree' (ready_mono hr (Ne.symm hji)) h3.1 (h3.2.1 hjL) ?_⟩) h2
      rw [Array.setIfInBounds_comm _ _ hji]
      exact h3.2.2
/-- the beginning -/
theorem wp_region_E {id : Nat} {a : Act} {w : World} (L : Nat) (S : World → Prop) (hm : P.follows .mixedOrders = true)
    (h : wpAnyE P ops Q S L ops.size (Array.replicate ops.size false) a w.drew) : (Code.region id ops true).wp P Q a w :=
  wp_region_any hm (wpAny_of_E _ _ _ _ h)
/-- number i is taken first -/
theorem wpAnyE_take {i : Nat} {oi : Oper} {v : Value} {fuel : Nat} {listed : Array Bool} {a : Act} {w : World} (hi : ops[i]? = some oi)
    (hs : Region.noSelect ops = true) (hf : Region.free .any ops listed i = true) (hr : (Region.ready .any ops listed).contains i = true) (hL : Region.waitsFor .any ops L i = true)
    (hQ : ∀ c a w, Q (.panic c) (a.put oi.dst v) w → Q (.panic c) a w) (hS : S w) (hy : YieldsIf P ops S oi v a)
    (h : wpAnyE P ops Q S L fuel (listed.setIfInBounds i true) (a.put oi.dst v) w) : wpAnyE P ops Q S L (fuel + 1) listed a w :=
  wpAnyE_first hi (Region.noSelect_spec hs) hQ hL fuel listed a w (Region.free_spec hi hf) (by simpa using hr) hy hS h
/-- the only one that may come up -/
theorem wpAnyE_one {i : Nat} {oi : Oper} {fuel : Nat} {listed : Array Bool} {a : Act} {w : World} (hr : Region.ready .any ops listed = [i]) (hi : ops[i]? = some oi) (hg : oi.guard = none)
    (h : ∀ K' : Act → World → Prop, Shut (∀ a w, (i ≠ L → S w) → wpAnyE P ops Q S L fuel (listed.setIfInBounds i true) a w → K' a w) → Oper.wp P oi a w K' Q) : wpAnyE P ops Q S L (fuel + 1) listed a w := by
  refine ⟨fun h0 => (by rw [hr] at h0; cases h0), fun j hj => ?_⟩
  rw [hr] at hj
  have hji : j = i := by simpa using hj
  subst hji
  refine wpOp_step hi fun K' hK => ?_
  rw [if_pos (by simp [Region.wanted, hg])]
  exact h K' fun a w hS hW => hK a w ⟨hS, hW⟩
theorem wpAnyE_done {listed : Array Bool} {a : Act} {w : World} (hr : Region.ready .any ops listed = []) (h : Q .normal a w) : ∀ fuel, wpAnyE P ops Q S L fuel listed a w
  | 0 => ⟨hr, h⟩
  | _ + 1 => ⟨fun _ => h, by rw [hr]; simp⟩
end
/-- the blocks of w0 below O, and those from z on, are as they were -/
def Kept (O z : Nat) (w0 w' : World) : Prop := ∀ b, b < w0.heap.size → (b < O ∨ z ≤ b) → w'.heap[b]? = w0.heap[b]?
theorem Kept.refl (O z : Nat) (w : World) : Kept O z w w := fun _ _ _ => rfl
theorem Kept.cell {O z : Nat} {w0 w' : World} (h : Kept O z w0 w') {b j : Nat} {u : Value} (hb : b < O ∨ z ≤ b) (hc : w0.cell? ⟨b, j, none⟩ = some u) : w'.cell? ⟨b, j, none⟩ = some u :=
  (World.cell?_of_block (h b (World.block_lt_of_cell? w0 _ hc) hb)).trans hc
theorem Kept.below {O z : Nat} {w0 w1 w' : World} (h : Kept O z w0 w1) (hs : w0.heap.size ≤ w1.heap.size) (hb : Below w1.heap.size w1 w') : Kept O z w0 w' := fun b hlt hc => (hb.block b (Nat.lt_of_lt_of_le hlt hs)).trans (h b hlt hc)
theorem kept_below {O z : Nat} {w0 w' : World} (hb : Below w0.heap.size w0 w') : Kept O z w0 w' := fun b hlt _ => hb.block b hlt
end Go.Proofs.YtaefpjecalnbcaaGreat
namespace Go.Proofs.YtaefpjecalnbcaaGreat
/-- the mask of ways -/
def mOf (l : List (List Int)) : List (List Int) := rOf l l.length
theorem mOf_mask (l : List (List Int)) : IsMask l (mOf l) := rOf_mask l
theorem insW_len (w : List Int) : ∀ o, (insW w o).length = o.length + 1
  | [] => rfl
  | u :: r => by
    rw [insW]
    split
    · simp [insW_len w r]
    · simp
theorem rOf_len (l : List (List Int)) : ∀ n, (rOf l n).length ≤ n
  | 0 => by simp [rOf]
  | n + 1 => by
    have := rOf_len l n
    rw [rOf]
    split
    · rw [insW_len]; omega
    · omega
theorem mOf_len (l : List (List Int)) : (mOf l).length ≤ l.length := rOf_len l _
/-- the rests of the ways under a number -/
def wholeW (n : Int) (l : List Int) : Bool := decide (l = [n])
def underW (l : List (List Int)) (n : Int) : List (List Int) := (l.filter (fun w => decide (1 < w.length) && decide (w.head? = some n))).map List.tail
theorem under_mem (l : List (List Int)) (n : Int) (w : List Int) : w ∈ underW l n ↔ w ≠ [] ∧ n :: w ∈ l := by
  unfold underW
  simp only [List.mem_map, List.mem_filter, Bool.and_eq_true, decide_eq_true_eq]
  constructor
  · rintro ⟨v, ⟨h1, h2, h3⟩, rfl⟩
    cases v with
    | nil => simp at h2
    | cons x v =>
      simp at h2 h3
      subst h3
      exact ⟨fun e => by simp at e; subst e; simp at h2, h1⟩
  · rintro ⟨h1, h2⟩
    exact ⟨n :: w, ⟨h2, by have := List.length_pos_iff.2 h1; simp; omega, rfl⟩, rfl⟩
theorem under_sorted {l : List (List Int)} (h : l.Pairwise (fun a b => ltW a b = true)) (n : Int) : (underW l n).Pairwise (fun a b => ltW a b = true) := by
  unfold underW
  rw [List.pairwise_map]
  refine List.Pairwise.imp_of_mem ?_ (h.filter _)
  intro a b ha hb hab
  have ha' := (List.mem_filter.1 ha).2
  have hb' := (List.mem_filter.1 hb).2
  simp only [Bool.and_eq_true, decide_eq_true_eq] at ha' hb'
  cases a with
  | nil => simp at ha'
  | cons x a =>
    cases b with
    | nil => simp at hb'
    | cons y b =>
      simp at ha' hb'
      obtain ⟨-, rfl⟩ := ha'
      obtain ⟨-, rfl⟩ := hb'
      simpa [ltW] using hab
/-- what lies under a number of a mask is a mask -/
theorem under_self (l : List (List Int)) (n : Int) : mOf (underW (mOf l) n) = underW (mOf l) n := by
  refine (mOf_mask _).one ⟨under_sorted (mOf_mask l).1 n, fun w => ⟨fun hw => ?_, fun hw => hw.1⟩⟩
  obtain ⟨h1, h2⟩ := (under_mem _ _ _).1 hw
  refine ⟨hw, h1, fun u hu hn hp => ?_⟩
  obtain ⟨g1, g2⟩ := (under_mem _ _ _).1 hu
  have e := (((mOf_mask l).2 _).1 h2).2.2 (n :: u) (((mOf_mask l).2 _).1 g2).1 (by simp) (by rw [List.cons_prefix_cons]; exact ⟨rfl, hp⟩)
  exact (List.cons.inj e).2
end Go.Proofs.YtaefpjecalnbcaaGreat
namespace Go.Proofs.YtaefpjecalnbcaaGreat
open Go.RowKit
def pval {α : Type} (sub : Int → List (List Int) → α → α) (fs : List Fld) (keep : Bool) (ws : List (List Int)) (v : Val α) : List (Val α) :=
  if ws.any (wholeW v.num) = false ∧ underW ws v.num ≠ [] ∧ (fs.getD (fieldAt fs v.num).toNat .zero).kind = 17 ∧ (fs.getD (fieldAt fs v.num).toNat .zero).rep = false then
    [⟨v.num, [], [], (v.subs.take 1).map (sub (fs.getD (fieldAt fs v.num).toNat .zero).of (underW ws v.num))⟩]
  else if ws.any (wholeW v.num) = keep then [v] else []
/-- what a mask keeps, or leaves, of a meaning -/
def partM (s : List Mes) (keep : Bool) : (d : Nat) → Nat → List (List Int) → M d → M d
  | 0, _, _, x => x
  | d + 1, m, ws, x => (⟨(M.vals x).flatMap (pval (fun o u y => partM s keep d o.toNat u y) (s.getD m .zero).fields keep ws), if keep = true then [] else M.unk x⟩ : Msgd (M d))
end Go.Proofs.YtaefpjecalnbcaaGreat
namespace Go.Proofs.YtaefpjecalnbcaaGreat
open Go.RowKit
def WayP (w : World) (r : List Value) (l : List Int) : Prop := ∃ v, r = [v] ∧ IntsAt w v l
/-- A [][]int. -/
def WaysAt (w : World) (v : Value) (ls : List (List Int)) : Prop := RowsAt WayP 1 w v ls
theorem WayP.keep {w w' : World} {r : List Value} {l : List Int} (h : WayP w r l) (hk : ∀ p u, w.cell? p = some u → w'.cell? p = some u) : WayP w' r l := let ⟨v, h1, h2⟩ := h; ⟨v, h1, h2.keep hk⟩
theorem WaysAt.keep {w w' : World} {v : Value} {ls : List (List Int)} (h : WaysAt w v ls) (hk : ∀ p u, w.cell? p = some u → w'.cell? p = some u) : WaysAt w' v ls := RowsAt.keep h hk fun _ _ hx => hx.keep hk
theorem WaysAt.below {w w' : World} {v : Value} {ls : List (List Int)} (h : WaysAt w v ls) (hb : Below w.heap.size w w') : WaysAt w' v ls := h.keep (below_keeps hb)
theorem WaysAt.open {w : World} {v : Value} {ls : List (List Int)} (h : WaysAt w v ls) :
    ls.length ≤ 140737488355328 ∧ ∃ a cap, v = .slice a ls.length cap ∧ (a = none → cap = 0) ∧ ∀ k l, ls[k]? = some l → ∃ b o a2 c2, a = some ⟨b, o, none⟩ ∧ w.cell? ⟨b, o + k, none⟩ = some (.slice a2 l.length c2) ∧ IntsAt w (.slice a2 l.length c2) l := by
  obtain ⟨h1, a, cap, h2, h3, h4⟩ := RowsAt.open (by decide) h
  refine ⟨h1, a, cap, h2, h3, fun k l hl => ?_⟩
  obtain ⟨b, o, r, ha, -, hc, v', rfl, hI⟩ := h4 k l hl
  have hI' := hI
  obtain ⟨-, a2, c2, rfl, -, -⟩ := hI'.open
  have := hc 0 _ rfl
  rw [Nat.mul_one, Nat.add_zero] at this
  exact ⟨b, o, a2, c2, ha, this, hI⟩
theorem size_ints (w : World) : (sizeOf 68).run Tryz.prog w = .ok 1 w := by kernel_rfl
theorem under_ways : Tryz.prog.underlying 28 = some (.slice 68) := Tryz.underlying28
theorem info_ints : (Tryz.prog.info? 68).map (fun i => (i.zero, i.size, i.bytes)) = some (some (.slice none 0 0), 1, 24) := by kernel_rfl
theorem way_get {ls : List (List Int)} {n i : Nat} (hn : n = ls.length) (h : i < n) : ∃ x, ls[i]? = some x := ⟨_, List.getElem?_eq_getElem (by omega)⟩
end Go.Proofs.YtaefpjecalnbcaaGreat
namespace Go.Proofs.YtaefpjecalnbcaaGreat
open Go.RowKit
theorem any_at {α : Type} {p : α → Bool} {l : List α} {i : Nat} {x : α} (h : l[i]? = some x) : (l.drop i).any p = (p x || (l.drop (i + 1)).any p) := by
  rw [drop_at h]; rfl
theorem any_end {α : Type} {p : α → Bool} {l : List α} {i : Nat} (h : l.length ≤ i) : (l.drop i).any p = false := by
  rw [List.drop_eq_nil_of_le h]; rfl
def IndexPost (z : Bool) (w : World) (e : Ending) (w' : World) : Prop := ∃ r : Int, e = .returned (.int .i64 r) ∧ decide (0 ≤ r) = z ∧ Drew w w'
set_option maxRecDepth 100000 in
set_option maxHeartbeats 4000000 in
theorem indexFunc_ways {w : World} {v : Value} {ls : List (List Int)} (h : WaysAt w v ls) (F : Nat) (cap : Array Value) (p : List Int → Bool) (hcf : ∀ (args : Array Value) (w : World), (callFunc F args).run Tryz.prog w = .ok (.enter F args) w)
    (hcl : ∀ (u : Value) (l : List Int) (wr : World), IntsAt wr u l → Drew w wr → Calls Tryz.prog F (#[u] ++ cap) wr fun e w' => e = .returned (.bool (p l)) ∧ Drew wr w') :
    Calls Tryz.prog 149 #[v, .func (.func F) #[] cap] w (IndexPost (ls.any p) w) := by
  obtain ⟨hlen, a, c, rfl, -, hat⟩ := h.open
  obtain ⟨n, HN⟩ : ∃ n, Hid (n = ls.length) := ⟨_, rfl⟩
  rw [← HN.out] at hlen ⊢
  obtain ⟨z, HZ⟩ : ∃ z, Hid (z = ls.any p) := ⟨_, rfl⟩
  rw [← HZ.out]
  have HAT := hid hat
  have HCL := hid hcl
  clear hat hcl
  go_enter Tryz.func149, Tryz.ntmps149
  go_wp2
  go_loopw [8] (fun v8 wr => ∃ k : Nat, k ≤ n ∧ v8 = .int .i64 k ∧ Hid (z = (ls.drop k).any p) ∧ Hid (Drew w wr)) (fun v8 _ => n - (intOf v8).toNat)
  case atStart => exact ⟨0, by omega, rfl, by rw [Hid, HZ.out]; rfl, Drew.refl _⟩
  case round =>
    obtain ⟨k, hk, rfl, HK, HB⟩ := hrel
    by_cases hlt : k < n
    · obtain ⟨x, hxi⟩ := way_get HN.out hlt
      obtain ⟨b, o, xa, xc, ha, g0, hX⟩ := HAT.out k x hxi
      replace g0 := HB.out.keeps _ _ g0
      have HX := hid (hX.keep HB.out.keeps)
      have HA := hid (any_at (p := p) hxi)
      have hix := index_run1 Tryz.underlying28 size_ints ha k hlt (cap := c)
      obtain ⟨xn, HXN⟩ : ∃ xn, Hid (xn = x.length) := ⟨_, rfl⟩
      rw [← HXN.out] at g0 HX
      clear hxi hX ha
      go_wp2_with fail
      have hcl := HCL.out
      refine (hcl _ x _ HX.out HB.out).mono ?_
      rintro e w5 ⟨rfl, hb5⟩
      clear hcl
      have HB5 : Hid (Drew w w5) := HB.out.trans hb5
      clear hb5
      cases hp : p x with
      | true =>
        have HE : Hid (z = true) := by rw [Hid, HK.out, HA.out, hp]; rfl
        clear hp
        go_wp2
        go_ret
        exact ⟨_, rfl, by rw [HE.out]; simp, HB5.out⟩
      | false =>
        have HE : Hid (z = (ls.drop (k + 1)).any p) := by rw [Hid, HK.out, HA.out, hp]; rfl
        clear hp
        go_wp2
        go_roundw
        case rel => exact ⟨k + 1, by omega, by go_num, HE.out, HB5.out⟩
        case measure => simp [intOf]; omega
    · have HE : Hid (z = false) := by rw [Hid, HK.out, any_end (by rw [← HN.out]; omega)]
      go_wp2
      go_ret
      exact ⟨_, rfl, by rw [HE.out]; rfl, HB.out⟩
set_option maxRecDepth 100000 in
set_option maxHeartbeats 4000000 in
theorem containsFunc_ways {w : World} {v : Value} {ls : List (List Int)} (h : WaysAt w v ls) (F : Nat) (cap : Array Value) (p : List Int → Bool) (hcf : ∀ (args : Array Value) (w : World), (callFunc F args).run Tryz.prog w = .ok (.enter F args) w)
    (hcl : ∀ (u : Value) (l : List Int) (wr : World), IntsAt wr u l → Drew w wr → Calls Tryz.prog F (#[u] ++ cap) wr fun e w' => e = .returned (.bool (p l)) ∧ Drew wr w') :
    Calls Tryz.prog 118 #[v, .func (.func F) #[] cap] w fun e w' => e = .returned (.bool (ls.any p)) ∧ Drew w w' := by
  have HI := hid (indexFunc_ways h F cap p hcf hcl)
  obtain ⟨-, a, c, rfl, -, -⟩ := h.open
  obtain ⟨z, HZ⟩ : ∃ z, Hid (z = ls.any p) := ⟨_, rfl⟩
  rw [← HZ.out] at HI ⊢
  clear h hcl
  go_enter Tryz.func118, Tryz.ntmps118
  go_wp2_with fail
  refine HI.out.mono ?_
  rintro e w1 ⟨r, rfl, hr, hb⟩
  have HR := hid hr
  have HB := hid hb
  clear hr hb
  by_cases h0 : 0 ≤ r
  · have HT : Hid (z = true) := by rw [Hid, ← HR.out]; exact decide_eq_true h0
    go_wp2_with fail
    go_ret
    exact ⟨by rw [HT.out]; first | done | rfl, HB.out⟩
  · have HT : Hid (z = false) := by rw [Hid, ← HR.out]; exact decide_eq_false h0
    have e1 : decide (0 ≤ r) = false := decide_eq_false h0
    go_wp2_with fail
    go_ret
    exact ⟨by rw [HT.out]; first | done | rfl, HB.out⟩
/-- a mask's value -/
def maskV (v : Value) : Value := .agg #[v]
end Go.Proofs.YtaefpjecalnbcaaGreat
namespace Go.Proofs.YtaefpjecalnbcaaGreat
open Go.RowKit
set_option maxRecDepth 100000 in
set_option maxHeartbeats 4000000 in
theorem mask_Whole_1 {w : World} {q : Nat} {u : Value} {x : Int} {l : List Int} (hq : w.cell? ⟨q, 0, none⟩ = some (.int .i64 x)) (hu : IntsAt w u l) :
    Calls Tryz.prog 119 #[u, .pointer (some ⟨q, 0, none⟩)] w fun e w' => e = .returned (.bool (wholeW x l)) ∧ Drew w w' := by
  obtain ⟨-, a2, c2, rfl, -, hat⟩ := hu.open
  match l, hat with
  | [], _ =>
    go_enter Tryz.func119, Tryz.ntmps119
    go_wp2_with fail
    go_quiet (fail)
    go_wp2_with fail
    go_ret
    exact ⟨rfl, Drew.at_drewN _ _⟩
  | [y], hat =>
    obtain ⟨-, b, o, ha, g0⟩ := hat 0 y rfl
    have hix := index_0 Tryz.underlying68 size_int ha (by decide : 0 < 1) (cap := c2)
    rw [Nat.add_zero] at g0
    clear hat ha
    by_cases hxy : y = x
    · subst hxy
      go_enter Tryz.func119, Tryz.ntmps119
      go_wp2_with fail
      go_quiet (fail)
      go_wp2_with fail
      go_ret
      exact ⟨by simp [wholeW], Drew.at_drewN _ _⟩
    · have e1 : (y == x) = false := by simpa using hxy
      have HE : Hid (wholeW x [y] = false) := by simp [Hid, wholeW, hxy]
      clear hxy
      go_enter Tryz.func119, Tryz.ntmps119
      go_wp2_with fail
      go_quiet (fail)
      go_wp2_with fail
      go_ret
      exact ⟨by rw [HE.out]; first | done | rfl, Drew.at_drewN _ _⟩
  | y :: y2 :: r, _ =>
    obtain ⟨n, HN⟩ : ∃ n, Hid (n = (y :: y2 :: r).length) := ⟨_, rfl⟩
    have HE : Hid (wholeW x (y :: y2 :: r) = false) := by simp [Hid, wholeW]
    rw [HE.out, ← HN.out]
    have e1 : ((n : Int) == 1) = false := by have := HN.out; simp at this; simp; omega
    have e2 : decide ((n : Int) = 1) = false := by have := HN.out; simp at this; simp; omega
    have e3 : (n == 1) = false := by have := HN.out; simp at this; simp; omega
    clear hat hu
    go_enter Tryz.func119, Tryz.ntmps119
    go_wp2_with fail
    go_quiet (fail)
    go_wp2_with fail
    go_ret
    exact ⟨rfl, Drew.at_drewN _ _⟩
/-- A [][]int of the call's own: its cells. -/
def WaysRow (w : World) (base : Nat) (v : Value) (vs : List Value) : Prop := w.ownsRow base 68 1 v vs.length vs
set_option maxRecDepth 100000 in
set_option maxHeartbeats 4000000 in
theorem clone_ways {w : World} {v : Value} {vs : List Value} (h : Seg w v 1 vs.length vs) (h1 : ∀ u ∈ vs, u.oneCell' = true) (hl : vs.length ≤ 1099511627776) :
    Calls Tryz.prog 47 #[v] w fun e w' => ∃ v', e = .returned v' ∧ WaysRow w' w.heap.size v' vs ∧ Below w.heap.size w w' := by
  have H := hid h
  obtain ⟨-, -, a, cap, rfl, -, -, hnil, -⟩ := h
  obtain ⟨n, HN⟩ : ∃ n, Hid (n = vs.length) := ⟨_, rfl⟩
  rw [← HN.out] at hl H ⊢
  cases a with
  | none =>
    have := hnil rfl
    have HE : Hid (vs = []) := List.eq_nil_of_length_eq_zero (by have := HN.out; obtain ⟨-, -, a', c', e, h1, -⟩ := H.out; cases e; omega)
    clear hl
    go_enter Tryz.func47, Tryz.ntmps47
    have eqn := fun W a n c n' c' => Lib.run_eql_slice_nil (P := Tryz.prog) W 28 _ a n c n' c' under_ways
    go_wp2
    go_ret
    refine ⟨_, rfl, ?_, Below.refl _ _⟩
    rw [HE.out]
    exact World.ownsRow_nil _ _ _ _
  | some ad =>
    have hO : WaysRow (w.alloc (.cells #[] 68)) w.heap.size (.slice (some ⟨w.heap.size, 0, none⟩) 0 0) [] := by
      exact World.ownsRow_made (base := w.heap.size) (e := 68) (size := 1) w #[] 0 (Nat.le_refl _) (by unfold maxLen; omega) rfl
    obtain ⟨v', w', hr, hO', hg, -⟩ := seg_append (P := Tryz.prog) _ w.heap.size 28 28 68 (.slice none 0 0) 1 24 under_ways info_ints rfl (by decide) _ _ _ n _ _ hO (H.out.below ((Below.refl _ _).alloc (Nat.le_refl _) _))
      h1 (by simp; omega) (by simp; omega) (by simp)
    have hg' : Below w.heap.size w w' := ((Below.refl w.heap.size w).alloc (Nat.le_refl _) (.cells #[] 68)).grown hg (by simp) (by intro q e; simp [Value.ownBlock] at e; omega)
    have HO : Hid (WaysRow w' w.heap.size v' vs) := by
      unfold Hid WaysRow; rw [← HN.out]; simpa using hO'
    have HG := hid hg'
    clear hO' hg' hg hO h1
    go_enter Tryz.func47, Tryz.ntmps47
    have eqn := fun W a n c n' c' => Lib.run_eql_slice_nil (P := Tryz.prog) W 28 _ a n c n' c' under_ways
    go_wp2_with (at_builtin; refine wpList_append_eq rfl _ _ _ rfl _ _ rfl rfl hr ?_)
    go_ret
    exact ⟨_, rfl, HO.out, HG.out⟩
end Go.Proofs.YtaefpjecalnbcaaGreat
