/- canon.Encode, Size, Value: mayCode, encM, encV. The meaning's weight is at most 2^30. bytes.Equal. No condition. darningref11.Is; tree.Of and canon.Is, of a contract of tree.of. Bytes of at most 2 to the 40. -/
import Derived.Test.YtbdeclkccchnoaaGreatZ01
import Derived.Test.YtbdeclkccchnoaaGreatZ13
import Derived.Test.YtbdeclkccchnoaaGreatZ14
import Derived.Test.YtbdeclkccchnoaaGreatZ21
import Derived.Test.YtbdeclkccchnoaaGreatZ22
namespace Go.Proofs.YtbdeclkccchnoaaGreat
open Go.RowKit
/-! How long the bytes are. -/
theorem sum_le30 {α : Type} {F : α → List UInt8} {f : α → Nat} : ∀ (l : List α), (∀ x ∈ l, (F x).length ≤ 30 * f x) → (l.flatMap F).length ≤ 30 * (l.map f).sum
  | [], _ => by simp
  | x :: r, h => by
    have h1 := h x (by simp)
    have h2 := sum_le30 r fun y hy => h y (by simp [hy])
    rw [List.flatMap_cons, List.length_append, List.map_cons, List.sum_cons]
    omega
theorem rput_le (n x : Int) (t : List UInt8) (h : 0 ≤ 8 * n + x ∧ 8 * n + x < 18446744073709551616) (ht : t.length < 18446744073709551616) : (rput n x t).length ≤ 20 + t.length := by
  unfold rput
  have h1 := vput_le (x := (8 * n + x).toNat) (by omega)
  have h2 := vput_le (x := t.length) (by omega)
  rw [List.length_append, List.length_append]
  split <;> simp <;> omega
theorem enc_lenV {w : World} {s : List Mes} {d : Nat} (ih : ∀ (root : Int) (v : Value) (x : M d), MsgAt d w v x → mwt d x ≤ 1125899906842624 → (encM s d root x).length + 30 ≤ 30 * mwt d x) (f : Fld) (hf : 0 ≤ f.number ∧ f.number ≤ 536870911) (v : Value) (x : Val (M d)) (h : ValAt (MsgAt d) w v x)
    (hw : vwt (mwt d) x ≤ 1125899906842624) : (encV (encM s d) f x).length ≤ 30 * vwt (mwt d) x := by
  obtain ⟨wv, tv, sv, rfl, -, hW, hT, hSu⟩ := h
  obtain ⟨-, sa, sc, -, -, hsa⟩ := hSu.open
  have hwt := hw
  unfold vwt at hwt
  unfold encV
  by_cases hk : knumber f.kind = true
  · rw [if_pos hk]
    cases hr : f.rep with
    | true =>
      rw [if_pos rfl]
      have h1 := kpack_le f.kind x.words hW.2
      have h2 := rput_le f.number 2 (kpack f.kind x.words) (by omega) (by omega)
      unfold vwt
      omega
    | false =>
      rw [if_neg (by decide)]
      have h0 : x.words.getD 0 0 < 2 ^ 64 := by
        cases hx : x.words[0]? with
        | none => rw [List.getD, hx]; decide
        | some y => rw [List.getD, hx]; exact hW.2 y (List.mem_of_getElem? hx)
      have h1 := kput_le f.kind h0
      have h3 : kwire f.kind ≤ 5 := by
        unfold kwire
        repeat' split
        all_goals omega
      have h2 := rput_le f.number (kwire f.kind) (kput f.kind (x.words.getD 0 0)) (by omega) (by omega)
      unfold vwt
      omega
  · rw [if_neg hk, List.length_append]
    have h1 : (x.texts.flatMap (rput f.number 2)).length ≤ 30 * twt x.texts := by
      refine sum_le30 _ fun t ht => ?_
      have h3 := mem_sum_le (fun t : List UInt8 => 1 + t.length) x.texts t ht
      unfold twt at hwt
      have h2 := rput_le f.number 2 t (by omega) (by omega)
      show _ ≤ 30 * (1 + t.length)
      omega
    have h2 : (x.subs.flatMap fun y => rput f.number 2 (encM s d f.of y)).length ≤ 30 * (x.subs.map (mwt d)).sum := by
      refine sum_le30 _ fun y hy => ?_
      obtain ⟨k, hk⟩ := List.mem_iff_getElem?.1 hy
      obtain ⟨b, o, v1, v2, -, -, -, hM⟩ := hsa k y hk
      have h3 := mem_sum_le (mwt d) x.subs y hy
      have h4 := ih f.of _ y hM (by omega)
      have h5 := rput_le f.number 2 (encM s d f.of y) (by omega) (by omega)
      omega
    unfold vwt
    omega
theorem enc_len {w : World} {s : List Mes} (hs : sright s = true) : ∀ (d : Nat) (root : Int) (v : Value) (x : M d), MsgAt d w v x → mwt d x ≤ 1125899906842624 → (encM s d root x).length + 30 ≤ 30 * mwt d x
  | 0, _, _, _, h, _ => h.elim
  | d + 1, root, v, x, h, hw => by
    obtain ⟨vv, uv, rfl, hV, hU⟩ := h
    obtain ⟨-, va, vc, -, -, hva⟩ := hV.open
    have e : mwt (d + 1) x = 1 + twt (M.unk x) + ((M.vals x).map (vwt (mwt d))).sum := rfl
    have e2 : encM s (d + 1) root x = (M.vals x).flatMap (fun v => encV (encM s d) ((s.getD root.toNat .zero).fields.getD (fieldAt (s.getD root.toNat .zero).fields v.num).toNat .zero) v) ++ (M.unk x).flatMap id := rfl
    rw [e] at hw ⊢
    rw [e2, List.length_append]
    have h1 : ((M.unk x).flatMap id).length ≤ 30 * twt (M.unk x) := by
      refine sum_le30 _ fun t _ => ?_
      show t.length ≤ 30 * (1 + t.length)
      omega
    have h2 : ((M.vals x).flatMap (fun v => encV (encM s d) ((s.getD root.toNat .zero).fields.getD (fieldAt (s.getD root.toNat .zero).fields v.num).toNat .zero) v)).length ≤ 30 * ((M.vals x).map (vwt (mwt d))).sum := by
      refine sum_le30 _ fun y hy => ?_
      obtain ⟨k, hk⟩ := List.mem_iff_getElem?.1 hy
      obtain ⟨b, o, v1, v2, v3, -, -, -, -, -, hM⟩ := hva k y hk
      have h3 := mem_sum_le (vwt (mwt d)) (M.vals x) y hy
      refine enc_lenV (w := w) (fun root v x h hw => enc_len hs d root v x h hw) _ ?_ _ y hM (by omega)
      generalize (fieldAt (s.getD root.toNat .zero).fields y.num).toNat = j
      by_cases hr : root.toNat < s.length
      · by_cases hj : j < (s.getD root.toNat .zero).fields.length
        · have hm : (s.getD root.toNat .zero).fields.getD j .zero ∈ (s.getD root.toNat .zero).fields := by
            have : (s.getD root.toNat .zero).fields.getD j .zero = (s.getD root.toNat .zero).fields[j] := by rw [List.getD, List.getElem?_eq_getElem hj]; rfl
            rw [this]; exact List.getElem_mem hj
          have := sright_num hs root.toNat hr _ hm
          omega
        · have : (s.getD root.toNat .zero).fields.getD j .zero = .zero := by rw [List.getD, List.getElem?_eq_none (by omega)]; rfl
          rw [this]; decide
      · have h0 : s.getD root.toNat .zero = .zero := by rw [List.getD, List.getElem?_eq_none (by omega)]; rfl
        rw [h0]
        have : (Mes.zero).fields.getD j .zero = Fld.zero := by simp [Mes.zero]
        rw [this]; decide
    omega
def encOut (s : List Mes) (root : Int) (d : Nat) (x : M d) : List UInt8 := if mayCode s root d x = 0 then encM s d root x else []
theorem may_ill {s : List Mes} {root : Int} {d : Nat} {x : M d} (h : sright s = false) : mayCode s root d x = 9 := by rw [mayCode, if_pos h]
theorem may_arg {s : List Mes} {root : Int} {d : Nat} {x : M d} (h : sright s = true) (h2 : root < 0 ∨ (s.length : Int) ≤ root) : mayCode s root d x = 2 := by rw [mayCode, if_neg (by simp [h]), if_pos h2]
theorem may_form {s : List Mes} {root : Int} {d : Nat} {x : M d} (h : sright s = true) (h2 : ¬ (root < 0 ∨ (s.length : Int) ≤ root)) (h3 : rightB s d root x = false) : mayCode s root d x = 12 := by rw [mayCode, if_neg (by simp [h]), if_neg h2, if_pos h3]
theorem may_fine {s : List Mes} {root : Int} {d : Nat} {x : M d} (h : sright s = true) (h2 : ¬ (root < 0 ∨ (s.length : Int) ≤ root)) (h3 : rightB s d root x = true) : mayCode s root d x = 0 := by rw [mayCode, if_neg (by simp [h]), if_neg h2, if_neg (by simp [h3])]
theorem rightB_root {s : List Mes} {root : Int} : ∀ {d : Nat} {x : M d}, rightB s d root x = true → ¬ (root < 0 ∨ (s.length : Int) ≤ root)
  | 0, _, h => by simp [rightB] at h
  | d + 1, _, h => by have := rightB_parts h; omega
def EncPost (w : World) (c : Nat) (l : List UInt8) (e : Ending) (w' : World) : Prop := ∃ v', e = .returned (.tuple #[v', .int .u8 c]) ∧ Own w' w.heap.size v' l ∧ Below w.heap.size w w'
set_option maxRecDepth 100000 in
set_option maxHeartbeats 4000000 in
theorem canon_Encode {w : World} {sv v : Value} {s : List Mes} {d : Nat} {x : M d} (hS : SchemaAt w sv s) (root : Int) (hM : MsgAt d w v x) (hw : mwt d x ≤ 1073741824) :
    Calls Tryz.prog 8 #[sv, .int .i64 root, v] w (EncPost w (mayCode s root d x) (encOut s root d x)) := by
  obtain ⟨a1, n1, c1, a2, n2, c2, rfl⟩ := hM.form
  obtain ⟨-, sa, sc, rfl, -⟩ := hS.open
  obtain ⟨sn, HSN⟩ : ∃ n, Hid (n = s.length) := ⟨_, rfl⟩
  rw [← HSN.out] at hS ⊢
  have HS := hid hS
  have HM := hid hM
  have HW := hid hw
  have H2 : Hid (∀ W, W = (w.alloc (.cells #[.slice a1 n1 c1, .slice a2 n2 c2] 27)) → Blk W w.heap.size [.slice a1 n1 c1, .slice a2 n2 c2] 27 ∧ Below w.heap.size w W ∧ w.heap.size < W.heap.size) := by
    rintro W rfl
    exact ⟨Blk.new w _ _, (Below.refl w.heap.size w).alloc (Nat.le_refl _) _, by simp⟩
  clear hS hM hw
  go_enter Tryz.func8, Tryz.ntmps8
  go_wp2_with fail
  have h2 := H2.out _ rfl
  clear H2
  obtain ⟨W2, HW2⟩ : ∃ W2, Hid (W2 = (w.alloc (.cells #[.slice a1 n1 c1, .slice a2 n2 c2] 27))) := ⟨_, rfl⟩
  rw [← HW2.out] at h2 ⊢
  obtain ⟨hk1, hb1, -⟩ := h2
  obtain ⟨b1, HB1E⟩ : ∃ b1, Hid (b1 = w.heap.size) := ⟨_, rfl⟩
  rw [← HB1E.out] at hk1 ⊢
  have HK1 := hid hk1
  have HB1 := hid hb1
  clear hk1 hb1 HW2
  refine (schema_Right (HS.out.keep (below_keeps HB1.out))).mono ?_
  rintro e w1 ⟨rfl, hb2⟩
  cases hsr : sright s with
  | false =>
    have HC : Hid (mayCode s root d x = 9 ∧ encOut s root d x = []) := by
      have := may_ill (root := root) (x := x) hsr
      exact ⟨this, by rw [encOut, if_neg (by omega)]⟩
    have HB2 := hid (HB1.out.trans (hb2.mono HB1.out.size))
    clear hsr hb2
    go_wp2_with fail
    go_ret2
    rw [HC.out.1, HC.out.2]
    exact ⟨_, rfl, own_nil _ _, HB2.out⟩
  | true =>
    have HSR := hid hsr
    have HB2 := hid (HB1.out.trans (hb2.mono HB1.out.size))
    have HK2 := hid (HK1.out.below hb2)
    clear hsr hb2 HK1 HB1
    by_cases hroot : root < 0 ∨ (sn : Int) ≤ root
    · have HC : Hid (mayCode s root d x = 2 ∧ encOut s root d x = []) := by
        have := may_arg (d := d) (x := x) HSR.out (by rw [← HSN.out]; exact hroot)
        exact ⟨this, by rw [encOut, if_neg (by omega)]⟩
      rcases hroot with hroot | hroot
      all_goals
        go_wp2_with fail
        go_ret2
        exact ⟨_, by rw [HC.out.1]; rfl, by rw [HC.out.2]; exact own_nil _ _, HB2.out⟩
    · have HRT : Hid (¬ (root < 0 ∨ (s.length : Int) ≤ root)) := by rw [← HSN.out]; exact hroot
      obtain ⟨r, rfl⟩ : ∃ r : Nat, root = r := ⟨root.toNat, by omega⟩
      have hr : r < sn := by omega
      clear hroot
      have l1 := HK2.out.lt
      have x0 := HK2.out.cell 0 _ rfl
      have x1 := HK2.out.cell 1 _ rfl
      have HTR := hid (tree_Right (HS.out.keep (below_keeps HB2.out)) r (HM.out.keep (below_keeps HB2.out)) (by have := HW.out; omega))
      go_wp2_with fail
      refine HTR.out.mono ?_
      rintro e w2 ⟨rfl, hb3⟩
      rw [HSR.out, Bool.true_and]
      have HB3 := hid (HB2.out.trans (hb3.mono HB2.out.size))
      have HK3 := hid (HK2.out.below hb3)
      clear hb3 HK2 HB2 l1 x0 x1
      cases hrb : rightB s d r x with
      | false =>
        have HC : Hid (mayCode s r d x = 12 ∧ encOut s r d x = []) := by
          have := may_form HSR.out HRT.out hrb
          exact ⟨this, by rw [encOut, if_neg (by omega)]⟩
        clear hrb
        go_wp2_with fail
        go_ret2
        rw [HC.out.1, HC.out.2]
        exact ⟨_, rfl, own_nil _ _, HB3.out⟩
      | true =>
        have HRB := hid hrb
        have HC : Hid (mayCode s r d x = 0 ∧ encOut s r d x = encM s d r x) := by
          have := may_fine HSR.out HRT.out hrb
          exact ⟨this, by rw [encOut, if_pos this]⟩
        clear hrb
        have l1 := HK3.out.lt
        have x0 := HK3.out.cell 0 _ rfl
        have x1 := HK3.out.cell 1 _ rfl
        have hel := enc_len HSR.out d r _ x HM.out (by have := HW.out; omega)
        have H4 : Hid (∀ W, W = (w2.alloc (.cells #[.slice sa sn sc, .slice none 0 0] 58)) → WrAt W w2.heap.size (.slice sa sn sc) (.slice none 0 0) [] ∧ Below w2.heap.size w2 W) := by
          rintro W rfl
          exact ⟨⟨Blk.new w2 _ _, own_nil _ _⟩, (Below.refl w2.heap.size w2).alloc (Nat.le_refl _) _⟩
        have HEL : Hid ((encM s d r x).length ≤ 32212254720) := by have := HW.out; show _ ≤ _; omega
        clear hel
        go_wp2_with fail
        obtain ⟨hA4, hb4⟩ := H4.out _ rfl
        clear H4
        obtain ⟨W4, HW4⟩ : ∃ W4, Hid (W4 = w2.alloc (.cells #[.slice sa sn sc, .slice none 0 0] 58)) := ⟨_, rfl⟩
        rw [← HW4.out] at hA4 hb4 ⊢
        have HB4 := hid (HB3.out.trans (hb4.mono HB3.out.size))
        have hws : w.heap.size ≤ w2.heap.size := HB3.out.size
        have HA4 := hid hA4
        have HMW := hid (writer_message (w0 := w) HSR.out d W4 w2.heap.size (.slice sa sn sc) (.slice none 0 0) _ [] r x HS.out HM.out HB4.out hws hA4 HRB.out (by have := HEL.out; simp; omega) (by have := HW.out; omega))
        clear hA4 hb4 HW4 l1 x0 x1
        refine HMW.out.mono ?_
        rintro e w5 ⟨rfl, bv5, hA5, hS5⟩
        rw [List.nil_append] at hA5
        have HB5 : Hid (Below w.heap.size w w5) := hS5.below HA4.out hws HB4.out
        have l5 := hA5.1.lt
        have q1 := hA5.1.cell 1 _ rfl
        have HO5 : Hid (Own w5 w.heap.size bv5 (encM s d r x)) := hA5.2.mono (by omega)
        obtain ⟨a5, c5, e5⟩ := hA5.2.form
        obtain ⟨n5, HN5⟩ : ∃ n, Hid (n = (encM s d r x).length) := ⟨_, rfl⟩
        rw [← HN5.out] at e5
        subst e5
        clear hA5 hS5 hws
        go_wp2_with fail
        go_ret2
        exact ⟨_, by rw [HC.out.1]; rfl, by rw [HC.out.2]; exact HO5.out, HB5.out⟩
set_option maxRecDepth 100000 in
set_option maxHeartbeats 4000000 in
theorem canon_Size {w : World} {sv v : Value} {s : List Mes} {d : Nat} {x : M d} (hS : SchemaAt w sv s) (root : Int) (hM : MsgAt d w v x) (hw : mwt d x ≤ 1073741824) :
    Calls Tryz.prog 10 #[sv, .int .i64 root, v] w fun e w' => e = .returned (.tuple #[.int .i64 (encOut s root d x).length, .int .u8 (mayCode s root d x)]) ∧ Below w.heap.size w w' := by
  obtain ⟨a1, n1, c1, a2, n2, c2, rfl⟩ := hM.form
  obtain ⟨-, sa, sc, rfl, -⟩ := hS.open
  obtain ⟨sn, HSN⟩ : ∃ n, Hid (n = s.length) := ⟨_, rfl⟩
  rw [← HSN.out] at hS ⊢
  have HS := hid hS
  have HM := hid hM
  have HW := hid hw
  obtain ⟨c, HC⟩ : ∃ c, Hid (c = mayCode s root d x) := ⟨_, rfl⟩
  obtain ⟨l, HL⟩ : ∃ l, Hid (l = encOut s root d x) := ⟨_, rfl⟩
  rw [← HC.out, ← HL.out]
  clear hS hM hw
  go_enter Tryz.func10, Tryz.ntmps10
  go_wp2_with fail
  have hB : Below w.heap.size w (w.alloc (.cells #[.slice a1 n1 c1, .slice a2 n2 c2] 27)) := (Below.refl w.heap.size w).alloc (Nat.le_refl _) _
  have HCE := hid (canon_Encode (HS.out.below hB) root (HM.out.below hB) HW.out)
  rw [← HC.out, ← HL.out] at HCE
  have HB := hid hB
  clear hB
  refine HCE.out.mono ?_
  rintro e w1 ⟨v1, rfl, hO, hb1⟩
  obtain ⟨a, q, e1⟩ := hO.form
  obtain ⟨n, HN⟩ : ∃ n, Hid (n = l.length) := ⟨_, rfl⟩
  rw [← HN.out] at e1
  subst e1
  have HB2 := hid (HB.out.trans (hb1.mono HB.out.size))
  clear hO hb1
  go_wp2_with fail
  go_ret2
  exact ⟨by rw [HN.out]; rfl, HB2.out⟩
end Go.Proofs.YtbdeclkccchnoaaGreat
namespace Go.Proofs.YtbdeclkccchnoaaGreat
open Go.RowKit
end Go.Proofs.YtbdeclkccchnoaaGreat
namespace Go.Proofs.YtbdeclkccchnoaaGreat
open Go.RowKit
def TreePost (s : List Mes) (root : Int) (l : List UInt8) (d : Int) (w : World) (e : Ending) (w' : World) : Prop :=
  ∃ v', e = .returned (.tuple #[v', .int .u8 ((vcheck s root l d).2 : Nat)]) ∧ Below w.heap.size w w' ∧ (∃ a1 n1 c1 a2 n2 c2, v' = .agg #[.slice a1 n1 c1, .slice a2 n2 c2]) ∧ ((vcheck s root l d).2 = 0 → Apart 0 w.heap.size w' fun w2 => MsgAt (d.toNat + 1) w2 v' (tof s d.toNat root.toNat l))
set_option maxRecDepth 100000 in
set_option maxHeartbeats 4000000 in
theorem tree_Of {w : World} {vs vb : Value} {s : List Mes} {l : List UInt8} (hof : sright s = true → ∀ d', TOfOk w vs s d') (hS : SchemaAt w vs s) (hb : Bytes w vb l) (hl : l.length ≤ 1099511627776) (root d : Int) :
    Calls Tryz.prog 11 #[vs, .int .i64 root, vb, .int .i64 d] w (TreePost s root l d w) := by
  obtain ⟨W1, HW1⟩ : ∃ W1, Hid (W1 = w.alloc (.cells #[.slice none 0 0, .slice none 0 0] 27)) := ⟨_, rfl⟩
  have hbw : Below w.heap.size w W1 := by rw [HW1.out]; (repeat (first | with_reducible exact Below.refl _ _ | with_reducible refine Below.setCell ?_ (by first | omega | (simp; omega) | (simp; done)) _ | with_reducible refine Below.alloc ?_ (by first | omega | (simp; omega) | (simp; done)) _ | with_reducible refine below_drewN ?_ _ | with_reducible refine Below.drew ?_))
  have hbx : Blk W1 w.heap.size [.slice none 0 0, .slice none 0 0] 27 := by rw [HW1.out]; exact Blk.new w [.slice none 0 0, .slice none 0 0] _
  have HBW := hid hbw
  have HBX := hid hbx
  have HC := hid (valid_Check (hS.below hbw) (hb.below hbw) root d)
  have HOF := hid hof
  have HB := hid hb
  have HL := hid hl
  obtain ⟨-, sa, sc, rfl, -⟩ := hS.open
  obtain ⟨-, a, c, rfl, -⟩ := hb.open
  obtain ⟨n, HN⟩ : ∃ n, Hid (n = s.length) := ⟨_, rfl⟩
  obtain ⟨m, HM⟩ : ∃ n, Hid (n = l.length) := ⟨_, rfl⟩
  rw [← HN.out] at HC HOF ⊢
  rw [← HM.out] at HC HB ⊢
  obtain ⟨p, HP⟩ : ∃ p, Hid (p = (vcheck s root l d).1) := ⟨_, rfl⟩
  obtain ⟨z, HZ⟩ : ∃ z, Hid (z = (vcheck s root l d).2) := ⟨_, rfl⟩
  rw [← HP.out, ← HZ.out] at HC
  obtain ⟨Q, HQ⟩ : ∃ Q : Ending → World → Prop, Hid (Q = TreePost s root l d w) := ⟨_, rfl⟩
  rw [← HQ.out]
  clear hS hb hof hbw hbx
  obtain ⟨X, HX⟩ : ∃ X, Hid (X = w.heap.size) := ⟨_, rfl⟩
  rw [← HX.out] at HBX
  by_cases hz : z = 0
  · obtain ⟨g1, ⟨g2, g3⟩, ⟨g4, g5⟩, g6⟩ := vcheck_ok (HZ.out.symm.trans hz)
    obtain ⟨r, rfl⟩ : ∃ r : Nat, root = r := ⟨root.toNat, by omega⟩
    have HG := hid (And.intro g3 g6)
    have HOF2 := hid (HOF.out g1)
    subst hz
    clear g1 g2 g3 g4 g5 g6 hl
    go_enter Tryz.func11, Tryz.ntmps11
    go_wp2_with ((try rw [← HW1.out]); go_at_call 21; refine HC.out.mono ?_; rintro e w1 ⟨rfl, hb1⟩; have HB1 := hid (HBW.out.trans (hb1.mono HBW.out.size)); have hx1 := HBX.out.below hb1)
    have hv : (vmsg s d.toNat r l).2 = 0 := by have := HG.out.2; rwa [Int.toNat_natCast] at this
    refine (HOF2.out d.toNat r _ _ l (by have := HG.out.1; omega) HB1.out (HB.out.below HB1.out) HL.out hv).mono ?_
    rintro e w2 ⟨v', rfl, hb2, hap⟩
    obtain ⟨a1, n1, c1, a2, n2, c2, rfl⟩ := hap.here.form
    have hx2 := hx1.below hb2
    have hx0 := hx2.cell 0 _ rfl
    have hx1' := hx2.cell 1 _ rfl
    have hf0 := hx2.free 0
    have hf1 := hx2.free 1
    have hlX := hx2.lt
    rw [HX.out] at hx0 hx1' hf0 hf1 hlX
    go_wp2_with fail
    refine bodyPost_ret (v := .tuple #[.agg #[.slice a1 n1 c1, .slice a2 n2 c2], .int .u8 0]) ?_ rfl ?_
    · simp [results, Tryz.results11, go_sem, hx0, hx1']
    · rw [HQ.out]
      have hbf : Below w.heap.size w ((w2.setCell ⟨w.heap.size, 0, none⟩ (.slice a1 n1 c1)).setCell ⟨w.heap.size, 1, none⟩ (.slice a2 n2 c2)) :=
        ((HB1.out.trans (hb2.mono HB1.out.size)).setCell (Nat.le_refl _) _).setCell (Nat.le_refl _) _
      refine ⟨_, by rw [← HZ.out]; rfl, hbf, ⟨_, _, _, _, _, _, rfl⟩, fun _ w9 hw9 => ?_⟩
      rw [Int.toNat_natCast]
      have hs1 : w.heap.size < w1.heap.size := by have := hx1.lt; rw [HX.out] at this; exact this
      refine hap w9 fun b' hlt' hc => (hw9 b' (by simpa using hlt') (.inr (by omega))).trans ?_
      rw [Below.heap_setCell _ _ _ b' (by show b' ≠ w.heap.size; omega), Below.heap_setCell _ _ _ b' (by show b' ≠ w.heap.size; omega)]
  · have e1 : ((z : Int) != 0) = true := by simpa using hz
    have e2 : ((z : Int) == 0) = false := by simpa using hz
    go_enter Tryz.func11, Tryz.ntmps11
    go_wp2_with ((try rw [← HW1.out]); go_at_call 21; refine HC.out.mono ?_; rintro e w1 ⟨rfl, hb1⟩; have HB1 := hid (HBW.out.trans (hb1.mono HBW.out.size)); have hx2 := HBX.out.below hb1; have hx0 := hx2.cell 0 _ rfl; have hx1' := hx2.cell 1 _ rfl; have hf0 := hx2.free 0; have hf1 := hx2.free 1; have hlX := hx2.lt; rw [HX.out] at hx0 hx1' hf0 hf1 hlX)
    refine bodyPost_ret (v := .tuple #[.agg #[.slice none 0 0, .slice none 0 0], .int .u8 z]) ?_ rfl ?_
    · simp [results, Tryz.results11, go_sem, hx0, hx1']
    · rw [HQ.out]
      have hbf : Below w.heap.size w ((w1.setCell ⟨w.heap.size, 0, none⟩ (.slice none 0 0)).setCell ⟨w.heap.size, 1, none⟩ (.slice none 0 0)) := (HB1.out.setCell (Nat.le_refl _) _).setCell (Nat.le_refl _) _
      exact ⟨_, by rw [← HZ.out], hbf, ⟨_, _, _, _, _, _, rfl⟩, fun h9 => absurd (HZ.out.trans h9) hz⟩
end Go.Proofs.YtbdeclkccchnoaaGreat
