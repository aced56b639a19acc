/- mask.Of: the mask of ways (mOf). At most 2^40 ways, each of at most 2^44 numbers. Mask.Whole, Mask.right, Mask.Under, darningref13.Under; slices.EqualFunc of ways. At most 2^40 ways, each of at most 2^44 numbers. slices.Grow of nil, slices.Concat of two lists of ways; mask.Union. At most 2^40 ways. mask.Meet. darningref13: less, Of, Under. At most 2^40 ways. darningref13.Under; darninglaw13.Many. Plain law: a text's names between its points (sdot), and the text of names (sjoin). No program in sight. No condition. -/
import Derived.Test.YtmngpfnjomhhcaaDoorZ07
import Derived.Deep.RegionHeld3
import Derived.Lib.AppendZerosOnto
import Derived.Lib.IndexLaws
import Derived.Lib.Join
namespace Go.Proofs.YtmngpfnjomhhcaaDoor
open Go.RowKit
theorem pairs_of {w : World} : ∀ (rows : List (List Value)) (ls : List (List Int)), rows.length = ls.length → (∀ (i : Nat) (r : List Value) (x : List Int), rows[i]? = some r → ls[i]? = some x → WayP w r x) →
    ∃ ps : List (WV w), ps.map WV.way = ls ∧ ps.map WV.val = rows.flatten
  | [], [], _, _ => ⟨[], rfl, rfl⟩
  | [], _ :: _, h, _ => by simp at h
  | _ :: _, [], h, _ => by simp at h
  | r :: rows, x :: ls, h, hp => by
    obtain ⟨v, rfl, hI⟩ := hp 0 r x rfl rfl
    obtain ⟨ps, h1, h2⟩ := pairs_of rows ls (by simpa using h) fun i r x hr hx => hp (i + 1) r x (by simpa using hr) (by simpa using hx)
    exact ⟨WV.mk v x hI :: ps, by rw [List.map_cons, h1, WV.way_mk], by rw [List.map_cons, h2, WV.val_mk]; rfl⟩
theorem WaysAt.pairs {w : World} {v : Value} {ls : List (List Int)} (h : WaysAt w v ls) : ∃ ps : List (WV w), ps.map WV.way = ls ∧ Seg w v 1 ps.length (ps.map WV.val) := by
  obtain ⟨rows, h1, -, h3, h4⟩ := h
  obtain ⟨ps, e1, e2⟩ := pairs_of rows ls h1 h4
  have e3 : ps.length = ls.length := by rw [← e1, List.length_map]
  exact ⟨ps, e1, by rw [e2, e3]; exact h3⟩
theorem wv_vals_one {w : World} (ps : List (WV w)) : ∀ u ∈ ps.map WV.val, u.oneCell' = true := by
  intro u hu
  obtain ⟨p, -, rfl⟩ := List.mem_map.1 hu
  exact p.one
/-- what a walk wants of the values in their row -/
theorem seg_wv {w0 w : World} {v : Value} {ps : List (WV w0)} (h : Seg w v 1 ps.length (ps.map WV.val)) : ∃ a cap, v = .slice a ps.length cap ∧ ∀ k (p : WV w0), ps[k]? = some p → ∃ b o a2 c2, a = some ⟨b, o, none⟩ ∧ w.cell? ⟨b, o + k, none⟩ = some (.slice a2 p.way.length c2) ∧ IntsAt w0 (.slice a2 p.way.length c2) p.way := by
  obtain ⟨-, -, a, cap, hv, -, -, -, hc⟩ := h
  refine ⟨a, cap, hv, fun k p hk => ?_⟩
  obtain ⟨b, o, ha, hcell⟩ := hc k p.val (by simp [hk])
  have hI := p.2
  have hI' := hI
  obtain ⟨-, a2, c2, hv2, -, -⟩ := hI'.open
  refine ⟨b, o, a2, c2, ha, ?_, ?_⟩
  · rw [hcell]; exact congrArg some hv2
  · show IntsAt w0 (.slice a2 p.1.2.length c2) p.1.2
    rw [← hv2]; exact hI
/-- one step of the sieve -/
theorem sieve_skip {o : List (List Int)} {w : List Int} {r : List (List Int)} (h : w = [] ∨ (∃ u, o.getLast? = some u ∧ u <+: w)) : sieveW o (w :: r) = sieveW o r := by rw [sieveW, if_pos h]
theorem sieve_take {o : List (List Int)} {w : List Int} {r : List (List Int)} (h : ¬ (w = [] ∨ (∃ u, o.getLast? = some u ∧ u <+: w))) : sieveW o (w :: r) = sieveW (o ++ [w]) r := by rw [sieveW, if_neg h]
theorem ints_one {w : World} {base : Nat} {v : Value} {l : List Int} (h : IntsOwn w base v l) : v.oneCell' = true := by
  obtain ⟨a, c, rfl⟩ := h.form
  rfl
theorem IntsOwn.apart {w : World} {n0 base : Nat} {v : Value} {l : List Int} (h : IntsOwn w base v l) (hn : l.length ≤ 140737488355328) (hl : ∀ x ∈ l, i64ok x) : Apart n0 base w (fun w' => WayP w' [v] l) := fun _ hw' =>
  ⟨v, rfl, IntsOwn.ints (row_keep h fun b _ hb he => hw' b (Array.getElem?_eq_some_iff.1 he).1 (.inr hb)) hn hl⟩
/-- the ways' lengths are in reach -/
def LightW (ls : List (List Int)) : Prop := ls.length ≤ 1099511627776 ∧ ∀ l ∈ ls, l.length ≤ 17592186044416
/-- ways that lie in what was laid since w -/
def NewWays (w w' : World) (v : Value) (o : List (List Int)) : Prop := o.length ≤ 1099511627776 ∧ ∃ base, w.heap.size ≤ base ∧ RowsOwn WayP 23 1 0 base w' v o
theorem NewWays.here {w w' : World} {v : Value} {o : List (List Int)} (h : NewWays w w' v o) : WaysAt w' v o := by
  obtain ⟨hl, base, -, h⟩ := h
  exact h.at (by omega) fun _ _ _ => rfl
/-- .. a store into what was there before, new blocks -/
theorem NewWays.later {w0 w w' w2 : World} {v : Value} {o : List (List Int)} (h : NewWays w w' v o) (h0 : w0.heap.size ≤ w.heap.size) (hs : w'.heap.size ≤ w2.heap.size) (hw : ∀ b, w.heap.size ≤ b → b < w'.heap.size → w2.heap[b]? = w'.heap[b]?) : NewWays w0 w2 v o := by
  obtain ⟨hl, base, hb, h⟩ := h
  refine ⟨hl, base, Nat.le_trans h0 hb, h.later (fun b h1 h2 => hw b (by omega) h1) hs⟩
/-- one of the ways: its value, and that it stays where the new blocks stay -/
theorem NewWays.elem {w w' : World} {v : Value} {o : List (List Int)} (h : NewWays w w' v o) {k : Nat} {x : List Int} (hk : o[k]? = some x) : ∃ b q a c, (v = .slice (some ⟨b, q, none⟩) o.length (match v with | .slice _ _ c => c | _ => 0)) ∧ w'.cell? ⟨b, q + k, none⟩ = some (.slice a x.length c) ∧ w.heap.size ≤ b ∧ b < w'.heap.size ∧
    ∀ W, (∀ b, w.heap.size ≤ b → b < w'.heap.size → W.heap[b]? = w'.heap[b]?) → IntsAt W (.slice a x.length c) x := by
  have hh := h.here
  obtain ⟨hl, base, hb, rows, h1, h2, h3, h4⟩ := h
  have hkl : k < o.length := (List.getElem?_eq_some_iff.1 hk).1
  have hr : rows[k]? = some (rows[k]'(by omega)) := List.getElem?_eq_getElem (by omega)
  generalize rows[k]'(by omega) = r at hr
  obtain ⟨y, rfl, hI⟩ := h4 w' (fun _ _ _ _ => rfl) k r x hr hk
  have hI' := hI
  obtain ⟨-, a, c, rfl, -, -⟩ := hI'.open
  have hflat := flatten_get rows k 0 _ h2 hr (by decide)
  rcases h3.2 with ⟨rfl, h0⟩ | ⟨g, cap, cur, rfl, hg, hc, hnc, hcm, hcs, ht⟩
  · omega
  · refine ⟨g, 0, a, c, rfl, ?_, by omega, (Array.getElem?_eq_some_iff.1 hc).1, fun W hW => ?_⟩
    · have := World.ownsRow.cells h3 (g := g) rfl k _ (by simpa using hflat)
      rwa [addr_add] at this
    · obtain ⟨y, e, hI2⟩ := h4 W (fun b h5 _ h6 => hW b (by omega) h5) k _ x hr hk
      cases e
      exact hI2
def MaskPost (w : World) (o : List (List Int)) (e : Ending) (w' : World) : Prop := ∃ v', e = .returned (maskV v') ∧ NewWays w w' v' o ∧ Below w.heap.size w w'
set_option maxRecDepth 100000 in
set_option maxHeartbeats 4000000 in
theorem mask_Of {w : World} {v : Value} {ls : List (List Int)} (h : WaysAt w v ls) (hL : LightW ls) :
    Calls Tryd.prog 6 #[v] w (MaskPost w (mOf ls)) := by
  have hA : Below w.heap.size w (w.alloc (.cells #[.slice none 0 0] 27)) := (Below.refl _ _).alloc (Nat.le_refl _) _
  obtain ⟨wA, HA⟩ : ∃ wA, Hid (wA = w.alloc (.cells #[.slice none 0 0] 27)) := ⟨_, rfl⟩
  have HBX : Hid (Blk wA w.heap.size [.slice none 0 0] 27) := by rw [HA.out]; exact Blk.new w [.slice none 0 0] _
  rw [← HA.out] at hA
  have HSZ : Hid (wA.heap.size = w.heap.size + 1) := by rw [HA.out]; simp [Hid]
  obtain ⟨ps, e1, hseg⟩ := (h.below hA).pairs
  have HWA := hid hA
  have HL := hid hL
  have hpl : ps.length = ls.length := by rw [← e1, List.length_map]
  have HCL := hid (clone_ways (w := wA) (vs := ps.map WV.val) (by rw [List.length_map]; exact hseg) (wv_vals_one ps) (by rw [List.length_map, hpl]; exact hL.1))
  obtain ⟨-, a, c, rfl, -, -⟩ := h.open
  obtain ⟨n, HN⟩ : ∃ n, Hid (n = ls.length) := ⟨_, rfl⟩
  rw [← HN.out] at HCL ⊢
  obtain ⟨Q, HQ⟩ : ∃ Q : Ending → World → Prop, Hid (Q = MaskPost w (mOf ls)) := ⟨_, rfl⟩
  rw [← HQ.out]
  have HE := hid e1
  have HPL := hid hpl
  clear h hA hL e1 hseg hpl
  go_enter Tryd.func6, Tryd.ntmps6
  go_wp2_with fail
  rw [← HA.out]
  refine HCL.out.mono ?_
  rintro e w1 ⟨v1, rfl, hO, hB1⟩
  have HSORT := hid (sort_ways_any ps hO (Nat.le_refl _) hB1 (by rw [HPL.out]; exact HL.out.1))
  have HB1 := hid hB1
  have hv1 := row_seg hO (by rw [List.length_map, HPL.out]; have := HL.out.1; omega)
  obtain ⟨-, -, a1, c1, rfl, -⟩ := hv1
  have hvn : (ps.map WV.val).length = n := by rw [List.length_map, HPL.out, HN.out]
  rw [hvn] at HSORT ⊢
  clear hO hB1 hvn
  go_wp2_with fail
  refine HSORT.out.mono ?_
  rintro e w2 ⟨rfl, ps', hperm, hpw, hseg, hB2⟩
  have hps : ps'.length = n := by rw [hperm.length_eq, HPL.out, HN.out]
  rw [hps] at hseg
  have HSEG := hid hseg
  obtain ⟨s, HS⟩ : ∃ s, Hid (s = ps'.map WV.way) := ⟨_, rfl⟩
  have HGET : Hid (∀ k (x : List Int), s[k]? = some x → ∃ b o a2 c2, a1 = some ⟨b, o, none⟩ ∧ w2.cell? ⟨b, o + k, none⟩ = some (.slice a2 x.length c2) ∧ IntsAt wA (.slice a2 x.length c2) x ∧ x.length ≤ 17592186044416) := by
    obtain ⟨a3, c3, hv3, hc3⟩ := seg_wv (ps := ps') (by rw [hps]; exact hseg)
    cases hv3
    intro k x hx
    rw [HS.out, List.getElem?_map] at hx
    obtain ⟨p, hp, rfl⟩ := Option.map_eq_some_iff.1 hx
    obtain ⟨b, o, a2, c2, h1, h2, h3⟩ := hc3 k p hp
    refine ⟨b, o, a2, c2, h1, h2, h3, HL.out.2 _ ?_⟩
    rw [← HE.out]
    exact List.mem_map.2 ⟨p, (hperm.mem_iff).1 (List.mem_of_getElem? hp), rfl⟩
  have HSN : Hid (n = s.length) := by rw [Hid, HS.out, List.length_map, hps]
  have HM : Hid (sieveW [] s = mOf ls) := by
    refine sieve_rOf (fun x => ?_) (by rw [HS.out]; exact hpw)
    rw [HS.out, ← HE.out]
    exact (hperm.map WV.way).mem_iff
  have HB2 := hid hB2
  have HW2 : Hid (w.heap.size ≤ w2.heap.size) := by have := hB2.size; have := HSZ.out; show _ ≤ _; omega
  have HNL : Hid (n ≤ 1099511627776) := by rw [Hid, HN.out]; exact HL.out.1
  have hn := HNL.out
  clear hperm hpw hseg hB2 hps HSORT HCL
  go_wp2_with fail
  go_loopw [4, 13] (fun v4 v13 wr => ∃ (k : Nat) (o : List (List Int)), v13 = .int .i64 k ∧ k ≤ n ∧ Hid (RowsOwn WayP 23 1 0 w2.heap.size wr v4 o ∧ o.length ≤ k ∧ sieveW o (s.drop k) = mOf ls ∧ Below w2.heap.size w2 wr)) (fun _ v13 _ => n - (intOf v13).toNat)
  case atStart => exact ⟨0, [], rfl, by omega, RowsOwn.nil _ _ _ _ _ _, by simp, HM.out, Below.refl _ _⟩
  case round =>
    obtain ⟨k, o, rfl, hk, HI⟩ := hrel
    have hOF := HI.out.1.form
    obtain ⟨oa, oc, hoe⟩ := hOF
    obtain ⟨j, HJ⟩ : ∃ j, Hid (j = o.length) := ⟨_, rfl⟩
    rw [← HJ.out] at hoe
    subst hoe
    have hjk : j ≤ k := by rw [HJ.out]; exact HI.out.2.1
    by_cases hlt : k < n
    · obtain ⟨x, hx⟩ := way_get HSN.out hlt
      obtain ⟨b, q, xa, xc, ha, g0, hX, hxl⟩ := HGET.out k x hx
      replace g0 := below_keeps HI.out.2.2.2 _ _ g0
      have HXW := hid ((hX.below HB2.out).below HI.out.2.2.2)
      have HXL := hid hxl
      have hix := index_run1 Tryd.underlying22 size_ints ha k hlt (cap := c1)
      have HD := hid (drop_at hx)
      obtain ⟨m, HMM⟩ : ∃ m, Hid (m = x.length) := ⟨_, rfl⟩
      rw [← HMM.out] at g0 HXW
      have HX64 := hid hX.2
      clear hx hX ha hxl
      by_cases hm : m = 0
      · subst hm
        have HSK := hid (sieve_skip (o := o) (w := x) (r := s.drop (k + 1)) (.inl (List.length_eq_zero_iff.1 HMM.out.symm)))
        go_wp2_with fail
        go_roundw
        case rel => exact ⟨k + 1, o, by go_num, hlt, HI.out.1, by have := HI.out.2.1; omega, by rw [← HSK.out, ← HD.out]; exact HI.out.2.2.1, HI.out.2.2.2⟩
        case measure => simp [intOf]; omega
      · have HXN : Hid (x ≠ []) := fun e => hm (by rw [HMM.out, e]; rfl)
        have e1 : ((m : Int) == 0) = false := by simp; omega
        have e2 : (m == 0) = false := by simp; omega
        have e3 : decide ((m : Int) = 0) = false := by simp; omega
        by_cases hj : j = 0
        · subst hj
          have HO0 : Hid (o = []) := List.length_eq_zero_iff.1 HJ.out.symm
          have HTK := hid (sieve_take (o := o) (w := x) (r := s.drop (k + 1)) (by rw [HO0.out]; simp; exact HXN.out))
          go_wp2_with fail
          have hcl := clone_ints (HXW.out) HXL.out
          refine hcl.mono ?_
          clear hcl
          rintro e w4 ⟨v5, rfl, hO5, hB5⟩
          obtain ⟨a5, c5, hv5⟩ := hO5.form
          rw [← HMM.out] at hv5
          subst hv5
          obtain ⟨a', c', w6, hr, hO6, hB6, hB7⟩ := (HI.out.1).step hB5 (by decide) (Nat.zero_le _) HI.out.2.2.2.size HJ.out.symm (G := Tryd.prog) 22 (.slice none 0 0) 24 under_ways info_ints rfl #[.slice a5 m c5] rfl (by intro u hu; simp at hu; subst hu; exact ints_one hO5) x (hO5.apart (by have := HXL.out; omega) HX64.out) (by have := HNL.out; omega) (by decide)
          have HO6 := hid hO6
          have HB7 := hid hB7
          clear hO5 hB5 hO6 hB6 hB7
          go_wp2_with (at_builtin; refine wpList_append_eq rfl _ _ _ rfl _ _ rfl rfl hr ?_)
          go_roundw
          case rel => exact ⟨k + 1, o ++ [x], by go_num, hlt, HO6.out, by rw [List.length_append]; have := HI.out.2.1; simp; omega, by rw [← HTK.out, ← HD.out]; exact HI.out.2.2.1, HI.out.2.2.2.trans HB7.out⟩
          case measure => simp [intOf]; omega
        · have hj0 : 0 < j := by omega
          obtain ⟨u, HU⟩ : ∃ u, Hid (o[j - 1]? = some u) := way_get HJ.out (by omega)
          have HLAST : Hid (o.getLast? = some u) := by rw [Hid, List.getLast?_eq_getElem?, ← HJ.out]; exact HU.out
          have hWA := RowsOwn.at HI.out.1 (by have := HI.out.2.1; have := HNL.out; omega) (w' := wr) (fun _ _ _ => rfl)
          obtain ⟨-, oa', oc', hoe, -, hoat⟩ := WaysAt.open hWA
          rw [← HJ.out] at hoe
          cases hoe
          obtain ⟨b2, q2, ua, uc, ha2, g2, hU⟩ := hoat (j - 1) u HU.out
          have hix2 := index_run1 Tryd.underlying22 size_ints ha2 (j - 1) (by omega : j - 1 < j) (cap := oc)
          rw [show ((j - 1 : Nat) : Int) = (j : Int) - 1 by omega] at hix2
          have HUW := hid hU
          obtain ⟨um, HUM⟩ : ∃ um, Hid (um = u.length) := ⟨_, rfl⟩
          rw [← HUM.out] at g2 HUW
          have hBEG := mask_begins HXW.out HUW.out
          obtain ⟨y, HY⟩ : ∃ y, Hid (y = beginsW x u) := ⟨_, rfl⟩
          rw [← HY.out] at hBEG
          have HBEG := hid hBEG
          clear hBEG hWA hoat ha2 hU
          cases y with
          | true =>
            have HSK := hid (sieve_skip (o := o) (w := x) (r := s.drop (k + 1)) (.inr ⟨u, HLAST.out, (beginsW_iff _ _).1 HY.out.symm⟩))
            go_wp2_with (go_at_call 16; refine HBEG.out.mono ?_; rintro e w' ⟨rfl, hd⟩; have HDW := hid hd.below; clear hd)
            go_roundw
            case rel => exact ⟨k + 1, o, by go_num, hlt, HI.out.1.below HDW.out, by have := HI.out.2.1; omega, by rw [← HSK.out, ← HD.out]; exact HI.out.2.2.1, below_step HI.out.2.2.2 HDW.out HI.out.2.2.2.size⟩
            case measure => simp [intOf]; omega
          | false =>
            have HTK := hid (sieve_take (o := o) (w := x) (r := s.drop (k + 1)) (by rintro (e | ⟨u2, e, hp⟩); exact HXN.out e; rw [HLAST.out] at e; cases e; have := (beginsW_iff x u).2 hp; rw [← HY.out] at this; cases this))
            go_wp2_with (go_at_call 16; refine HBEG.out.mono ?_; rintro e w3 ⟨rfl, hd⟩; have HDW := hid hd.below; clear hd)
            have hcl := clone_ints (HXW.out.below HDW.out) HXL.out
            refine hcl.mono ?_
            clear hcl
            rintro e w4 ⟨v5, rfl, hO5, hB5⟩
            obtain ⟨a5, c5, hv5⟩ := hO5.form
            rw [← HMM.out] at hv5
            subst hv5
            obtain ⟨a', c', w6, hr, hO6, hB6, hB7⟩ := (HI.out.1.below HDW.out).step hB5 (by decide) (Nat.zero_le _) (Nat.le_trans HI.out.2.2.2.size HDW.out.size) HJ.out.symm (G := Tryd.prog) 22 (.slice none 0 0) 24 under_ways info_ints rfl #[.slice a5 m c5] rfl (by intro u hu; simp at hu; subst hu; exact ints_one hO5) x (hO5.apart (by have := HXL.out; omega) HX64.out) (by have := HNL.out; omega) (by decide)
            have HO6 := hid hO6
            have HB7 := hid hB7
            clear hO5 hB5 hO6 hB6 hB7
            go_wp2_with (at_builtin; refine wpList_append_eq rfl _ _ _ rfl _ _ rfl rfl hr ?_)
            go_roundw
            case rel => exact ⟨k + 1, o ++ [x], by go_num, hlt, HO6.out, by rw [List.length_append]; have := HI.out.2.1; simp; omega, by rw [← HTK.out, ← HD.out]; exact HI.out.2.2.1, (below_step HI.out.2.2.2 HDW.out HI.out.2.2.2.size).trans HB7.out⟩
            case measure => simp [intOf]; omega
    · obtain rfl : k = n := by omega
      have HEN : Hid (o = mOf ls) := by
        have := HI.out.2.2.1
        rw [List.drop_eq_nil_of_le (by rw [← HSN.out]; omega)] at this
        exact this
      have HBX2 := hid ((HBX.out.below HB2.out).below HI.out.2.2.2)
      have c0 := HBX2.out.cell 0 _ rfl
      have f0 := HBX2.out.free 0
      have hsz := HBX2.out.lt
      have HFIN : Hid (MaskPost w (mOf ls) (.returned (maskV (.slice oa j oc))) (wr.setCell ⟨w.heap.size, 0, none⟩ (.slice oa j oc))) := by
        have hw2 : w.heap.size + 1 ≤ w2.heap.size := by have := HB2.out.size; have := HSZ.out; omega
        refine ⟨_, rfl, ?_, ?_⟩
        · rw [← HEN.out]
          refine ⟨by rw [← HJ.out]; have := HNL.out; omega, w2.heap.size, by omega, ?_⟩
          exact HI.out.1.later (fun b hb hc => Below.heap_setCell _ _ _ _ (by show b ≠ w.heap.size; omega)) (by simp)
        · have h1 : Below w.heap.size w w2 := HWA.out.trans (HB2.out.mono (by have := HSZ.out; omega))
          exact (h1.trans (HI.out.2.2.2.mono (by omega))).setCell (Nat.le_refl _) _
      have HCS : Hid ((wr.setCell ⟨w.heap.size, 0, none⟩ (.slice oa j oc)).cell? ⟨w.heap.size, 0, none⟩ = some (.slice oa j oc)) := World.cell?_setCell_same' _ _ _ (by rw [c0]; rfl)
      clear hlt
      go_wp2_with fail
      rw [HQ.out]
      refine bodyPost_ret (v := maskV (.slice oa j oc)) (by simp [results, Tryd.results6, go_sem, maskV, HCS.out]) rfl HFIN.out
end Go.Proofs.YtmngpfnjomhhcaaDoor
namespace Go.Proofs.YtmngpfnjomhhcaaDoor
open Go.RowKit
theorem MaskPost.open {w : World} {o : List (List Int)} {e : Ending} {w' : World} (h : MaskPost w o e w') : ∃ a c, e = .returned (maskV (.slice a o.length c)) ∧ WaysAt w' (.slice a o.length c) o ∧ Below w.heap.size w w' ∧ NewWays w w' (.slice a o.length c) o := by
  obtain ⟨v', rfl, h2, h3⟩ := h
  have h2' := h2.here
  have h2'' := h2'
  obtain ⟨-, a, c, rfl, -, -⟩ := h2''.open
  exact ⟨a, c, rfl, h2', h3, h2⟩
theorem field_mask (a : Option Addr) (n c : Nat) (w : World) : (Instr.field 27 (.agg #[.slice a n c]) 0).run Tryd.prog w = .ok (.slice a n c) w := by kernel_rfl
theorem mOf_light {ls : List (List Int)} (h : LightW ls) : LightW (mOf ls) := by
  have hm := mOf_mask ls
  refine ⟨?_, fun l hl => h.2 l ((hm.2 l).1 hl).1⟩
  exact Nat.le_trans (mOf_len ls) h.1
end Go.Proofs.YtmngpfnjomhhcaaDoor
namespace Go.Proofs.YtmngpfnjomhhcaaDoor
open Go.RowKit
theorem grow_zeros (w : World) (n : Nat) (h0 : 0 < n) (hn : n ≤ 2199023255552) (ty : TypeId) :
    ∃ G, n ≤ G ∧ G ≤ 9223372036854775807 ∧ (Builtin.append_ #[22, 3] ty #[.slice none 0 0, .int .i64 (n : Int)]).run Tryd.prog w = .ok (.slice (some ⟨w.heap.size, 0, none⟩) n G) (w.drew.alloc (.cells (Builtin.zeroCells #[.slice none 0 0] n ++ Builtin.zeroCells #[.slice none 0 0] (G - n)) 23)) ∧ G ≤ maxLen := by
  obtain ⟨i, hi, hz, hsize, hby⟩ := info_parts info_ints
  have h := Lib.run_append_grow_zeros w 22 3 ty 23 i (.slice none 0 0) .i64 .i64 under_ways Tryd.underlying3 hi hz none 0 0 [] (run_firstCells_none w.drew i.size 0 0 0) n h0 (by omega) (by omega) (by omega) (by rw [hby]; omega)
    (by rw [Nat.zero_add]; exact growslice_fits (by omega) (by rw [hby]; omega))
  rw [Nat.zero_add] at h
  have hm := grownCap_le_maxLen w n 0 23 (by unfold maxLen; omega)
  refine ⟨_, grownCap_ge w n 0 _, by have := hm; unfold maxLen at this; omega, ?_, hm⟩
  simp at h
  exact h
theorem size_zero (z : Value) (n : Nat) : (Builtin.zeroCells #[z] n).size = n := by
  have := size_zeroCells #[z] n
  simpa using this
set_option maxRecDepth 100000 in
set_option maxHeartbeats 4000000 in
theorem grow_ways (w : World) (n : Nat) (hn : n ≤ 2199023255552) :
    Calls Tryd.prog 28 #[.slice none 0 0, .int .i64 (n : Int)] w fun e w' => ∃ v', e = .returned v' ∧ w'.ownsRow w.heap.size 23 1 v' 0 [] ∧ Below w.heap.size w w' := by
  by_cases h0 : 0 < n
  · obtain ⟨G, h1, h2, h3, h4⟩ := grow_zeros w n h0 hn 22
    have hcut : ∀ W, (Instr.slice 22 (.slice (some ⟨w.heap.size, 0, none⟩) n G) none (some (.int .i64 0)) none).run Tryd.prog W = .ok (.slice (some ⟨w.heap.size, 0, none⟩) 0 G) W := by
      intro W
      have := slice_h_run (P := Tryd.prog) under_ways size_ints (some ⟨w.heap.size, 0, none⟩) n G 0 (by omega) W
      rw [show ((0 : Nat) : Int) = 0 from rfl] at this
      rw [this]
      unfold sliced
      by_cases hG : G = 0
      · omega
      · rw [if_neg hG]; rfl
    have hcut0 : ∀ W, (Instr.slice 22 (.slice none 0 0) none (some (.int .i64 0)) none).run Tryd.prog W = .ok (.slice none 0 0) W := by
      intro W
      have := slice_h_run (P := Tryd.prog) under_ways size_ints none 0 0 0 (by omega) W
      rw [show ((0 : Nat) : Int) = 0 from rfl] at this
      rw [this]; rfl
    have HOWN : Hid (World.ownsRow (w.drew.alloc (.cells (Builtin.zeroCells #[.slice none 0 0] n ++ Builtin.zeroCells #[.slice none 0 0] (G - n)) 23)) w.heap.size 23 1 (.slice (some ⟨w.heap.size, 0, none⟩) 0 G) 0 []) := by
      refine ⟨rfl, .inr ⟨w.heap.size, G, _, rfl, Nat.le_refl _, heap_alloc_new w.drew _, Nat.zero_le _, h4, ?_, by simp⟩⟩
      rw [Array.size_append, size_zero, size_zero]; omega
    clear h4
    go_enter Tryd.func28, Tryd.ntmps28
    go_wp2_with (at_builtin; refine wpList_append2_eq rfl _ _ _ _ rfl _ _ rfl rfl h3 ?_)
    go_ret
    exact ⟨_, rfl, HOWN.out, ((Below.refl _ _).drew).alloc (Nat.le_refl _) _⟩
  · obtain rfl : n = 0 := by omega
    go_enter Tryd.func28, Tryd.ntmps28
    go_wp2_with fail
    go_ret
    exact ⟨_, rfl, World.ownsRow_nil _ _ _ _, Below.refl _ _⟩
theorem flatten_one {α : Type} (f : α → Value) : ∀ l : List α, (l.map fun p => [f p]).flatten = l.map f
  | [] => rfl
  | p :: l => by rw [List.map_cons, List.flatten_cons, flatten_one f l, List.map_cons]; rfl
/-- ways in a row, whose values were there before -/
theorem ways_of_row {w w0 : World} {v : Value} (ps : List (WV w0)) (h : Seg w v 1 ps.length (ps.map WV.val)) (hk : ∀ p u, w0.cell? p = some u → w.cell? p = some u) : WaysAt w v (ps.map WV.way) := by
  refine ⟨ps.map fun p => [p.val], by simp, by intro r hr; obtain ⟨p, -, rfl⟩ := List.mem_map.1 hr; rfl, ?_, ?_⟩
  · have e := flatten_one WV.val ps
    rw [e, List.length_map]; exact h
  · intro i r x hr hx
    rw [List.getElem?_map] at hr hx
    obtain ⟨p, hp, rfl⟩ := Option.map_eq_some_iff.1 hr
    rw [hp] at hx
    cases hx
    exact ⟨p.val, rfl, (p.2).keep hk⟩
set_option maxRecDepth 100000 in
set_option maxHeartbeats 4000000 in
theorem concat_ways {w : World} {b : Nat} {v1 v2 : Value} {l1 l2 : List (List Int)} (h1 : WaysAt w v1 l1) (h2 : WaysAt w v2 l2) (c1 : w.cell? ⟨b, 0, none⟩ = some v1) (c2 : w.cell? ⟨b, 1, none⟩ = some v2) (hl1 : l1.length ≤ 1099511627776) (hl2 : l2.length ≤ 1099511627776) :
    Calls Tryd.prog 20 #[.slice (some ⟨b, 0, none⟩) 2 2] w fun e w' => ∃ v', e = .returned v' ∧ WaysAt w' v' (l1 ++ l2) ∧ Below w.heap.size w w' := by
  obtain ⟨-, a1, k1, rfl, -, -⟩ := h1.open
  obtain ⟨-, a2, k2, rfl, -, -⟩ := h2.open
  have H1 := hid h1
  have H2 := hid h2
  obtain ⟨n1, HN1⟩ : ∃ n, Hid (n = l1.length) := ⟨_, rfl⟩
  obtain ⟨n2, HN2⟩ : ∃ n, Hid (n = l2.length) := ⟨_, rfl⟩
  rw [← HN1.out] at c1 hl1 H1
  rw [← HN2.out] at c2 hl2 H2
  have C1 := hid c1
  have C2 := hid c2
  clear h1 h2
  have hi0 : ∀ W, (Instr.indexAt 62 (.slice (some ⟨b, 0, none⟩) 2 2) (.int .i64 0)).run Tryd.prog W = .ok (.pointer (some ⟨b, 0, none⟩)) W := fun W => by kernel_rfl
  have hi1 : ∀ W, (Instr.indexAt 62 (.slice (some ⟨b, 0, none⟩) 2 2) (.int .i64 1)).run Tryd.prog W = .ok (.pointer (some ⟨b, 1, none⟩)) W := fun W => by kernel_rfl
  obtain ⟨ps1, e1, s1⟩ := H1.out.pairs
  obtain ⟨ps2, e2, s2⟩ := H2.out.pairs
  have hp1 : ps1.length = n1 := by rw [HN1.out, ← e1, List.length_map]
  have hp2 : ps2.length = n2 := by rw [HN2.out, ← e2, List.length_map]
  have HGR := grow_ways w (n1 + n2) (by omega)
  rw [show ((n1 + n2 : Nat) : Int) = (n1 : Int) + (n2 : Int) by omega] at HGR
  have HG := hid HGR
  rw [hp1] at s1
  rw [hp2] at s2
  have HS1 := hid s1
  have HS2 := hid s2
  have HP := And.intro hp1 hp2
  have HPP := hid HP
  have HE := hid (And.intro e1 e2)
  clear HGR e1 e2 s1 s2 hp1 hp2 HP
  go_enter Tryd.func20, Tryd.ntmps20
  go_wp2_with fail
  refine wp_loop_rounds 3 ?_
  rw [rounds_succ]
  go_wp2_with fail
  rw [rounds_succ]
  go_wp2_with fail
  rw [rounds_succ]
  go_wp2_with fail
  refine HG.out.mono ?_
  rintro e w1 ⟨v3, rfl, hO, hB⟩
  obtain ⟨v4, w2, hr4, hO4, hg4, -⟩ := seg_append (P := Tryd.prog) w1 w.heap.size 22 22 23 (.slice none 0 0) 1 24 under_ways info_ints rfl (by decide) _ _ 0 n1 _ _ hO (HS1.out.below hB) (wv_vals_one ps1) (by omega) (by omega) hB.size
  have hB2 : Below w.heap.size w w2 := hB.grown hg4 hB.size (fun q e => (World.ownsRow.lt hO q e).1)
  obtain ⟨v5, w3, hr5, hO5, hg5, -⟩ := seg_append (P := Tryd.prog) w2 w.heap.size 22 22 23 (.slice none 0 0) 1 24 under_ways info_ints rfl (by decide) _ _ _ n2 _ _ hO4 (HS2.out.below hB2) (wv_vals_one ps2) (by omega) (by omega) hB2.size
  have hB3 : Below w.heap.size w w3 := hB2.grown hg5 hB2.size (fun q e => (World.ownsRow.lt hO4 q e).1)
  have HFIN : Hid (WaysAt w3 v5 (l1 ++ l2)) := by
    have hs := row_seg hO5 (by omega)
    rw [List.nil_append, ← List.map_append] at hs
    have := ways_of_row (ps1 ++ ps2) (by rw [List.length_append, HPP.out.1, HPP.out.2]; rw [show n1 + n2 = 0 + n1 + n2 by omega]; exact hs) (below_keeps hB3)
    rwa [List.map_append, HE.out.1, HE.out.2] at this
  have HB3 := hid hB3
  have k1 := below_keeps hB _ _ C1.out
  have k2 := below_keeps hB2 _ _ C2.out
  obtain ⟨a3, m3, k3, rfl⟩ : ∃ a n c, v3 = .slice a n c := by obtain ⟨-, -, a, c, e, -⟩ := row_seg hO (by omega); exact ⟨_, _, _, e⟩
  obtain ⟨a4, m4, k4, rfl⟩ : ∃ a n c, v4 = .slice a n c := by obtain ⟨-, -, a, c, e, -⟩ := row_seg hO4 (by omega); exact ⟨_, _, _, e⟩
  obtain ⟨a5, m5, k5, rfl⟩ : ∃ a n c, v5 = .slice a n c := by obtain ⟨-, -, a, c, e, -⟩ := row_seg hO5 (by omega); exact ⟨_, _, _, e⟩
  clear hO hB hO4 hg4 hB2 hO5 hg5 hB3
  go_wp2_with fail
  refine wp_loop_rounds 3 ?_
  rw [rounds_succ]
  go_wp2_with (at_builtin; refine wpList_append_eq rfl _ _ _ rfl _ _ rfl rfl hr4 ?_)
  rw [rounds_succ]
  go_wp2_with (at_builtin; refine wpList_append_eq rfl _ _ _ rfl _ _ rfl rfl hr5 ?_)
  rw [rounds_succ]
  go_wp2_with fail
  go_ret
  exact ⟨_, rfl, HFIN.out, HB3.out⟩
set_option maxRecDepth 100000 in
set_option maxHeartbeats 4000000 in
theorem mask_Union {w : World} {v1 v2 : Value} {l1 l2 : List (List Int)} (h1 : WaysAt w v1 l1) (h2 : WaysAt w v2 l2) (hL1 : LightW l1) (hL2 : LightW l2) (hL : l1.length + l2.length ≤ 1099511627776) :
    Calls Tryd.prog 8 #[maskV v1, maskV v2] w (MaskPost w (mOf (l1 ++ l2))) := by
  unfold maskV
  obtain ⟨-, a1, k1, rfl, -, -⟩ := h1.open
  obtain ⟨-, a2, k2, rfl, -, -⟩ := h2.open
  obtain ⟨n1, HN1⟩ : ∃ n, Hid (n = l1.length) := ⟨_, rfl⟩
  obtain ⟨n2, HN2⟩ : ∃ n, Hid (n = l2.length) := ⟨_, rfl⟩
  rw [← HN1.out] at h1 hL ⊢
  rw [← HN2.out] at h2 hL ⊢
  obtain ⟨Q, HQ⟩ : ∃ Q : Ending → World → Prop, Hid (Q = MaskPost w (mOf (l1 ++ l2))) := ⟨_, rfl⟩
  rw [← HQ.out]
  have H1 := hid h1
  have H2 := hid h2
  clear h1 h2
  go_enter Tryd.func8, Tryd.ntmps8
  go_wp2_with fail
  refine (concat_ways (H1.out.keep (below_keeps ?_)) (H2.out.keep (below_keeps ?_)) ?_ ?_ (by rw [← HN1.out]; omega) (by rw [← HN2.out]; omega)).mono ?_
  · (repeat (first | with_reducible exact Below.refl _ _ | with_reducible refine Below.setCell ?_ (by first | omega | (simp; omega) | (simp; done)) _ | with_reducible refine Below.alloc ?_ (by first | omega | (simp; omega) | (simp; done)) _ | with_reducible refine below_drewN ?_ _ | with_reducible refine Below.drew ?_))
  · (repeat (first | with_reducible exact Below.refl _ _ | with_reducible refine Below.setCell ?_ (by first | omega | (simp; omega) | (simp; done)) _ | with_reducible refine Below.alloc ?_ (by first | omega | (simp; omega) | (simp; done)) _ | with_reducible refine below_drewN ?_ _ | with_reducible refine Below.drew ?_))
  · simp [go_sem]
  · simp [go_sem]
  rintro e w1 ⟨v3, rfl, hW, hb⟩
  have HBX : Hid (Blk w1 (w.heap.size + 2) [.slice none 0 0] 27) := by
    refine Blk.below (Blk.alloc (Blk.new' _ [.slice none 0 0] _ _ (by simp)) _) hb
  have hsz := hb.size
  simp at hsz
  have HSZ : Hid (w.heap.size + 4 ≤ w1.heap.size) := hsz
  have HB1 : Hid (Below w.heap.size w w1) := below_step (by (repeat (first | with_reducible exact Below.refl _ _ | with_reducible refine Below.setCell ?_ (by first | omega | (simp; omega) | (simp; done)) _ | with_reducible refine Below.alloc ?_ (by first | omega | (simp; omega) | (simp; done)) _ | with_reducible refine below_drewN ?_ _ | with_reducible refine Below.drew ?_))) hb (by simp; omega)
  have HOF := hid (mask_Of hW ⟨by rw [List.length_append, ← HN1.out, ← HN2.out]; exact hL, fun l hl => (List.mem_append.1 hl).elim (hL1.2 l) (hL2.2 l)⟩)
  obtain ⟨-, a3, k3, rfl, -, -⟩ := hW.open
  obtain ⟨m, HM⟩ : ∃ m, Hid (m = mOf (l1 ++ l2)) := ⟨_, rfl⟩
  rw [← HM.out] at HOF HQ
  obtain ⟨n3, HN3⟩ : ∃ n, Hid (n = (l1 ++ l2).length) := ⟨_, rfl⟩
  rw [← HN3.out] at HOF ⊢
  clear hW hb hsz
  go_wp2_with fail
  refine HOF.out.mono ?_
  intro e w2 hp
  obtain ⟨a4, k4, rfl, -, hb4, hN4⟩ := hp.open
  obtain ⟨j, HJ⟩ : ∃ j, Hid (j = m.length) := ⟨_, rfl⟩
  rw [← HJ.out] at hN4 ⊢
  have HBX2 := hid (HBX.out.below hb4)
  have hsz2 := HBX2.out.lt
  have c0 := HBX2.out.cell 0 _ rfl
  have f0 := HBX2.out.free 0
  have HCS : Hid ((w2.setCell ⟨w.heap.size + 2, 0, none⟩ (.slice a4 j k4)).cell? ⟨w.heap.size + 2, 0, none⟩ = some (.slice a4 j k4)) := World.cell?_setCell_same' _ _ _ (by rw [c0]; rfl)
  have HFIN : Hid (Q (.returned (maskV (.slice a4 j k4))) (w2.setCell ⟨w.heap.size + 2, 0, none⟩ (.slice a4 j k4))) := by
    rw [HQ.out]
    refine ⟨_, rfl, hN4.later (by have := HSZ.out; omega) (by simp) fun b h1 h2 => Below.heap_setCell _ _ _ _ (by show b ≠ w.heap.size + 2; have := HSZ.out; omega), (HB1.out.trans (hb4.mono (by have := HSZ.out; omega))).setCell (by simp) _⟩
  unfold maskV
  clear hp hb4 hN4
  go_wp2_with fail
  refine bodyPost_ret (v := maskV (.slice a4 j k4)) (by simp [results, Tryd.results8, go_sem, maskV, HCS.out]) rfl HFIN.out
end Go.Proofs.YtmngpfnjomhhcaaDoor
namespace Go.Proofs.YtmngpfnjomhhcaaDoor
open Go.RowKit
/-- half of a meet: the ways of x that y has -/
def halfW (x y : List (List Int)) : List (List Int) := x.filter (fun u => hasW y u)
theorem half_cons (x : List Int) (r y : List (List Int)) : halfW (x :: r) y = if hasW y x = true then x :: halfW r y else halfW r y := by
  unfold halfW
  rw [List.filter_cons]
theorem meet_i0 (a b : Option Addr) (n m c d : Nat) (w : World) : (Instr.index 53 (.agg #[.slice a n c, .slice b m d, .slice b m d, .slice a n c]) (.int .i64 0)).run Tryd.prog w = .ok (.agg #[.slice a n c, .slice b m d]) w := by kernel_rfl
theorem meet_i1 (a b : Option Addr) (n m c d : Nat) (w : World) : (Instr.index 53 (.agg #[.slice a n c, .slice b m d, .slice b m d, .slice a n c]) (.int .i64 1)).run Tryd.prog w = .ok (.agg #[.slice b m d, .slice a n c]) w := by kernel_rfl
def meetO (l1 l2 : List (List Int)) : Nat → List (List Int)
  | 0 => []
  | 1 => halfW (mOf l1) l2
  | _ => halfW (mOf l1) l2 ++ halfW (mOf l2) l1
theorem half_len (x y : List (List Int)) : (halfW x y).length ≤ x.length := List.length_filter_le _ _
theorem meetO_len (l1 l2 : List (List Int)) (k : Nat) : (meetO l1 l2 k).length ≤ l1.length + l2.length := by
  have h1 := half_len (mOf l1) l2
  have h2 := half_len (mOf l2) l1
  have h3 := mOf_len l1
  have h4 := mOf_len l2
  match k with
  | 0 => simp [meetO]
  | 1 => simp only [meetO]; omega
  | _ + 2 => simp only [meetO, List.length_append]; omega
theorem meetO_light {l1 l2 : List (List Int)} (h1 : LightW l1) (h2 : LightW l2) (h : l1.length + l2.length ≤ 1099511627776) (k : Nat) : LightW (meetO l1 l2 k) := by
  refine ⟨Nat.le_trans (meetO_len l1 l2 k) h, fun l hl => ?_⟩
  have g1 : ∀ l ∈ halfW (mOf l1) l2, l.length ≤ 17592186044416 := fun l hl => (mOf_light h1).2 l (List.mem_filter.1 hl).1
  have g2 : ∀ l ∈ halfW (mOf l2) l1, l.length ≤ 17592186044416 := fun l hl => (mOf_light h2).2 l (List.mem_filter.1 hl).1
  match k, hl with
  | 1, hl => exact g1 l hl
  | _ + 2, hl => exact (List.mem_append.1 hl).elim (g1 l) (g2 l)
set_option maxRecDepth 100000 in
set_option maxHeartbeats 4000000 in
theorem mask_Meet {w : World} {v1 v2 : Value} {l1 l2 : List (List Int)} (h1 : WaysAt w v1 l1) (h2 : WaysAt w v2 l2) (hL1 : LightW l1) (hL2 : LightW l2) (hL : l1.length + l2.length ≤ 1099511627776) :
    Calls Tryd.prog 9 #[maskV v1, maskV v2] w (MaskPost w (mOf (halfW (mOf l1) l2 ++ halfW (mOf l2) l1))) := by
  unfold maskV
  obtain ⟨-, a1, k1, rfl, -, -⟩ := h1.open
  obtain ⟨-, a2, k2, rfl, -, -⟩ := h2.open
  obtain ⟨n1, HN1⟩ : ∃ n, Hid (n = l1.length) := ⟨_, rfl⟩
  obtain ⟨n2, HN2⟩ : ∃ n, Hid (n = l2.length) := ⟨_, rfl⟩
  rw [← HN1.out] at h1 hL ⊢
  rw [← HN2.out] at h2 hL ⊢
  obtain ⟨Q, HQ⟩ : ∃ Q : Ending → World → Prop, Hid (Q = MaskPost w (mOf (halfW (mOf l1) l2 ++ halfW (mOf l2) l1))) := ⟨_, rfl⟩
  rw [← HQ.out]
  have H1 := hid h1
  have H2 := hid h2
  clear h1 h2
  have hi0 := meet_i0
  have hi1 := meet_i1
  go_enter Tryd.func9, Tryd.ntmps9
  go_wp2_with fail
  obtain ⟨wB, HWB⟩ : ∃ wB, Hid (wB = ((w.alloc (.cells #[.slice a1 n1 k1] 27)).alloc (.cells #[.slice a2 n2 k2] 27)).alloc (.cells #[.slice none 0 0] 27)) := ⟨_, rfl⟩
  rw [← HWB.out]
  have HB0 : Hid (Below w.heap.size w wB) := by show Below _ _ _; rw [HWB.out]; (repeat (first | with_reducible exact Below.refl _ _ | with_reducible refine Below.setCell ?_ (by first | omega | (simp; omega) | (simp; done)) _ | with_reducible refine Below.alloc ?_ (by first | omega | (simp; omega) | (simp; done)) _ | with_reducible refine below_drewN ?_ _ | with_reducible refine Below.drew ?_))
  have HSZ : Hid (wB.heap.size = w.heap.size + 3) := by rw [HWB.out]; simp [Hid]
  have HBX : Hid (Blk wB (w.heap.size + 2) [.slice none 0 0] 27) := by rw [HWB.out]; exact Blk.new' _ [.slice none 0 0] _ _ (by simp)
  have HL12 := hid (And.intro hL1 hL2)
  go_loopw [5, 17] (fun v5 v17 wr => ∃ (k : Nat), v17 = .int .i64 k ∧ k ≤ 2 ∧ Hid (RowsOwn WayP 23 1 0 wB.heap.size wr v5 (meetO l1 l2 k) ∧ Below wB.heap.size wB wr)) (fun _ v17 _ => 2 - (intOf v17).toNat)
  case atStart => exact ⟨0, rfl, by omega, RowsOwn.nil _ _ _ _ _ _, Below.refl _ _⟩
  case round =>
    obtain ⟨k, rfl, hk, HI⟩ := hrel
    obtain ⟨oa, oc, hoe⟩ := HI.out.1.form
    obtain ⟨j0, HJ0⟩ : ∃ j, Hid (j = (meetO l1 l2 k).length) := ⟨_, rfl⟩
    rw [← HJ0.out] at hoe
    subst hoe
    by_cases hlt : k < 2
    · obtain ⟨a, n, c, l, b, m, d, l', hix, hH, hH', hLl, hLl', hnext⟩ : ∃ a n c l b m d l', (∀ W, (Instr.index 53 (.agg #[.slice a1 n1 k1, .slice a2 n2 k2, .slice a2 n2 k2, .slice a1 n1 k1]) (.int .i64 (k : Int))).run Tryd.prog W = .ok (.agg #[.slice a n c, .slice b m d]) W) ∧
          WaysAt w (.slice a n c) l ∧ WaysAt w (.slice b m d) l' ∧ LightW l ∧ LightW l' ∧ meetO l1 l2 (k + 1) = meetO l1 l2 k ++ halfW (mOf l) l' := by
        match k, hlt with
        | 0, _ => exact ⟨_, _, _, l1, _, _, _, l2, fun W => hi0 _ _ _ _ _ _ W, H1.out, H2.out, HL12.out.1, HL12.out.2, rfl⟩
        | 1, _ => exact ⟨_, _, _, l2, _, _, _, l1, fun W => hi1 _ _ _ _ _ _ W, H2.out, H1.out, HL12.out.2, HL12.out.1, rfl⟩
      have HH := hid hH
      have HH' := hid hH'
      have HLL := hid (And.intro hLl hLl')
      have HNX := hid hnext
      obtain ⟨wo, rfl⟩ : ∃ wo : World, wo = wr := ⟨_, rfl⟩
      obtain ⟨wC, HWC⟩ : ∃ wC, Hid (wC = wo.alloc (.cells #[.slice a n c, .slice b m d] 52)) := ⟨_, rfl⟩
      have HC0 : Hid (Below wo.heap.size wo wC) := by show Below _ _ _; rw [HWC.out]; (repeat (first | with_reducible exact Below.refl _ _ | with_reducible refine Below.setCell ?_ (by first | omega | (simp; omega) | (simp; done)) _ | with_reducible refine Below.alloc ?_ (by first | omega | (simp; omega) | (simp; done)) _ | with_reducible refine below_drewN ?_ _ | with_reducible refine Below.drew ?_))
      have HCX : Hid (Blk wC wo.heap.size [.slice a n c, .slice b m d] 52) := by rw [HWC.out]; exact Blk.new _ [.slice a n c, .slice b m d] _
      have hbw : Below w.heap.size w wo := HB0.out.trans (HI.out.2.mono (by have := HSZ.out; omega))
      have HBW := hid hbw
      have hbc : Below w.heap.size w wC := hbw.trans (HC0.out.mono hbw.size)
      have HOF := hid (mask_Of (hH.below hbc) hLl)
      have hfd := field_mask
      obtain ⟨o, HO⟩ : ∃ o, Hid (o = mOf l) := ⟨_, rfl⟩
      rw [← HO.out] at HOF HNX
      clear hH hH' hLl hLl' hnext hbw hbc hi0 hi1
      go_wp2_with fail
      rw [← HWC.out]
      refine HOF.out.mono ?_
      intro e w1 hp
      obtain ⟨a4, k4, rfl, -, hb4, hN4⟩ := hp.open
      obtain ⟨q4, HQ4⟩ : ∃ q4, Hid (q4 = o.length) := ⟨_, rfl⟩
      rw [← HQ4.out] at hN4 ⊢
      have hq4 : q4 ≤ 1099511627776 := by rw [HQ4.out]; exact hN4.1
      have HB4 := hid hb4
      have HN4 := hid hN4
      have HO1 : Hid (RowsOwn WayP 23 1 0 wB.heap.size w1 (.slice oa j0 oc) (meetO l1 l2 k)) := ((HI.out.1.below HC0.out).below hb4)
      have HOB : Hid (∀ q, (Value.slice oa j0 oc).ownBlock = some q → q < wo.heap.size) := fun q e => (HI.out.1.own q e).2
      unfold maskV
      clear hp hb4 hN4
      go_wp2_with fail
      go_loopw [5, 26] (fun v5 v26 wr => ∃ (i : Nat) (p : List (List Int)), v26 = .int .i64 i ∧ i ≤ q4 ∧ Hid (RowsOwn WayP 23 1 0 wB.heap.size wr v5 p ∧ p ++ halfW (o.drop i) l' = meetO l1 l2 (k + 1) ∧ Below wB.heap.size wB wr ∧ (∀ q, v5.ownBlock = some q → q < wo.heap.size ∨ w1.heap.size ≤ q) ∧ (∀ b, wo.heap.size ≤ b → b < w1.heap.size → wr.heap[b]? = w1.heap[b]?) ∧ w1.heap.size ≤ wr.heap.size)) (fun _ v26 _ => q4 - (intOf v26).toNat)
      case atStart =>
        refine ⟨0, meetO l1 l2 k, rfl, by omega, HO1.out, by rw [HNX.out]; rfl, ?_, fun q e => .inl (HOB.out q e), fun _ _ _ => rfl, Nat.le_refl _⟩
        exact HI.out.2.trans ((HC0.out.trans (HB4.out.mono HC0.out.size)).mono HI.out.2.size)
      case round =>
        obtain ⟨i, p, rfl, hi, HR⟩ := hrel
        obtain ⟨pa, pc, hpe⟩ := HR.out.1.form
        obtain ⟨j, HJ⟩ : ∃ j, Hid (j = p.length) := ⟨_, rfl⟩
        rw [← HJ.out] at hpe
        subst hpe
        have hbw : Below w.heap.size w wr := HB0.out.trans (HR.out.2.2.1.mono (by have := HSZ.out; omega))
        have HBWR := hid hbw
        by_cases hlt2 : i < q4
        · obtain ⟨x, hx⟩ := way_get HQ4.out hlt2
          obtain ⟨b5, q5, xa, xc, hve, g0, hb5, hb5', hE⟩ := HN4.out.elem hx
          have ha : a4 = some ⟨b5, q5, none⟩ := by injection hve
          have hcs : wC.heap.size = wo.heap.size + 1 := by rw [HWC.out]; simp
          have g1 : wr.cell? ⟨b5, q5 + i, none⟩ = some (.slice xa x.length xc) := (World.cell?_of_block (HR.out.2.2.2.2.1 b5 (by omega) hb5')).trans g0
          have hX := hE wr fun b h1 h2 => HR.out.2.2.2.2.1 b (by omega) h2
          have hix5 := index_run1 Tryd.underlying22 size_ints ha i hlt2 (cap := k4)
          have HD := hid (drop_at hx)
          obtain ⟨xn, HXN⟩ : ∃ xn, Hid (xn = x.length) := ⟨_, rfl⟩
          rw [← HXN.out] at g1 hX
          have hcx : Blk wr wo.heap.size [.slice a n c, .slice b m d] 52 := (HR.out.2.2.2.2.1 _ (Nat.le_refl _) (by have := HB4.out.size; omega)).trans (HCX.out.below HB4.out)
          have c1 := hcx.cell 1 _ rfl
          have hhas := mask_Has (HH'.out.below hbw) hX
          have hone : (Value.slice xa xn xc).oneCell' = true := rfl
          unfold maskV at hhas
          obtain ⟨y, HY⟩ : ∃ y, Hid (y = hasW l' x) := ⟨_, rfl⟩
          rw [← HY.out] at hhas
          have HHAS := hid hhas
          have HEE : Hid (∀ W, (∀ b, wC.heap.size ≤ b → b < w1.heap.size → W.heap[b]? = w1.heap[b]?) → IntsAt W (.slice xa xn xc) x) := by rw [HXN.out]; exact hE
          have HHC := hid (half_cons x (o.drop (i + 1)) l')
          rw [← HY.out] at HHC
          have HCS := hid hcs
          clear hx hve g0 hb5 hb5' hE ha hX hcx hhas hbw hcs
          go_wp2_with fail
          refine HHAS.out.mono ?_
          rintro e w5 ⟨rfl, hb5⟩
          have HB5 := hid hb5
          clear hb5
          cases y with
          | true =>
            have hown5 := HR.out.1.below HB5.out
            obtain ⟨a', c', w6, hr, hO6, hB6, hg6, hat6⟩ := hown5.step' (by decide) (Nat.le_trans (Nat.le_trans (HR.out.2.2.1.size) (Nat.le_refl _)) HB5.out.size) HJ.out.symm (G := Tryd.prog) 22 (.slice none 0 0) 24 under_ways info_ints rfl #[.slice xa xn xc] rfl (by intro u hu; simp at hu; subst hu; exact hone) x
              (fun w' hw' => ⟨_, rfl, HEE.out w' fun b h1 h2 => by
                have hb' : b < wr.heap.size := Nat.lt_of_lt_of_le h2 HR.out.2.2.2.2.2
                have hne : (Value.slice pa j pc).ownBlock ≠ some b := fun e => by
                  have := HR.out.2.2.2.1 b e
                  have := HCS.out
                  omega
                have hwo : wB.heap.size ≤ wo.heap.size := HI.out.2.size
                exact (hw' b (Nat.lt_of_lt_of_le hb' HB5.out.size) hne (.inr (by have := HCS.out; omega))).trans ((HB5.out.block b hb').trans (HR.out.2.2.2.2.1 b (by have := HCS.out; omega) h2))⟩)
              (by
                have h1 := HR.out.2.1
                have h2 : p.length ≤ (meetO l1 l2 (k + 1)).length := by rw [← h1, List.length_append]; omega
                have h3 := meetO_len l1 l2 (k + 1)
                rw [← HJ.out, ← HN1.out, ← HN2.out] at *
                omega) (by decide)
            have HREL : Hid (RowsOwn WayP 23 1 0 wB.heap.size w6 (.slice a' (j + 1) c') (p ++ [x]) ∧ (p ++ [x]) ++ halfW (o.drop (i + 1)) l' = meetO l1 l2 (k + 1) ∧ Below wB.heap.size wB w6 ∧ (∀ q, (Value.slice a' (j + 1) c').ownBlock = some q → q < wo.heap.size ∨ w1.heap.size ≤ q) ∧ (∀ b, wo.heap.size ≤ b → b < w1.heap.size → w6.heap[b]? = w1.heap[b]?) ∧ w1.heap.size ≤ w6.heap.size) := by
              have hs5 := HB5.out.size
              have hs6 := hg6.size
              simp at hs6
              refine ⟨hO6, ?_, (below_step HR.out.2.2.1 (HB5.out) HR.out.2.2.1.size).trans hB6, ?_, ?_, by have := HR.out.2.2.2.2.2; omega⟩
              · rw [← HR.out.2.1, HD.out, HHC.out, if_pos rfl, List.append_assoc]; rfl
              · intro q e
                rcases hat6 with h | h
                · rw [h] at e; exact HR.out.2.2.2.1 q e
                · rw [h] at e; simp at e; have := HR.out.2.2.2.2.2; omega
              · intro b h1 h2
                have hb' : b < wr.heap.size := Nat.lt_of_lt_of_le h2 HR.out.2.2.2.2.2
                refine (hg6.block b (by simp; omega) (fun e => ?_)).trans ((Below.heap_alloc w5 _ b (by omega)).trans ((HB5.out.block b hb').trans (HR.out.2.2.2.2.1 b h1 h2)))
                have := HR.out.2.2.2.1 b e.symm
                omega
            clear hown5 hO6 hB6 hg6 hat6
            go_wp2_with (at_builtin; refine wpList_append_eq rfl _ _ _ rfl _ _ rfl rfl hr ?_)
            go_roundw
            case rel => exact ⟨i + 1, _, by go_num, hlt2, HREL.out⟩
            case measure => simp [intOf]; omega
          | false =>
            have HREL : Hid (RowsOwn WayP 23 1 0 wB.heap.size w5 (.slice pa j pc) p ∧ p ++ halfW (o.drop (i + 1)) l' = meetO l1 l2 (k + 1) ∧ Below wB.heap.size wB w5 ∧ (∀ q, (Value.slice pa j pc).ownBlock = some q → q < wo.heap.size ∨ w1.heap.size ≤ q) ∧ (∀ b, wo.heap.size ≤ b → b < w1.heap.size → w5.heap[b]? = w1.heap[b]?) ∧ w1.heap.size ≤ w5.heap.size) := by
              refine ⟨HR.out.1.below HB5.out, ?_, below_step HR.out.2.2.1 HB5.out HR.out.2.2.1.size, HR.out.2.2.2.1, fun b h1 h2 => ?_, Nat.le_trans HR.out.2.2.2.2.2 HB5.out.size⟩
              · rw [← HR.out.2.1, HD.out, HHC.out, if_neg (by decide)]
              · exact (HB5.out.block b (Nat.lt_of_lt_of_le h2 HR.out.2.2.2.2.2)).trans (HR.out.2.2.2.2.1 b h1 h2)
            go_wp2_with fail
            go_roundw
            case rel => exact ⟨i + 1, _, by go_num, hlt2, HREL.out⟩
            case measure => simp [intOf]; omega
        · obtain rfl : i = q4 := by omega
          have HEQ : Hid (p = meetO l1 l2 (k + 1)) := by
            rw [Hid, ← HR.out.2.1, List.drop_eq_nil_of_le (by rw [← HQ4.out]; omega)]; simp [halfW]
          have HREL : Hid (RowsOwn WayP 23 1 0 wB.heap.size wr (.slice pa j pc) (meetO l1 l2 (k + 1)) ∧ Below wB.heap.size wB wr) := by
            rw [← HEQ.out]; exact ⟨HR.out.1, HR.out.2.2.1⟩
          clear hbw
          go_wp2_with fail
          go_roundw
          case rel => exact ⟨k + 1, by go_num, by omega, HREL.out⟩
          case measure => simp [intOf]; omega
    · obtain rfl : k = 2 := by omega
      have hWO := RowsOwn.at HI.out.1 (by have := meetO_len l1 l2 2; rw [← HN1.out, ← HN2.out] at this; omega) (w' := wr) (fun _ _ _ => rfl)
      have HOF := hid (mask_Of (show WaysAt wr (.slice oa j0 oc) (meetO l1 l2 2) from hWO) (meetO_light HL12.out.1 HL12.out.2 (by rw [← HN1.out, ← HN2.out]; exact hL) 2))
      have HBX2 := hid (HBX.out.below HI.out.2)
      obtain ⟨o, HO⟩ : ∃ o, Hid (o = mOf (meetO l1 l2 2)) := ⟨_, rfl⟩
      have HQ2 : Hid (Q = MaskPost w o) := by rw [Hid, HQ.out, HO.out]; rfl
      rw [← HO.out] at HOF
      clear hWO hlt hi0 hi1
      go_wp2_with fail
      refine HOF.out.mono ?_
      intro e w3 hp3
      obtain ⟨a3, c3, rfl, -, hb3, hN3⟩ := hp3.open
      obtain ⟨q3, HQ3⟩ : ∃ q3, Hid (q3 = o.length) := ⟨_, rfl⟩
      rw [← HQ3.out] at hN3 ⊢
      have HBX3 := hid (HBX2.out.below hb3)
      have hsz3 := HBX3.out.lt
      have c0 := HBX3.out.cell 0 _ rfl
      have f0 := HBX3.out.free 0
      have hs2 := HI.out.2.size
      have HB3 : Hid (Below w.heap.size w w3) := (HB0.out.trans (HI.out.2.mono (by have := HSZ.out; omega))).trans (hb3.mono (by have := HSZ.out; omega))
      have HCS : Hid ((w3.setCell ⟨w.heap.size + 2, 0, none⟩ (.slice a3 q3 c3)).cell? ⟨w.heap.size + 2, 0, none⟩ = some (.slice a3 q3 c3)) := World.cell?_setCell_same' _ _ _ (by rw [c0]; rfl)
      have HFIN : Hid (Q (.returned (maskV (.slice a3 q3 c3))) (w3.setCell ⟨w.heap.size + 2, 0, none⟩ (.slice a3 q3 c3))) := by
        rw [HQ2.out]
        exact ⟨_, rfl, hN3.later (by have := HSZ.out; omega) (by simp) fun b h1 h2 => Below.heap_setCell _ _ _ _ (by show b ≠ w.heap.size + 2; have := HSZ.out; omega), HB3.out.setCell (by simp) _⟩
      unfold maskV
      clear hp3 hb3 hN3 hs2
      go_wp2_with fail
      refine bodyPost_ret (v := maskV (.slice a3 q3 c3)) (by simp [results, Tryd.results9, go_sem, maskV, HCS.out]) rfl HFIN.out
end Go.Proofs.YtmngpfnjomhhcaaDoor
namespace Go.Proofs.YtmngpfnjomhhcaaDoor
open Go.RowKit
theorem row_mono {w : World} {base base' size n : Nat} {e : TypeId} {v : Value} {xs : List Value} (h : w.ownsRow base e size v n xs) (hb : base' ≤ base) : w.ownsRow base' e size v n xs := by
  refine ⟨h.1, ?_⟩
  rcases h.2 with h2 | ⟨g, cap, cur, hv, hg, h3⟩
  · exact .inl h2
  · exact .inr ⟨g, cap, cur, hv, by omega, h3⟩
/-- the first so many of a slice of one-cell elements -/
theorem Seg.h1 {P : Program} {t e : TypeId} (ht : P.underlying t = some (.slice e)) (hs : ∀ w : World, (sizeOf e).run P w = .ok 1 w) {w : World} {a : Option Addr} {n cap : Nat} {xs : List Value} (h : Seg w (.slice a n cap) 1 n xs) (j : Nat) (hj : j ≤ n) :
    ∃ a' cap', (∀ W, (Instr.slice t (.slice a n cap) none (some (.int .i64 (j : Int))) none).run P W = .ok (.slice a' j cap') W) ∧ Seg w (.slice a' j cap') 1 j (xs.take j) := by
  have hcap : n ≤ cap := by obtain ⟨_, _, a', cap', hv, h3, _⟩ := h; cases hv; exact h3
  have hr := fun W => slice_h_run ht hs a n cap j (by omega) W
  have hsb := Seg.sub h 0 j (by omega) hj
  unfold sliced at hr hsb
  refine ⟨_, _, hr, ?_⟩
  simpa using hsb
/-- what is behind the first so many -/
theorem Seg.l1 {P : Program} {t e : TypeId} (ht : P.underlying t = some (.slice e)) (hs : ∀ w : World, (sizeOf e).run P w = .ok 1 w) {w : World} {a : Option Addr} {n cap : Nat} {xs : List Value} (h : Seg w (.slice a n cap) 1 n xs) (i : Nat) (hi : i ≤ n) :
    ∃ a' cap', (∀ W, (Instr.slice t (.slice a n cap) (some (.int .i64 (i : Int))) none none).run P W = .ok (.slice a' (n - i) cap') W) ∧ Seg w (.slice a' (n - i) cap') 1 (n - i) (xs.drop i) := by
  have hr := fun W => slice_l_run ht hs a n cap i hi W
  have hsb := Seg.sub h i n hi (Nat.le_refl _)
  have hl := h.1
  unfold sliced at hr hsb
  refine ⟨_, _, hr, ?_⟩
  rw [List.take_of_length_le (by simp [hl])] at hsb
  simpa using hsb
end Go.Proofs.YtmngpfnjomhhcaaDoor
namespace Go.Proofs.YtmngpfnjomhhcaaDoor
open Go.RowKit
def SomeBool (w : World) (e : Ending) (w' : World) : Prop := (∃ b, e = .returned (.bool b)) ∧ w = w'
theorem SomeBool.mk {w : World} {e : Ending} (b : Bool) (h : e = .returned (.bool b)) : SomeBool w e w := ⟨⟨b, h⟩, rfl⟩
set_option maxRecDepth 100000 in
set_option maxHeartbeats 4000000 in
theorem law13_Many {w : World} {v : Value} {ls : List (List Int)} (h : WaysAt w v ls) :
    Calls Tryd.prog 5 #[v] w (SomeBool w) := by
  obtain ⟨hl, a, c, rfl, -, hat⟩ := h.open
  obtain ⟨n, HN⟩ : ∃ n, Hid (n = ls.length) := ⟨_, rfl⟩
  rw [← HN.out] at hl ⊢
  have HAT := hid hat
  clear h hat
  go_enter Tryd.func5, Tryd.ntmps5
  go_wp2_with fail
  go_loop [3, 4] (fun v3 v4 => ∃ (k : Nat) (z : Int), v4 = .int .i64 k ∧ k ≤ n ∧ v3 = .int .i64 z) (fun _ v4 => n - (intOf v4).toNat)
  case atStart => exact ⟨0, 0, rfl, by omega, rfl⟩
  case round =>
    obtain ⟨k, z, rfl, hk, rfl⟩ := hrel
    by_cases hlt : k < n
    · obtain ⟨y, hy⟩ := way_get HN.out hlt
      obtain ⟨b, q, ya, yc, ha, g0, hY⟩ := HAT.out k y hy
      have hix := index_run1 Tryd.underlying22 size_ints ha k hlt (cap := c)
      obtain ⟨q2, HQ2⟩ : ∃ q2, Hid (q2 = y.length) := ⟨_, rfl⟩
      rw [← HQ2.out] at g0
      clear hy ha hY
      go_wp2_with fail
      go_round
      case rel => exact ⟨k + 1, _, by go_num, hlt, rfl⟩
      case measure => simp [intOf]; omega
    · obtain rfl : k = n := by omega
      go_wp2_with fail
      go_ret
      exact SomeBool.mk _ rfl
end Go.Proofs.YtmngpfnjomhhcaaDoor
namespace Go.Proofs.YtmngpfnjomhhcaaDoor
open Go.RowKit
def sdot : List UInt8 → List (List UInt8)
  | [] => [[]]
  | c :: r => if c = 46 then [] :: sdot r else match sdot r with
    | [] => [[c]]
    | h :: t => (c :: h) :: t
theorem sdot_cons (l : List UInt8) : ∃ h t, sdot l = h :: t := by
  cases l with
  | nil => exact ⟨_, _, rfl⟩
  | cons c r =>
    rw [sdot]
    split
    · exact ⟨_, _, rfl⟩
    · split <;> exact ⟨_, _, rfl⟩
theorem sdot_none : ∀ {l : List UInt8}, (46 : UInt8) ∉ l → sdot l = [l]
  | [], _ => rfl
  | c :: r, h => by
    have hc : c ≠ 46 := fun e => h (by simp [e])
    rw [sdot, if_neg hc, sdot_none (l := r) (fun e => h (by simp [e]))]
theorem sdot_at : ∀ {a : List UInt8} (b : List UInt8), (46 : UInt8) ∉ a → sdot (a ++ 46 :: b) = a :: sdot b
  | [], b, _ => by rw [List.nil_append, sdot, if_pos rfl]
  | c :: r, b, h => by
    have hc : c ≠ 46 := fun e => h (by simp [e])
    rw [List.cons_append, sdot, if_neg hc, sdot_at (a := r) b (fun e => h (by simp [e]))]
theorem sdot_mem_len : ∀ (l : List UInt8) (t : List UInt8), t ∈ sdot l → t.length ≤ l.length
  | [], t, h => by simp [sdot] at h; simp [h]
  | c :: r, t, h => by
    have ih := sdot_mem_len r
    rw [sdot] at h
    split at h
    · rcases List.mem_cons.1 h with rfl | h
      · simp
      · have := ih t h; simp; omega
    · split at h
      · simp at h; subst h; simp
      · rename_i hd tl e
        rcases List.mem_cons.1 h with rfl | h
        · have := ih hd (by rw [e]; simp)
          simp; omega
        · have := ih t (by rw [e]; simp [h])
          simp; omega
/-- What the library's index of a point tells. -/
theorem sdot_index_none {l : List UInt8} (h : Lib.indexByte l 46 = -1) : sdot l = [l] :=
  sdot_none fun hm => by
    obtain ⟨k, hk⟩ := List.mem_iff_getElem?.1 hm
    exact Lib.indexByte_none h k hk
theorem sdot_index_some {l : List UInt8} {i : Nat} (h : Lib.indexByte l 46 = i) : i < l.length ∧ sdot l = l.take i :: sdot (l.drop (i + 1)) := by
  obtain ⟨h1, h2⟩ := Lib.indexByte_some h
  obtain ⟨hi, h3⟩ := List.getElem?_eq_some_iff.1 h1
  refine ⟨hi, ?_⟩
  have e : l = l.take i ++ 46 :: l.drop (i + 1) := by
    conv => lhs; rw [← List.take_append_drop i l]
    rw [List.drop_eq_getElem_cons hi, h3]
  conv => lhs; rw [e]
  refine sdot_at _ fun hm => ?_
  obtain ⟨k, hk⟩ := List.mem_iff_getElem?.1 hm
  rw [List.getElem?_take] at hk
  split at hk
  · rename_i hki
    exact h2 k hki hk
  · cases hk
end Go.Proofs.YtmngpfnjomhhcaaDoor
