/- mask.Of: the mask of ways (mOf). At most 2^40 ways, each of at most 2^44 numbers. Mask.Whole, Mask.right, Mask.Under, darningref13.Under; slices.EqualFunc of ways. At most 2^40 ways, each of at most 2^44 numbers. slices.Grow of nil, slices.Concat of two lists of ways; mask.Union. At most 2^40 ways. mask.Meet. darningref13: less, Of, Under. At most 2^40 ways. -/
import Derived.Test.YtpjikakbdahmfaaGreatDoorZ10
import Derived.Deep.RegionHeld3
import Derived.Lib.AppendZerosOnto
namespace Go.Proofs.YtpjikakbdahmfaaGreatDoor
open Go.RowKit

theorem pairs_of {w : World} : ∀ (rows : List (List Value)) (ls : List (List Int)), rows.length = ls.length → (∀ (i : Nat) (r : List Value) (x : List Int), rows[i]? = some r → ls[i]? = some x → WayP w r x) →
    ∃ ps : List (WV w), ps.map WV.way = ls ∧ ps.map WV.val = rows.flatten
  | [], [], _, _ => ⟨[], rfl, rfl⟩
  | [], _ :: _, h, _ => by simp at h
  | _ :: _, [], h, _ => by simp at h
  | r :: rows, x :: ls, h, hp => by
    obtain ⟨v, rfl, hI⟩ := hp 0 r x rfl rfl
    obtain ⟨ps, h1, h2⟩ := pairs_of rows ls (by simpa using h) fun i r x hr hx => hp (i + 1) r x (by simpa using hr) (by simpa using hx)
    exact ⟨WV.mk v x hI :: ps, by rw [List.map_cons, h1, WV.way_mk], by rw [List.map_cons, h2, WV.val_mk]; rfl⟩
theorem WaysAt.pairs {w : World} {v : Value} {ls : List (List Int)} (h : WaysAt w v ls) : ∃ ps : List (WV w), ps.map WV.way = ls ∧ Seg w v 1 ps.length (ps.map WV.val) := by
  obtain ⟨rows, h1, -, h3, h4⟩ := h
  obtain ⟨ps, e1, e2⟩ := pairs_of rows ls h1 h4
  have e3 : ps.length = ls.length := by rw [← e1, List.length_map]
  exact ⟨ps, e1, by rw [e2, e3]; exact h3⟩
theorem wv_vals_one {w : World} (ps : List (WV w)) : ∀ u ∈ ps.map WV.val, u.oneCell' = true := by
  intro u hu
  obtain ⟨p, -, rfl⟩ := List.mem_map.1 hu
  exact p.one
/-- what a walk wants of the values in their row -/
theorem seg_wv {w0 w : World} {v : Value} {ps : List (WV w0)} (h : Seg w v 1 ps.length (ps.map WV.val)) : ∃ a cap, v = .slice a ps.length cap ∧ ∀ k (p : WV w0), ps[k]? = some p → ∃ b o a2 c2, a = some ⟨b, o, none⟩ ∧ w.cell? ⟨b, o + k, none⟩ = some (.slice a2 p.way.length c2) ∧ IntsAt w0 (.slice a2 p.way.length c2) p.way := by
  obtain ⟨-, -, a, cap, hv, -, -, -, hc⟩ := h
  refine ⟨a, cap, hv, fun k p hk => ?_⟩
  obtain ⟨b, o, ha, hcell⟩ := hc k p.val (by simp [hk])
  have hI := p.2
  have hI' := hI
  obtain ⟨-, a2, c2, hv2, -, -⟩ := hI'.open
  refine ⟨b, o, a2, c2, ha, ?_, ?_⟩
  · rw [hcell]; exact congrArg some hv2
  · show IntsAt w0 (.slice a2 p.1.2.length c2) p.1.2
    rw [← hv2]; exact hI

/-- one step of the sieve -/
theorem sieve_skip {o : List (List Int)} {w : List Int} {r : List (List Int)} (h : w = [] ∨ (∃ u, o.getLast? = some u ∧ u <+: w)) : sieveW o (w :: r) = sieveW o r := by rw [sieveW, if_pos h]
theorem sieve_take {o : List (List Int)} {w : List Int} {r : List (List Int)} (h : ¬ (w = [] ∨ (∃ u, o.getLast? = some u ∧ u <+: w))) : sieveW o (w :: r) = sieveW (o ++ [w]) r := by rw [sieveW, if_neg h]

theorem ints_one {w : World} {base : Nat} {v : Value} {l : List Int} (h : IntsOwn w base v l) : v.oneCell' = true := by
  obtain ⟨a, c, rfl⟩ := h.form
  rfl
theorem IntsOwn.apart {w : World} {n0 base : Nat} {v : Value} {l : List Int} (h : IntsOwn w base v l) (hn : l.length ≤ 140737488355328) (hl : ∀ x ∈ l, i64ok x) : Apart n0 base w (fun w' => WayP w' [v] l) := fun _ hw' =>
  ⟨v, rfl, IntsOwn.ints (row_keep h fun b _ hb he => hw' b (Array.getElem?_eq_some_iff.1 he).1 (.inr hb)) hn hl⟩

/-- the ways' lengths are in reach -/
def LightW (ls : List (List Int)) : Prop := ls.length ≤ 1099511627776 ∧ ∀ l ∈ ls, l.length ≤ 17592186044416

/-- ways that lie in what was laid since w -/
def NewWays (w w' : World) (v : Value) (o : List (List Int)) : Prop := o.length ≤ 1099511627776 ∧ ∃ base, w.heap.size ≤ base ∧ RowsOwn WayP 30 1 0 base w' v o
theorem NewWays.here {w w' : World} {v : Value} {o : List (List Int)} (h : NewWays w w' v o) : WaysAt w' v o := by
  obtain ⟨hl, base, -, h⟩ := h
  exact h.at (by omega) fun _ _ _ => rfl
/-- .. a store into what was there before, new blocks -/
theorem NewWays.later {w0 w w' w2 : World} {v : Value} {o : List (List Int)} (h : NewWays w w' v o) (h0 : w0.heap.size ≤ w.heap.size) (hs : w'.heap.size ≤ w2.heap.size) (hw : ∀ b, w.heap.size ≤ b → b < w'.heap.size → w2.heap[b]? = w'.heap[b]?) : NewWays w0 w2 v o := by
  obtain ⟨hl, base, hb, h⟩ := h
  refine ⟨hl, base, Nat.le_trans h0 hb, h.later (fun b h1 h2 => hw b (by omega) h1) hs⟩
/-- one of the ways: its value, and that it stays where the new blocks stay -/
theorem NewWays.elem {w w' : World} {v : Value} {o : List (List Int)} (h : NewWays w w' v o) {k : Nat} {x : List Int} (hk : o[k]? = some x) : ∃ b q a c, (v = .slice (some ⟨b, q, none⟩) o.length (match v with | .slice _ _ c => c | _ => 0)) ∧ w'.cell? ⟨b, q + k, none⟩ = some (.slice a x.length c) ∧ w.heap.size ≤ b ∧ b < w'.heap.size ∧
    ∀ W, (∀ b, w.heap.size ≤ b → b < w'.heap.size → W.heap[b]? = w'.heap[b]?) → IntsAt W (.slice a x.length c) x := by
  have hh := h.here
  obtain ⟨hl, base, hb, rows, h1, h2, h3, h4⟩ := h
  have hkl : k < o.length := (List.getElem?_eq_some_iff.1 hk).1
  have hr : rows[k]? = some (rows[k]'(by omega)) := List.getElem?_eq_getElem (by omega)
  generalize rows[k]'(by omega) = r at hr
  obtain ⟨y, rfl, hI⟩ := h4 w' (fun _ _ _ _ => rfl) k r x hr hk
  have hI' := hI
  obtain ⟨-, a, c, rfl, -, -⟩ := hI'.open
  have hflat := flatten_get rows k 0 _ h2 hr (by decide)
  rcases h3.2 with ⟨rfl, h0⟩ | ⟨g, cap, cur, rfl, hg, hc, hnc, hcm, hcs, ht⟩
  · omega
  · refine ⟨g, 0, a, c, rfl, ?_, by omega, (Array.getElem?_eq_some_iff.1 hc).1, fun W hW => ?_⟩
    · have := World.ownsRow.cells h3 (g := g) rfl k _ (by simpa using hflat)
      rwa [addr_add] at this
    · obtain ⟨y, e, hI2⟩ := h4 W (fun b h5 _ h6 => hW b (by omega) h5) k _ x hr hk
      cases e
      exact hI2

def MaskPost (w : World) (o : List (List Int)) (e : Ending) (w' : World) : Prop := ∃ v', e = .returned (maskV v') ∧ NewWays w w' v' o ∧ Below w.heap.size w w'

set_option maxRecDepth 100000 in
set_option maxHeartbeats 4000000 in
theorem mask_Of {w : World} {v : Value} {ls : List (List Int)} (h : WaysAt w v ls) (hL : LightW ls) :
    Calls Tryz.prog 35 #[v] w (MaskPost w (mOf ls)) := by
  have hA : Below w.heap.size w (w.alloc (.cells #[.slice none 0 0] 38)) := (Below.refl _ _).alloc (Nat.le_refl _) _
  obtain ⟨wA, HA⟩ : ∃ wA, Hid (wA = w.alloc (.cells #[.slice none 0 0] 38)) := ⟨_, rfl⟩
  have HBX : Hid (Blk wA w.heap.size [.slice none 0 0] 38) := by rw [HA.out]; exact Blk.new w [.slice none 0 0] _
  rw [← HA.out] at hA
  have HSZ : Hid (wA.heap.size = w.heap.size + 1) := by rw [HA.out]; simp [Hid]
  obtain ⟨ps, e1, hseg⟩ := (h.below hA).pairs
  have HWA := hid hA
  have HL := hid hL
  have hpl : ps.length = ls.length := by rw [← e1, List.length_map]
  have HCL := hid (clone_ways (w := wA) (vs := ps.map WV.val) (by rw [List.length_map]; exact hseg) (wv_vals_one ps) (by rw [List.length_map, hpl]; exact hL.1))
  obtain ⟨-, a, c, rfl, -, -⟩ := h.open
  obtain ⟨n, HN⟩ : ∃ n, Hid (n = ls.length) := ⟨_, rfl⟩
  rw [← HN.out] at HCL ⊢
  obtain ⟨Q, HQ⟩ : ∃ Q : Ending → World → Prop, Hid (Q = MaskPost w (mOf ls)) := ⟨_, rfl⟩
  rw [← HQ.out]
  have HE := hid e1
  have HPL := hid hpl
  clear h hA hL e1 hseg hpl
  go_enter Tryz.func35, Tryz.ntmps35
  go_wp2_with fail
  rw [← HA.out]
  refine HCL.out.mono ?_
  rintro e w1 ⟨v1, rfl, hO, hB1⟩
  have HSORT := hid (sort_ways_any ps hO (Nat.le_refl _) hB1 (by rw [HPL.out]; exact HL.out.1))
  have HB1 := hid hB1
  have hv1 := row_seg hO (by rw [List.length_map, HPL.out]; have := HL.out.1; omega)
  obtain ⟨-, -, a1, c1, rfl, -⟩ := hv1
  have hvn : (ps.map WV.val).length = n := by rw [List.length_map, HPL.out, HN.out]
  rw [hvn] at HSORT ⊢
  clear hO hB1 hvn
  go_wp2_with fail
  refine HSORT.out.mono ?_
  rintro e w2 ⟨rfl, ps', hperm, hpw, hseg, hB2⟩
  have hps : ps'.length = n := by rw [hperm.length_eq, HPL.out, HN.out]
  rw [hps] at hseg
  have HSEG := hid hseg
  obtain ⟨s, HS⟩ : ∃ s, Hid (s = ps'.map WV.way) := ⟨_, rfl⟩
  have HGET : Hid (∀ k (x : List Int), s[k]? = some x → ∃ b o a2 c2, a1 = some ⟨b, o, none⟩ ∧ w2.cell? ⟨b, o + k, none⟩ = some (.slice a2 x.length c2) ∧ IntsAt wA (.slice a2 x.length c2) x ∧ x.length ≤ 17592186044416) := by
    obtain ⟨a3, c3, hv3, hc3⟩ := seg_wv (ps := ps') (by rw [hps]; exact hseg)
    cases hv3
    intro k x hx
    rw [HS.out, List.getElem?_map] at hx
    obtain ⟨p, hp, rfl⟩ := Option.map_eq_some_iff.1 hx
    obtain ⟨b, o, a2, c2, h1, h2, h3⟩ := hc3 k p hp
    refine ⟨b, o, a2, c2, h1, h2, h3, HL.out.2 _ ?_⟩
    rw [← HE.out]
    exact List.mem_map.2 ⟨p, (hperm.mem_iff).1 (List.mem_of_getElem? hp), rfl⟩
  have HSN : Hid (n = s.length) := by rw [Hid, HS.out, List.length_map, hps]
  have HM : Hid (sieveW [] s = mOf ls) := by
    refine sieve_rOf (fun x => ?_) (by rw [HS.out]; exact hpw)
    rw [HS.out, ← HE.out]
    exact (hperm.map WV.way).mem_iff
  have HB2 := hid hB2
  have HW2 : Hid (w.heap.size ≤ w2.heap.size) := by have := hB2.size; have := HSZ.out; show _ ≤ _; omega
  have HNL : Hid (n ≤ 1099511627776) := by rw [Hid, HN.out]; exact HL.out.1
  have hn := HNL.out
  clear hperm hpw hseg hB2 hps HSORT HCL
  go_wp2_with fail
  go_loopw [4, 13] (fun v4 v13 wr => ∃ (k : Nat) (o : List (List Int)), v13 = .int .i64 k ∧ k ≤ n ∧ Hid (RowsOwn WayP 30 1 0 w2.heap.size wr v4 o ∧ o.length ≤ k ∧ sieveW o (s.drop k) = mOf ls ∧ Below w2.heap.size w2 wr)) (fun _ v13 _ => n - (intOf v13).toNat)
  case atStart => exact ⟨0, [], rfl, by omega, RowsOwn.nil _ _ _ _ _ _, by simp, HM.out, Below.refl _ _⟩
  case round =>
    obtain ⟨k, o, rfl, hk, HI⟩ := hrel
    have hOF := HI.out.1.form
    obtain ⟨oa, oc, hoe⟩ := hOF
    obtain ⟨j, HJ⟩ : ∃ j, Hid (j = o.length) := ⟨_, rfl⟩
    rw [← HJ.out] at hoe
    subst hoe
    have hjk : j ≤ k := by rw [HJ.out]; exact HI.out.2.1
    by_cases hlt : k < n
    · obtain ⟨x, hx⟩ := way_get HSN.out hlt
      obtain ⟨b, q, xa, xc, ha, g0, hX, hxl⟩ := HGET.out k x hx
      replace g0 := below_keeps HI.out.2.2.2 _ _ g0
      have HXW := hid ((hX.below HB2.out).below HI.out.2.2.2)
      have HXL := hid hxl
      have hix := index_run1 Tryz.underlying25 size_ints ha k hlt (cap := c1)
      have HD := hid (drop_at hx)
      obtain ⟨m, HMM⟩ : ∃ m, Hid (m = x.length) := ⟨_, rfl⟩
      rw [← HMM.out] at g0 HXW
      have HX64 := hid hX.2
      clear hx hX ha hxl
      by_cases hm : m = 0
      · subst hm
        have HSK := hid (sieve_skip (o := o) (w := x) (r := s.drop (k + 1)) (.inl (List.length_eq_zero_iff.1 HMM.out.symm)))
        go_wp2_with fail
        go_roundw
        case rel => exact ⟨k + 1, o, by go_num, hlt, HI.out.1, by have := HI.out.2.1; omega, by rw [← HSK.out, ← HD.out]; exact HI.out.2.2.1, HI.out.2.2.2⟩
        case measure => simp [intOf]; omega
      · have HXN : Hid (x ≠ []) := fun e => hm (by rw [HMM.out, e]; rfl)
        have e1 : ((m : Int) == 0) = false := by simp; omega
        have e2 : (m == 0) = false := by simp; omega
        have e3 : decide ((m : Int) = 0) = false := by simp; omega
        by_cases hj : j = 0
        · subst hj
          have HO0 : Hid (o = []) := List.length_eq_zero_iff.1 HJ.out.symm
          have HTK := hid (sieve_take (o := o) (w := x) (r := s.drop (k + 1)) (by rw [HO0.out]; simp; exact HXN.out))
          go_wp2_with fail
          have hcl := clone_ints (HXW.out) HXL.out
          refine hcl.mono ?_
          clear hcl
          rintro e w4 ⟨v5, rfl, hO5, hB5⟩
          obtain ⟨a5, c5, hv5⟩ := hO5.form
          rw [← HMM.out] at hv5
          subst hv5
          obtain ⟨a', c', w6, hr, hO6, hB6, hB7⟩ := (HI.out.1).step hB5 (by decide) (Nat.zero_le _) HI.out.2.2.2.size HJ.out.symm (G := Tryz.prog) 25 (.slice none 0 0) 24 under_ways info_ints rfl #[.slice a5 m c5] rfl (by intro u hu; simp at hu; subst hu; exact ints_one hO5) x (hO5.apart (by have := HXL.out; omega) HX64.out) (by have := HNL.out; omega) (by decide)
          have HO6 := hid hO6
          have HB7 := hid hB7
          clear hO5 hB5 hO6 hB6 hB7
          go_wp2_with (at_builtin; refine wpList_append_eq rfl _ _ _ rfl _ _ rfl rfl hr ?_)
          go_roundw
          case rel => exact ⟨k + 1, o ++ [x], by go_num, hlt, HO6.out, by rw [List.length_append]; have := HI.out.2.1; simp; omega, by rw [← HTK.out, ← HD.out]; exact HI.out.2.2.1, HI.out.2.2.2.trans HB7.out⟩
          case measure => simp [intOf]; omega
        · have hj0 : 0 < j := by omega
          obtain ⟨u, HU⟩ : ∃ u, Hid (o[j - 1]? = some u) := way_get HJ.out (by omega)
          have HLAST : Hid (o.getLast? = some u) := by rw [Hid, List.getLast?_eq_getElem?, ← HJ.out]; exact HU.out
          have hWA := RowsOwn.at HI.out.1 (by have := HI.out.2.1; have := HNL.out; omega) (w' := wr) (fun _ _ _ => rfl)
          obtain ⟨-, oa', oc', hoe, -, hoat⟩ := WaysAt.open hWA
          rw [← HJ.out] at hoe
          cases hoe
          obtain ⟨b2, q2, ua, uc, ha2, g2, hU⟩ := hoat (j - 1) u HU.out
          have hix2 := index_run1 Tryz.underlying25 size_ints ha2 (j - 1) (by omega : j - 1 < j) (cap := oc)
          rw [show ((j - 1 : Nat) : Int) = (j : Int) - 1 by omega] at hix2
          have HUW := hid hU
          obtain ⟨um, HUM⟩ : ∃ um, Hid (um = u.length) := ⟨_, rfl⟩
          rw [← HUM.out] at g2 HUW
          have hBEG := mask_begins HXW.out HUW.out
          obtain ⟨y, HY⟩ : ∃ y, Hid (y = beginsW x u) := ⟨_, rfl⟩
          rw [← HY.out] at hBEG
          have HBEG := hid hBEG
          clear hBEG hWA hoat ha2 hU
          cases y with
          | true =>
            have HSK := hid (sieve_skip (o := o) (w := x) (r := s.drop (k + 1)) (.inr ⟨u, HLAST.out, (beginsW_iff _ _).1 HY.out.symm⟩))
            go_wp2_with (go_at_call 65; refine HBEG.out.mono ?_; rintro e w' ⟨rfl, hd⟩; have HDW := hid hd.below; clear hd)
            go_roundw
            case rel => exact ⟨k + 1, o, by go_num, hlt, HI.out.1.below HDW.out, by have := HI.out.2.1; omega, by rw [← HSK.out, ← HD.out]; exact HI.out.2.2.1, below_step HI.out.2.2.2 HDW.out HI.out.2.2.2.size⟩
            case measure => simp [intOf]; omega
          | false =>
            have HTK := hid (sieve_take (o := o) (w := x) (r := s.drop (k + 1)) (by rintro (e | ⟨u2, e, hp⟩); exact HXN.out e; rw [HLAST.out] at e; cases e; have := (beginsW_iff x u).2 hp; rw [← HY.out] at this; cases this))
            go_wp2_with (go_at_call 65; refine HBEG.out.mono ?_; rintro e w3 ⟨rfl, hd⟩; have HDW := hid hd.below; clear hd)
            have hcl := clone_ints (HXW.out.below HDW.out) HXL.out
            refine hcl.mono ?_
            clear hcl
            rintro e w4 ⟨v5, rfl, hO5, hB5⟩
            obtain ⟨a5, c5, hv5⟩ := hO5.form
            rw [← HMM.out] at hv5
            subst hv5
            obtain ⟨a', c', w6, hr, hO6, hB6, hB7⟩ := (HI.out.1.below HDW.out).step hB5 (by decide) (Nat.zero_le _) (Nat.le_trans HI.out.2.2.2.size HDW.out.size) HJ.out.symm (G := Tryz.prog) 25 (.slice none 0 0) 24 under_ways info_ints rfl #[.slice a5 m c5] rfl (by intro u hu; simp at hu; subst hu; exact ints_one hO5) x (hO5.apart (by have := HXL.out; omega) HX64.out) (by have := HNL.out; omega) (by decide)
            have HO6 := hid hO6
            have HB7 := hid hB7
            clear hO5 hB5 hO6 hB6 hB7
            go_wp2_with (at_builtin; refine wpList_append_eq rfl _ _ _ rfl _ _ rfl rfl hr ?_)
            go_roundw
            case rel => exact ⟨k + 1, o ++ [x], by go_num, hlt, HO6.out, by rw [List.length_append]; have := HI.out.2.1; simp; omega, by rw [← HTK.out, ← HD.out]; exact HI.out.2.2.1, (below_step HI.out.2.2.2 HDW.out HI.out.2.2.2.size).trans HB7.out⟩
            case measure => simp [intOf]; omega
    · obtain rfl : k = n := by omega
      have HEN : Hid (o = mOf ls) := by
        have := HI.out.2.2.1
        rw [List.drop_eq_nil_of_le (by rw [← HSN.out]; omega)] at this
        exact this
      have HBX2 := hid ((HBX.out.below HB2.out).below HI.out.2.2.2)
      have c0 := HBX2.out.cell 0 _ rfl
      have f0 := HBX2.out.free 0
      have hsz := HBX2.out.lt
      have HFIN : Hid (MaskPost w (mOf ls) (.returned (maskV (.slice oa j oc))) (wr.setCell ⟨w.heap.size, 0, none⟩ (.slice oa j oc))) := by
        have hw2 : w.heap.size + 1 ≤ w2.heap.size := by have := HB2.out.size; have := HSZ.out; omega
        refine ⟨_, rfl, ?_, ?_⟩
        · rw [← HEN.out]
          refine ⟨by rw [← HJ.out]; have := HNL.out; omega, w2.heap.size, by omega, ?_⟩
          exact HI.out.1.later (fun b hb hc => Below.heap_setCell _ _ _ _ (by show b ≠ w.heap.size; omega)) (by simp)
        · have h1 : Below w.heap.size w w2 := HWA.out.trans (HB2.out.mono (by have := HSZ.out; omega))
          exact (h1.trans (HI.out.2.2.2.mono (by omega))).setCell (Nat.le_refl _) _
      have HCS : Hid ((wr.setCell ⟨w.heap.size, 0, none⟩ (.slice oa j oc)).cell? ⟨w.heap.size, 0, none⟩ = some (.slice oa j oc)) := World.cell?_setCell_same' _ _ _ (by rw [c0]; rfl)
      clear hlt
      go_wp2_with fail
      rw [HQ.out]
      refine bodyPost_ret (v := maskV (.slice oa j oc)) (by simp [results, Tryz.results35, go_sem, maskV, HCS.out]) rfl HFIN.out

end Go.Proofs.YtpjikakbdahmfaaGreatDoor

namespace Go.Proofs.YtpjikakbdahmfaaGreatDoor
open Go.RowKit

theorem MaskPost.open {w : World} {o : List (List Int)} {e : Ending} {w' : World} (h : MaskPost w o e w') : ∃ a c, e = .returned (maskV (.slice a o.length c)) ∧ WaysAt w' (.slice a o.length c) o ∧ Below w.heap.size w w' ∧ NewWays w w' (.slice a o.length c) o := by
  obtain ⟨v', rfl, h2, h3⟩ := h
  have h2' := h2.here
  have h2'' := h2'
  obtain ⟨-, a, c, rfl, -, -⟩ := h2''.open
  exact ⟨a, c, rfl, h2', h3, h2⟩

theorem field_mask (a : Option Addr) (n c : Nat) (w : World) : (Instr.field 38 (.agg #[.slice a n c]) 0).run Tryz.prog w = .ok (.slice a n c) w := by kernel_rfl

set_option maxRecDepth 100000 in
set_option maxHeartbeats 4000000 in
theorem equalFunc_ways {w : World} {v u : Value} {l m : List (List Int)} (h : WaysAt w v l) (hu : WaysAt w u m) :
    Calls Tryz.prog 103 #[v, u, .func (.func 102) #[] #[]] w fun e w' => e = .returned (.bool (decide (l = m))) ∧ Drew w w' := by
  obtain ⟨hl, a, c, rfl, -, hat⟩ := h.open
  obtain ⟨hm, a2, c2, rfl, -, hbt⟩ := hu.open
  obtain ⟨n, HN⟩ : ∃ n, Hid (n = l.length) := ⟨_, rfl⟩
  obtain ⟨n2, HN2⟩ : ∃ n, Hid (n = m.length) := ⟨_, rfl⟩
  rw [← HN.out] at hl ⊢
  rw [← HN2.out] at hm ⊢
  obtain ⟨z, HZ⟩ : ∃ z, Hid (z = decide (l = m)) := ⟨_, rfl⟩
  rw [← HZ.out]
  have HAT := hid hat
  have HBT := hid hbt
  have hcf : ∀ (args : Array Value) (w : World), (callFunc 102 args).run Tryz.prog w = .ok (.enter 102 args) w := fun args w => by simp [go_sem]
  clear hat hbt h hu
  by_cases hnn : n = n2
  · subst hnn
    go_enter Tryz.func103, Tryz.ntmps103
    go_wp2_with fail
    go_loopw [17] (fun v5 wr => ∃ i : Nat, v5 = .int .i64 i ∧ i ≤ n ∧ Hid (z = decide (l.drop i = m.drop i)) ∧ Hid (Drew w wr)) (fun v5 _ => n - (intOf v5).toNat)
    case atStart => exact ⟨0, rfl, by omega, by rw [Hid, HZ.out]; simp, Drew.refl _⟩
    case round =>
      obtain ⟨i, rfl, hi, HI, HB⟩ := hrel
      by_cases h1 : i < n
      · obtain ⟨x, hxi⟩ := way_get HN.out h1
        obtain ⟨y, hyi⟩ := way_get HN2.out h1
        obtain ⟨b, o, xa, xc, ha, g0, hX⟩ := HAT.out i x hxi
        obtain ⟨b2, o2, ya, yc, ha2, g2, hY⟩ := HBT.out i y hyi
        have HC := hid (same_ways_at hxi hyi)
        have hix := index_run1 Tryz.underlying25 size_ints ha i h1 (cap := c)
        have hix2 := index_run1 Tryz.underlying25 size_ints ha2 i h1 (cap := c2)
        have HS := hid (equal_ints (hX.keep HB.out.keeps) (hY.keep HB.out.keeps))
        replace g0 := HB.out.keeps _ _ g0
        replace g2 := HB.out.keeps _ _ g2
        obtain ⟨xn, HXN⟩ : ∃ xn, Hid (xn = x.length) := ⟨_, rfl⟩
        obtain ⟨yn, HYN⟩ : ∃ yn, Hid (yn = y.length) := ⟨_, rfl⟩
        rw [← HXN.out] at g0 HS
        rw [← HYN.out] at g2 HS
        clear hxi hyi ha ha2 hX hY
        by_cases hxy : x = y
        · have HC1 : Hid (z = decide (l.drop (i + 1) = m.drop (i + 1))) := by
            rw [Hid, HI.out, decide_eq_decide, HC.out]; simp [hxy]
          rw [show decide (x = y) = true from decide_eq_true hxy] at HS
          have HXY := hid hxy
          clear hxy
          go_wp2_with fail
          refine HS.out.mono ?_
          rintro e w3 ⟨rfl, hd⟩
          have HB3 := hid (HB.out.trans hd)
          clear hd
          go_wp2_with fail
          go_roundw
          case rel => exact ⟨i + 1, by go_num, h1, HC1.out, HB3.out⟩
          case measure => simp [intOf]; omega
        · have HC1 : Hid (z = false) := by
            rw [Hid, HI.out, decide_eq_false_iff_not, HC.out]; simp [hxy]
          rw [show decide (x = y) = false from decide_eq_false hxy] at HS
          have HXY := hid hxy
          clear hxy
          go_wp2_with fail
          refine HS.out.mono ?_
          rintro e w3 ⟨rfl, hd⟩
          have HB3 := hid (HB.out.trans hd)
          clear hd
          go_wp2_with fail
          go_ret
          exact ⟨by rw [HC1.out]; first | done | rfl, HB3.out⟩
      · obtain rfl : i = n := by omega
        have HC1 : Hid (z = true) := by
          rw [Hid, HI.out, List.drop_eq_nil_of_le (by rw [← HN.out]; omega), List.drop_eq_nil_of_le (by rw [← HN2.out]; omega)]; simp
        go_wp2_with fail
        go_ret
        exact ⟨by rw [HC1.out]; first | done | rfl, HB.out⟩
  · have HC1 : Hid (z = false) := by
      rw [Hid, HZ.out, decide_eq_false_iff_not]; rintro rfl; exact hnn (by rw [HN.out, HN2.out])
    have e1 : decide ((n : Int) = n2) = false := decide_eq_false (by omega)
    have e2 : ((n : Int) == n2) = false := by simp; omega
    have e3 : (n == n2) = false := by simp; omega
    clear hnn
    go_enter Tryz.func103, Tryz.ntmps103
    go_wp2_with fail
    go_ret
    exact ⟨by rw [HC1.out]; first | done | rfl, Drew.refl _⟩

def isMaskW (ls : List (List Int)) : Bool := decide (mOf ls = ls)

set_option maxRecDepth 100000 in
set_option maxHeartbeats 4000000 in
theorem mask_right {w : World} {v : Value} {ls : List (List Int)} (h : WaysAt w v ls) (hL : LightW ls) :
    Calls Tryz.prog 69 #[maskV v] w fun e w' => e = .returned (.bool (isMaskW ls)) ∧ Below w.heap.size w w' := by
  unfold maskV
  obtain ⟨wA, HA⟩ : ∃ wA, Hid (wA = w.alloc (.cells #[v] 38)) := ⟨_, rfl⟩
  have hA : Below w.heap.size w wA := by rw [HA.out]; exact (Below.refl _ _).alloc (Nat.le_refl _) _
  have HWA := hid hA
  have HW := hid (h.below hA)
  have HOF := hid (mask_Of (w := wA.drew) (((h.below hA)).keep fun _ _ h => h) hL)
  have hb0 : wA.cell? ⟨w.heap.size, 0, none⟩ = some v := by rw [HA.out]; simp [go_sem]
  have HB0 : Hid (wA.drew.cell? ⟨w.heap.size, 0, none⟩ = some v) := hb0
  have HWD : Hid (WaysAt wA.drew v ls) := HW.out.keep fun _ _ h => h
  obtain ⟨-, a, c, rfl, -, -⟩ := h.open
  obtain ⟨z, HZ⟩ : ∃ z, Hid (z = isMaskW ls) := ⟨_, rfl⟩
  rw [← HZ.out]
  clear h hL hA hb0
  go_enter Tryz.func69, Tryz.ntmps69
  have c0 := HB0.out
  have hfd := field_mask
  go_wp2_with fail
  rw [← HA.out]
  go_region_held3 (fun w' => w'.cell? ⟨w.heap.size, 0, none⟩ = some (.slice a ls.length c)) (first | (with_reducible exact c0) | (with_reducible exact c1) | (with_reducible exact k2) | go_keep) (first | (go_at_call 35; (with_reducible refine HOF.out.mono ?_); intro e w1 hp; obtain ⟨a2, c2, rfl, hW2, hb, -⟩ := hp.open; have c1 := below_keeps hb _ _ c0; have HEQ := hid (equalFunc_ways hW2 (HWD.out.below hb)); have HB := hid hb; unfold maskV; clear hW2 hb hp) | (go_at_call 103; (with_reducible refine HEQ.out.mono ?_); rintro e w2 ⟨rfl, hd⟩; have k2 := hd.keeps _ _ c1; have HD := hid hd; clear hd))
  go_wp2_with fail
  go_ret
  exact ⟨by rw [HZ.out]; first | done | rfl, below_step (below_step HWA.out.drew HB.out HWA.out.size) HD.out.below (Nat.le_trans HWA.out.size HB.out.size)⟩

theorem keep_old {w1 w' : World} (h : ∀ b, b < w1.heap.size → w'.heap[b]? = w1.heap[b]?) : ∀ p u, w1.cell? p = some u → w'.cell? p = some u := fun p _u hu =>
  (World.cell?_of_block (h _ (World.block_lt_of_cell? w1 p hu))).trans hu

theorem under_take {x : Int} {y : List Int} (r : List (List Int)) (h : 1 < y.length) (h0 : y[0]? = some x) : underW (y :: r) x = y.drop 1 :: underW r x := by
  unfold underW
  rw [List.filter_cons, if_pos (by simp [h, h0, List.head?_eq_getElem?])]
  simp
theorem under_skip1 {x : Int} {y : List Int} (r : List (List Int)) (h : ¬ 1 < y.length) : underW (y :: r) x = underW r x := by
  unfold underW
  rw [List.filter_cons, if_neg (by simp [h])]
theorem under_skip2 {x z : Int} {y : List Int} (r : List (List Int)) (h0 : y[0]? = some z) (hz : z ≠ x) : underW (y :: r) x = underW r x := by
  unfold underW
  rw [List.filter_cons, if_neg (by simp [h0, List.head?_eq_getElem?, hz])]

def UnderPost (w : World) (o : List (List Int)) (e : Ending) (w' : World) : Prop := ∃ v', e = .returned (.tuple #[maskV v', .bool (decide (0 < o.length))]) ∧ NewWays w w' v' o ∧ Below w.heap.size w w'
theorem mOf_light {ls : List (List Int)} (h : LightW ls) : LightW (mOf ls) := by
  have hm := mOf_mask ls
  refine ⟨?_, fun l hl => h.2 l ((hm.2 l).1 hl).1⟩
  exact Nat.le_trans (mOf_len ls) h.1
theorem underW_light {ls : List (List Int)} (h : LightW ls) (x : Int) : LightW (underW ls x) := by
  refine ⟨?_, fun l hl => ?_⟩
  · unfold underW
    rw [List.length_map]
    exact Nat.le_trans (List.length_filter_le _ _) h.1
  · obtain ⟨-, h2⟩ := (under_mem _ _ _).1 hl
    have := h.2 _ h2
    simp at this
    omega

end Go.Proofs.YtpjikakbdahmfaaGreatDoor

namespace Go.Proofs.YtpjikakbdahmfaaGreatDoor
open Go.RowKit

theorem grow_zeros (w : World) (n : Nat) (h0 : 0 < n) (hn : n ≤ 2199023255552) (ty : TypeId) :
    ∃ G, n ≤ G ∧ G ≤ 9223372036854775807 ∧ (Builtin.append_ #[25, 3] ty #[.slice none 0 0, .int .i64 (n : Int)]).run Tryz.prog w = .ok (.slice (some ⟨w.heap.size, 0, none⟩) n G) (w.drew.alloc (.cells (Builtin.zeroCells #[.slice none 0 0] n ++ Builtin.zeroCells #[.slice none 0 0] (G - n)) 30)) ∧ G ≤ maxLen := by
  obtain ⟨i, hi, hz, hsize, hby⟩ := info_parts info_ints
  have h := Lib.run_append_grow_zeros w 25 3 ty 30 i (.slice none 0 0) .i64 .i64 under_ways Tryz.underlying3 hi hz none 0 0 [] (run_firstCells_none w.drew i.size 0 0 0) n h0 (by omega) (by omega) (by omega) (by rw [hby]; omega)
    (by rw [Nat.zero_add]; exact growslice_fits (by omega) (by rw [hby]; omega))
  rw [Nat.zero_add] at h
  have hm := grownCap_le_maxLen w n 0 30 (by unfold maxLen; omega)
  refine ⟨_, grownCap_ge w n 0 _, by have := hm; unfold maxLen at this; omega, ?_, hm⟩
  simp at h
  exact h

theorem size_zero (z : Value) (n : Nat) : (Builtin.zeroCells #[z] n).size = n := by
  have := size_zeroCells #[z] n
  simpa using this

theorem flatten_one {α : Type} (f : α → Value) : ∀ l : List α, (l.map fun p => [f p]).flatten = l.map f
  | [] => rfl
  | p :: l => by rw [List.map_cons, List.flatten_cons, flatten_one f l, List.map_cons]; rfl
/-- ways in a row, whose values were there before -/
theorem ways_of_row {w w0 : World} {v : Value} (ps : List (WV w0)) (h : Seg w v 1 ps.length (ps.map WV.val)) (hk : ∀ p u, w0.cell? p = some u → w.cell? p = some u) : WaysAt w v (ps.map WV.way) := by
  refine ⟨ps.map fun p => [p.val], by simp, by intro r hr; obtain ⟨p, -, rfl⟩ := List.mem_map.1 hr; rfl, ?_, ?_⟩
  · have e := flatten_one WV.val ps
    rw [e, List.length_map]; exact h
  · intro i r x hr hx
    rw [List.getElem?_map] at hr hx
    obtain ⟨p, hp, rfl⟩ := Option.map_eq_some_iff.1 hr
    rw [hp] at hx
    cases hx
    exact ⟨p.val, rfl, (p.2).keep hk⟩

end Go.Proofs.YtpjikakbdahmfaaGreatDoor

namespace Go.Proofs.YtpjikakbdahmfaaGreatDoor
open Go.RowKit

/-- half of a meet: the ways of x that y has -/
def halfW (x y : List (List Int)) : List (List Int) := x.filter (fun u => hasW y u)
theorem half_cons (x : List Int) (r y : List (List Int)) : halfW (x :: r) y = if hasW y x = true then x :: halfW r y else halfW r y := by
  unfold halfW
  rw [List.filter_cons]

def meetO (l1 l2 : List (List Int)) : Nat → List (List Int)
  | 0 => []
  | 1 => halfW (mOf l1) l2
  | _ => halfW (mOf l1) l2 ++ halfW (mOf l2) l1
theorem half_len (x y : List (List Int)) : (halfW x y).length ≤ x.length := List.length_filter_le _ _
theorem meetO_len (l1 l2 : List (List Int)) (k : Nat) : (meetO l1 l2 k).length ≤ l1.length + l2.length := by
  have h1 := half_len (mOf l1) l2
  have h2 := half_len (mOf l2) l1
  have h3 := mOf_len l1
  have h4 := mOf_len l2
  match k with
  | 0 => simp [meetO]
  | 1 => simp only [meetO]; omega
  | _ + 2 => simp only [meetO, List.length_append]; omega
theorem meetO_light {l1 l2 : List (List Int)} (h1 : LightW l1) (h2 : LightW l2) (h : l1.length + l2.length ≤ 1099511627776) (k : Nat) : LightW (meetO l1 l2 k) := by
  refine ⟨Nat.le_trans (meetO_len l1 l2 k) h, fun l hl => ?_⟩
  have g1 : ∀ l ∈ halfW (mOf l1) l2, l.length ≤ 17592186044416 := fun l hl => (mOf_light h1).2 l (List.mem_filter.1 hl).1
  have g2 : ∀ l ∈ halfW (mOf l2) l1, l.length ≤ 17592186044416 := fun l hl => (mOf_light h2).2 l (List.mem_filter.1 hl).1
  match k, hl with
  | 1, hl => exact g1 l hl
  | _ + 2, hl => exact (List.mem_append.1 hl).elim (g1 l) (g2 l)

end Go.Proofs.YtpjikakbdahmfaaGreatDoor

namespace Go.Proofs.YtpjikakbdahmfaaGreatDoor
open Go.RowKit

theorem ltW_at {l m : List Int} {i : Nat} {x y : Int} (hx : l[i]? = some x) (hy : m[i]? = some y) : ltW (l.drop i) (m.drop i) = if x = y then ltW (l.drop (i + 1)) (m.drop (i + 1)) else decide (x < y) := by
  rw [drop_at hx, drop_at hy, ltW]
theorem ltW_end {l m : List Int} {i : Nat} (h : l.length ≤ i ∨ m.length ≤ i) (hi : i ≤ l.length) (hi2 : i ≤ m.length) : ltW (l.drop i) (m.drop i) = decide (l.length < m.length) := by
  by_cases h1 : l.length ≤ i
  · rw [List.drop_eq_nil_of_le h1]
    by_cases h2 : m.length ≤ i
    · rw [List.drop_eq_nil_of_le h2, ltW]; simp; omega
    · rw [List.drop_eq_getElem_cons (by omega), ltW]; simp; omega
  · rw [List.drop_eq_nil_of_le (by omega : m.length ≤ i), List.drop_eq_getElem_cons (by omega), ltW]; simp; omega

set_option maxRecDepth 100000 in
set_option maxHeartbeats 4000000 in
theorem ref13_less {w : World} {v u : Value} {l m : List Int} (h : IntsAt w v l) (hu : IntsAt w u m) :
    Calls Tryz.prog 68 #[v, u] w fun e w' => e = .returned (.bool (ltW l m)) ∧ Drew w w' := by
  obtain ⟨hl, a, c, rfl, -, hat⟩ := h.open
  obtain ⟨hm, a2, c2, rfl, -, hbt⟩ := hu.open
  obtain ⟨n, HN⟩ : ∃ n, Hid (n = l.length) := ⟨_, rfl⟩
  obtain ⟨n2, HN2⟩ : ∃ n, Hid (n = m.length) := ⟨_, rfl⟩
  rw [← HN.out] at hl ⊢
  rw [← HN2.out] at hm ⊢
  obtain ⟨z, HZ⟩ : ∃ z, Hid (z = ltW l m) := ⟨_, rfl⟩
  rw [← HZ.out]
  have HAT := hid hat
  have HBT := hid hbt
  clear hat hbt h hu
  go_enter Tryz.func68, Tryz.ntmps68
  go_wp2_with fail
  go_loopw [5] (fun v5 wr => ∃ i : Nat, v5 = .int .i64 i ∧ i ≤ n ∧ i ≤ n2 ∧ Hid (z = ltW (l.drop i) (m.drop i)) ∧ Hid (Drew w wr)) (fun v5 _ => n - (intOf v5).toNat)
  case atStart => exact ⟨0, rfl, by omega, by omega, by rw [Hid, HZ.out]; simp, Drew.refl _⟩
  case round =>
    obtain ⟨i, rfl, hi, hi2, HI, HB⟩ := hrel
    by_cases h12 : i < n ∧ i < n2
    · obtain ⟨h1, h2⟩ := h12
      obtain ⟨x, hxi⟩ := int_get HN.out h1
      obtain ⟨y, hyi⟩ := int_get HN2.out h2
      obtain ⟨hx64, b, o, ha, g0⟩ := HAT.out i x hxi
      obtain ⟨hy64, b2, o2, ha2, g2⟩ := HBT.out i y hyi
      have HC := hid (ltW_at hxi hyi)
      have hix := index_run1 Tryz.underlying30 size_int ha i h1 (cap := c)
      have hix2 := index_run1 Tryz.underlying30 size_int ha2 i h2 (cap := c2)
      replace g0 := HB.out.keeps _ _ g0
      replace g2 := HB.out.keeps _ _ g2
      clear hxi hyi ha ha2
      by_cases hxy : x = y
      · have HC1 : Hid (z = ltW (l.drop (i + 1)) (m.drop (i + 1))) := by rw [Hid, HI.out, HC.out, if_pos hxy]
        have hb1 : (x != y) = false := by simpa using hxy
        have hb2 : (x == y) = true := by simpa using hxy
        clear hxy
        go_wp2_with fail
        go_quiet (fail)
        go_wp2_with fail
        go_roundw
        case rel => exact ⟨i + 1, by go_num, h1, h2, HC1.out, HB.out.step _⟩
        case measure => simp [intOf]; omega
      · have HC1 : Hid (z = decide (x < y)) := by rw [Hid, HI.out, HC.out, if_neg hxy]
        have hb1 : (x != y) = true := by simpa using hxy
        have hb2 : (x == y) = false := by simpa using hxy
        clear hxy
        go_wp2_with fail
        go_quiet (fail)
        go_wp2_with fail
        go_quiet (fail)
        go_wp2_with fail
        go_ret
        exact ⟨by rw [HC1.out]; first | done | rfl, (HB.out.step _).step _⟩
    · have HC1 : Hid (z = decide (n < n2)) := by
        rw [Hid, HI.out, ltW_end (by rw [← HN.out, ← HN2.out]; omega) (by rw [← HN.out]; omega) (by rw [← HN2.out]; omega), ← HN.out, ← HN2.out]
      by_cases h1 : i < n
      · have h2 : n2 ≤ i := by omega
        have hn : ¬ n < n2 := by omega
        have HC2 : Hid (z = false) := by rw [Hid, HC1.out]; exact decide_eq_false hn
        clear h12
        go_wp2_with fail
        go_ret
        exact ⟨by rw [HC2.out]; first | done | rfl, HB.out⟩
      · by_cases hn : n < n2
        · have HC2 : Hid (z = true) := by rw [Hid, HC1.out]; exact decide_eq_true hn
          clear h12
          go_wp2_with fail
          go_ret
          exact ⟨by rw [HC2.out]; first | done | rfl, HB.out⟩
        · have HC2 : Hid (z = false) := by rw [Hid, HC1.out]; exact decide_eq_false hn
          clear h12
          go_wp2_with fail
          go_ret
          exact ⟨by rw [HC2.out]; first | done | rfl, HB.out⟩

theorem row_form {w : World} {base size n : Nat} {e : TypeId} {v : Value} {xs : List Value} (h : w.ownsRow base e size v n xs) : ∃ a c, v = .slice a n c := by
  rcases h.2 with ⟨h1, h2⟩ | ⟨g, cap, cur, hv, -⟩
  · exact ⟨none, 0, by rw [h1, h2]⟩
  · exact ⟨_, _, hv⟩
theorem row_mono {w : World} {base base' size n : Nat} {e : TypeId} {v : Value} {xs : List Value} (h : w.ownsRow base e size v n xs) (hb : base' ≤ base) : w.ownsRow base' e size v n xs := by
  refine ⟨h.1, ?_⟩
  rcases h.2 with h2 | ⟨g, cap, cur, hv, hg, h3⟩
  · exact .inl h2
  · exact .inr ⟨g, cap, cur, hv, by omega, h3⟩
/-- the first so many of a slice of one-cell elements -/
theorem Seg.h1 {P : Program} {t e : TypeId} (ht : P.underlying t = some (.slice e)) (hs : ∀ w : World, (sizeOf e).run P w = .ok 1 w) {w : World} {a : Option Addr} {n cap : Nat} {xs : List Value} (h : Seg w (.slice a n cap) 1 n xs) (j : Nat) (hj : j ≤ n) :
    ∃ a' cap', (∀ W, (Instr.slice t (.slice a n cap) none (some (.int .i64 (j : Int))) none).run P W = .ok (.slice a' j cap') W) ∧ Seg w (.slice a' j cap') 1 j (xs.take j) := by
  have hcap : n ≤ cap := by obtain ⟨_, _, a', cap', hv, h3, _⟩ := h; cases hv; exact h3
  have hr := fun W => slice_h_run ht hs a n cap j (by omega) W
  have hsb := Seg.sub h 0 j (by omega) hj
  unfold sliced at hr hsb
  refine ⟨_, _, hr, ?_⟩
  simpa using hsb
/-- what is behind the first so many -/
theorem Seg.l1 {P : Program} {t e : TypeId} (ht : P.underlying t = some (.slice e)) (hs : ∀ w : World, (sizeOf e).run P w = .ok 1 w) {w : World} {a : Option Addr} {n cap : Nat} {xs : List Value} (h : Seg w (.slice a n cap) 1 n xs) (i : Nat) (hi : i ≤ n) :
    ∃ a' cap', (∀ W, (Instr.slice t (.slice a n cap) (some (.int .i64 (i : Int))) none none).run P W = .ok (.slice a' (n - i) cap') W) ∧ Seg w (.slice a' (n - i) cap') 1 (n - i) (xs.drop i) := by
  have hr := fun W => slice_l_run ht hs a n cap i hi W
  have hsb := Seg.sub h i n hi (Nat.le_refl _)
  have hl := h.1
  unfold sliced at hr hsb
  refine ⟨_, _, hr, ?_⟩
  rw [List.take_of_length_le (by simp [hl])] at hsb
  simpa using hsb
def badW (l : List (List Int)) (i k : Nat) : Bool := decide (k ≠ i) && decide ((l.getD k []) ≠ []) && beginsW (l.getD i []) (l.getD k []) && (decide ((l.getD k []).length < (l.getD i []).length) || decide (k < i))
def keepTo (l : List (List Int)) (i k : Nat) : Bool := decide ((l.getD i []) ≠ []) && (List.range k).all fun k => !badW l i k
theorem keepTo_all (l : List (List Int)) (i : Nat) : keepTo l i l.length = keepW l i := rfl
theorem keepTo_succ (l : List (List Int)) (i k : Nat) : keepTo l i (k + 1) = (keepTo l i k && !badW l i k) := by
  unfold keepTo
  rw [List.range_succ, List.all_append, Bool.and_assoc]
  simp
def posW (w : List Int) (o : List (List Int)) : Nat := (o.takeWhile fun u => ltW u w).length
theorem insW_pos (w : List Int) : ∀ o, insW w o = o.take (posW w o) ++ w :: o.drop (posW w o)
  | [] => rfl
  | u :: r => by
    rw [insW, posW, List.takeWhile_cons]
    cases h : ltW u w with
    | true => simp only [if_true, List.length_cons, List.take_succ_cons, List.drop_succ_cons]; rw [insW_pos w r]; rfl
    | false => simp
theorem posW_le (w : List Int) (o : List (List Int)) : posW w o ≤ o.length := (List.takeWhile_prefix _).length_le
/-- the search for the place -/
theorem posW_from (w : List Int) (o : List (List Int)) (k : Nat) : (k < posW w o → ∃ u, o[k]? = some u ∧ ltW u w = true) ∧ (k = posW w o → ∀ u, o[k]? = some u → ltW u w = false) := by
  unfold posW
  induction o generalizing k with
  | nil => simp
  | cons u r ih =>
    rw [List.takeWhile_cons]
    cases h : ltW u w with
    | true =>
      simp only [if_true, List.length_cons]
      cases k with
      | zero => exact ⟨fun _ => ⟨u, rfl, h⟩, fun h => by omega⟩
      | succ k =>
        have := ih k
        exact ⟨fun hk => by simpa using this.1 (by omega), fun hk => by simpa using this.2 (by omega)⟩
    | false =>
      simp only [Bool.false_eq_true, if_false, List.length_nil]
      exact ⟨fun h => by omega, fun hk v hv => by subst hk; simp at hv; subst hv; exact h⟩

set_option maxRecDepth 100000 in
set_option maxHeartbeats 4000000 in
theorem ref13_Of {w : World} {v : Value} {ls : List (List Int)} (h : WaysAt w v ls) (hl : ls.length ≤ 1099511627776) :
    Calls Tryz.prog 36 #[v] w fun e w' => ∃ v', e = .returned v' ∧ WaysAt w' v' (mOf ls) ∧ Below w.heap.size w w' := by
  obtain ⟨-, a, c, rfl, -, hat⟩ := h.open
  obtain ⟨n, HN⟩ : ∃ n, Hid (n = ls.length) := ⟨_, rfl⟩
  rw [← HN.out] at hl ⊢
  have HAT := hid hat
  have HLS : Hid (∀ k x, ls[k]? = some x → ls.getD k [] = x) := fun k x hx => by rw [List.getD_eq_getElem?_getD, hx]; rfl
  clear hat h
  go_enter Tryz.func36, Tryz.ntmps36
  go_wp2_with fail
  go_loopw [3, 4] (fun v3 v4 wr => ∃ (i : Nat) (ps : List (WV w)), v4 = .int .i64 i ∧ i ≤ n ∧ Hid (ps.map WV.way = rOf ls i ∧ wr.ownsRow w.heap.size 30 1 v3 ps.length (ps.map WV.val) ∧ Below w.heap.size w wr)) (fun _ v4 _ => n - (intOf v4).toNat)
  case atStart => exact ⟨0, [], rfl, by omega, rfl, World.ownsRow_nil _ _ _ _, Below.refl _ _⟩
  case round =>
    obtain ⟨i, ps, rfl, hi, HI⟩ := hrel
    obtain ⟨m, HM⟩ : ∃ m, Hid (m = ps.length) := ⟨_, rfl⟩
    have hml : m ≤ i := by have h1 := rOf_len ls i; rw [← HI.out.1, List.length_map, ← HM.out] at h1; exact h1
    obtain ⟨oa, oc, hoe⟩ := row_form HI.out.2.1
    rw [← HM.out] at hoe
    subst hoe
    by_cases hlt : i < n
    · obtain ⟨x, hx⟩ := way_get HN.out hlt
      obtain ⟨b, q, xa, xc, ha, g0, hX⟩ := HAT.out i x hx
      have hix := index_run1 Tryz.underlying25 size_ints ha i hlt (cap := c)
      have HX := hid hX
      have HXD := hid (HLS.out i x hx)
      obtain ⟨xn, HXN⟩ : ∃ xn, Hid (xn = x.length) := ⟨_, rfl⟩
      rw [← HXN.out] at g0 HX
      replace g0 := below_keeps HI.out.2.2 _ _ g0
      obtain ⟨wo, rfl⟩ : ∃ wo : World, wo = wr := ⟨_, rfl⟩
      have G0 := hid g0
      clear hx ha hX
      go_wp2_with fail
      go_loopw [5, 6] (fun v5 v6 wr => ∃ (k : Nat) (zb : Bool), v6 = .int .i64 k ∧ v5 = .bool zb ∧ k ≤ n ∧ Hid (zb = keepTo ls i k) ∧ Hid (Drew wo wr)) (fun _ v6 _ => n - (intOf v6).toNat)
      case atStart =>
        refine ⟨0, decide (0 < xn), rfl, ?_, by omega, ?_, Drew.refl _⟩
        · first | rfl | (congr 1; simp) | (congr 1; rw [decide_eq_decide]; omega)
        · rw [Hid, keepTo, HXD.out, HXN.out]; simp [List.length_pos_iff]
      case round =>
        obtain ⟨k, zb, rfl, rfl, hk, HZB, HD⟩ := hrel
        by_cases hlk : k < n
        · obtain ⟨y, hy⟩ := way_get HN.out hlk
          obtain ⟨b2, q2, ya, yc, ha2, g2, hY⟩ := HAT.out k y hy
          have hix2 := index_run1 Tryz.underlying25 size_ints ha2 k hlk (cap := c)
          obtain ⟨yn, HYN⟩ : ∃ yn, Hid (yn = y.length) := ⟨_, rfl⟩
          rw [← HYN.out] at g2 hY
          have HYD := hid (HLS.out k y hy)
          obtain ⟨bz, HBZ⟩ : ∃ bz, Hid (bz = beginsW x y) := ⟨_, rfl⟩
          have hkeep : ∀ j, ∀ p u, w.cell? p = some u → (wr.drewN j).cell? p = some u := fun j p u hu => (HD.out.step j).keeps _ _ (below_keeps HI.out.2.2 _ _ hu)
          have HBEG := hid fun j => ref13_Begins (HX.out.keep (hkeep j)) (hY.keep (hkeep j))
          rw [← HBZ.out] at HBEG
          replace g2 := HD.out.keeps _ _ (below_keeps HI.out.2.2 _ _ g2)
          have g0 := HD.out.keeps _ _ G0.out
          have HBAD : Hid (badW ls i k = (decide (k ≠ i) && decide (0 < yn) && bz && (decide (yn < xn) || decide (k < i)))) := by
            rw [Hid, badW, HXD.out, HYD.out, HBZ.out, HXN.out, HYN.out]
            simp [List.length_pos_iff]
          clear hy ha2 hY hkeep
          by_cases hki : k = i
          · have HBAD2 : Hid (badW ls i k = false) := by rw [Hid, HBAD.out, hki]; simp
            have e1 : ((k : Int) != (i : Int)) = false := by simp; omega
            have e2 : ((k : Int) == (i : Int)) = true := by simp; omega
            have e3 : (k == i) = true := by simp; omega
            have e4 : (k != i) = false := by simp; omega
            have HE : Hid (keepTo ls i (k + 1) = zb) := by rw [Hid, keepTo_succ, HBAD2.out, ← HZB.out]; simp
            clear hki
            go_wp2_with fail
            go_quiet ((go_at_call 67; exact Drew.quiet (HBEG.out _)))
            go_wp2_with fail
            go_roundw
            case rel => exact ⟨k + 1, zb, by go_num, rfl, hlk, by rw [Hid, HE.out], HD.out.step _⟩
            case measure => simp [intOf]; omega
          · rw [decide_eq_true hki, Bool.true_and] at HBAD
            have e1 : ((k : Int) != (i : Int)) = true := by simp; omega
            have e2 : ((k : Int) == (i : Int)) = false := by simp; omega
            have e3 : (k == i) = false := by simp; omega
            have e4 : (k != i) = true := by simp; omega
            have HKI := hid hki
            clear hki
            by_cases hy0 : 0 < yn
            · rw [decide_eq_true hy0, Bool.true_and] at HBAD
              cases bz with
              | true =>
                rw [Bool.true_and] at HBAD
                by_cases hyx : yn < xn
                · have HE : Hid (keepTo ls i (k + 1) = false) := by rw [Hid, keepTo_succ, HBAD.out, decide_eq_true hyx]; simp
                  go_wp2_with fail
                  go_quiet ((go_at_call 67; exact Drew.quiet (HBEG.out _)))
                  go_wp2_with fail
                  go_roundw
                  case rel => exact ⟨k + 1, false, by go_num, rfl, hlk, by rw [Hid, HE.out], HD.out.step _⟩
                  case measure => simp [intOf]; omega
                · rw [decide_eq_false hyx, Bool.false_or] at HBAD
                  have f1 : decide ((yn : Int) < (xn : Int)) = false := decide_eq_false (by omega)
                  have f2 : decide (yn < xn) = false := decide_eq_false hyx
                  clear hyx
                  by_cases hki2 : k < i
                  · have HE : Hid (keepTo ls i (k + 1) = false) := by rw [Hid, keepTo_succ, HBAD.out, decide_eq_true hki2]; simp
                    go_wp2_with fail
                    go_quiet ((go_at_call 67; exact Drew.quiet (HBEG.out _)))
                    go_wp2_with fail
                    go_roundw
                    case rel => exact ⟨k + 1, false, by go_num, rfl, hlk, by rw [Hid, HE.out], HD.out.step _⟩
                    case measure => simp [intOf]; omega
                  · have HE : Hid (keepTo ls i (k + 1) = zb) := by rw [Hid, keepTo_succ, HBAD.out, decide_eq_false hki2, ← HZB.out]; simp
                    have f3 : decide ((k : Int) < (i : Int)) = false := decide_eq_false (by omega)
                    have f4 : decide (k < i) = false := decide_eq_false hki2
                    clear hki2
                    go_wp2_with fail
                    go_quiet ((go_at_call 67; exact Drew.quiet (HBEG.out _)))
                    go_wp2_with fail
                    go_roundw
                    case rel => exact ⟨k + 1, zb, by go_num, rfl, hlk, by rw [Hid, HE.out], HD.out.step _⟩
                    case measure => simp [intOf]; omega
              | false =>
                have HE : Hid (keepTo ls i (k + 1) = zb) := by rw [Hid, keepTo_succ, HBAD.out, ← HZB.out]; simp
                go_wp2_with fail
                go_quiet ((go_at_call 67; exact Drew.quiet (HBEG.out _)))
                go_wp2_with fail
                go_roundw
                case rel => exact ⟨k + 1, zb, by go_num, rfl, hlk, by rw [Hid, HE.out], HD.out.step _⟩
                case measure => simp [intOf]; omega
            · have HE : Hid (keepTo ls i (k + 1) = zb) := by rw [Hid, keepTo_succ, HBAD.out, decide_eq_false hy0, ← HZB.out]; simp
              obtain rfl : yn = 0 := by omega
              go_wp2_with fail
              go_quiet ((go_at_call 67; exact Drew.quiet (HBEG.out _)))
              go_wp2_with fail
              go_roundw
              case rel => exact ⟨k + 1, zb, by go_num, rfl, hlk, by rw [Hid, HE.out], HD.out.step _⟩
              case measure => simp [intOf]; omega
        · obtain rfl : k = n := by omega
          have HKW : Hid (zb = keepW ls i) := by rw [Hid, HZB.out, HN.out, keepTo_all]
          cases zb with
          | false =>
            have HRO : Hid (rOf ls (i + 1) = rOf ls i) := by rw [Hid, rOf, ← HKW.out]; rfl
            go_wp2_with fail
            go_roundw
            case rel => exact ⟨i + 1, ps, by go_num, hlt, by rw [HRO.out]; exact HI.out.1, row_keep HI.out.2.1 (fun b cur _ he => HD.out.below.block b (Array.getElem?_eq_some_iff.1 he).1), below_step HI.out.2.2 HD.out.below HI.out.2.2.size⟩
            case measure => simp [intOf]; omega
          | true =>
            obtain ⟨o, HO⟩ : ∃ o, Hid (o = rOf ls i) := ⟨_, rfl⟩
            have HPO : Hid (ps.map WV.way = o) := by rw [Hid, HO.out]; exact HI.out.1
            have HMO : Hid (m = o.length) := by rw [Hid, HM.out, ← HPO.out, List.length_map]
            have HRO : Hid (rOf ls (i + 1) = insW x o) := by rw [Hid, rOf, ← HKW.out, HXD.out, HO.out]; rfl
            obtain ⟨pw, HPW⟩ : ∃ pw, Hid (pw = posW x o) := ⟨_, rfl⟩
            have hpm : pw ≤ m := by rw [HPW.out, HMO.out]; exact posW_le _ _
            have HSEG : Hid (Seg wo (.slice oa m oc) 1 m (ps.map WV.val)) := by
              have h1 := row_seg HI.out.2.1 (by rw [← HM.out]; omega)
              rw [← HM.out] at h1
              exact h1
            have HOUT : Hid (∀ k p, ps[k]? = some p → ∃ b o a2 c2, oa = some ⟨b, o, none⟩ ∧ wo.cell? ⟨b, o + k, none⟩ = some (.slice a2 p.way.length c2) ∧ IntsAt w (.slice a2 p.way.length c2) p.way) := by
              have h1 := HSEG.out
              rw [HM.out] at h1
              obtain ⟨a3, c3, e3, h3⟩ := seg_wv h1
              cases e3
              exact h3
            have HDW := hid HD.out
            obtain ⟨w2, rfl⟩ : ∃ w2 : World, w2 = wr := ⟨_, rfl⟩
            go_wp2_with fail
            go_loopw [7] (fun v7 wr => ∃ k : Nat, v7 = .int .i64 k ∧ k ≤ pw ∧ Hid (Drew wo wr)) (fun v7 _ => pw - (intOf v7).toNat)
            case atStart => exact ⟨0, rfl, by omega, HDW.out⟩
            case round =>
              obtain ⟨k, rfl, hk, HD2⟩ := hrel
              by_cases hkm : k < m
              · obtain ⟨p, hp⟩ : ∃ p, ps[k]? = some p := ⟨_, List.getElem?_eq_getElem (by rw [← HM.out]; exact hkm)⟩
                obtain ⟨b2, q2, ya, yc, ha2, g2, hY⟩ := HOUT.out k p hp
                have hix2 := index_run1 Tryz.underlying25 size_ints ha2 k hkm (cap := oc)
                have hok : o[k]? = some p.way := by rw [← HPO.out, List.getElem?_map, hp]; rfl
                have hpos := posW_from x o k
                rw [← HPW.out] at hpos
                obtain ⟨yn, HYN⟩ : ∃ yn, Hid (yn = p.way.length) := ⟨_, rfl⟩
                rw [← HYN.out] at g2 hY
                have hkeep : ∀ j, ∀ p u, w.cell? p = some u → (wr.drewN j).cell? p = some u := fun j p u hu => (HD2.out.step j).keeps _ _ (below_keeps HI.out.2.2 _ _ hu)
                have HLESS := hid fun j => ref13_less (hY.keep (hkeep j)) (HX.out.keep (hkeep j))
                replace g2 := HD2.out.keeps _ _ g2
                have g0 := HD2.out.keeps _ _ G0.out
                by_cases hkp : k < pw
                · have hl1 : ltW p.way x = true := by
                    obtain ⟨u, hu, h1⟩ := hpos.1 hkp
                    rw [hok] at hu; cases hu; exact h1
                  rw [hl1] at HLESS
                  clear hp ha2 hY hok hpos hkeep hl1
                  go_wp2_with fail
                  go_quiet ((go_at_call 68; exact Drew.quiet (HLESS.out _)))
                  go_wp2_with fail
                  go_roundw
                  case rel => exact ⟨k + 1, by go_num, hkp, HD2.out.step _⟩
                  case measure => simp [intOf]; omega
                · obtain rfl : k = pw := by omega
                  have hl1 : ltW p.way x = false := hpos.2 rfl _ hok
                  rw [hl1] at HLESS
                  clear hp ha2 hY hok hpos hkeep hl1 hkp
                  go_wp2_with fail
                  go_quiet ((go_at_call 68; exact Drew.quiet (HLESS.out _)))
                  obtain ⟨w3, HW3⟩ : ∃ w3, Hid (w3 = wr.drewN nq) := ⟨_, rfl⟩
                  have HD3 : Hid (Drew wo w3) := by rw [HW3.out]; exact HD2.out.step _
                  rw [← HW3.out]
                  have hbo : Below wo.heap.size wo w3 := HD3.out.below
                  have own0 : World.ownsRow (w3.alloc (.cells #[] 30)) w3.heap.size 30 1 (.slice (some ⟨w3.heap.size, 0, none⟩) 0 0) 0 [] := World.ownsRow_made (base := w3.heap.size) (e := 30) (size := 1) w3 #[] 0 (Nat.le_refl _) (by unfold maxLen; omega) rfl
                  have hvl : (ps.map WV.val).length = m := by rw [List.length_map, HM.out]
                  have hone : ∀ u ∈ ps.map WV.val, u.oneCell' = true := wv_vals_one ps
                  obtain ⟨a5, c5, hs5, S5⟩ := Seg.h1 (P := Tryz.prog) under_ways size_ints (HSEG.out.below hbo) k (by omega)
                  obtain ⟨v6, w6, hr6, own6, hg6, -⟩ := seg_append (P := Tryz.prog) _ w3.heap.size 25 25 30 (.slice none 0 0) 1 24 under_ways info_ints rfl (by decide) _ _ 0 k _ _ own0 (S5.below ((Below.refl _ _).alloc (Nat.le_refl _) _)) (fun u hu => hone u (List.mem_of_mem_take hu)) (by omega) (by omega) (by simp)
                  have hB6 : Below w3.heap.size w3 w6 := ((Below.refl w3.heap.size w3).alloc (Nat.le_refl _) (.cells #[] 30)).grown hg6 (by simp) (by intro q e; simp [Value.ownBlock] at e; omega)
                  rw [Nat.zero_add, List.nil_append] at own6
                  obtain ⟨a6, c6, e6⟩ := row_form own6
                  subst e6
                  have S7 : Seg (w6.alloc (.cells #[.slice xa xn xc] 30)) (.slice (some ⟨w6.heap.size, 0, none⟩) 1 1) 1 1 [.slice xa xn xc] := seg_blk (Blk.new w6 [.slice xa xn xc] _) 1 1 rfl (by omega)
                  obtain ⟨v8, w8, hr8, own8, hg8, -⟩ := seg_append (P := Tryz.prog) _ w3.heap.size 25 25 30 (.slice none 0 0) 1 24 under_ways info_ints rfl (by decide) _ _ _ 1 _ _ (World.ownsRow.alloc own6 _) S7 (by intro u hu; simp at hu; subst hu; rfl) (by omega) (by omega) (by have := hB6.size; simp; omega)
                  have hB8 : Below w3.heap.size w3 w8 := (hB6.alloc hB6.size _).grown hg8 (by have := hB6.size; simp; omega) (fun q e => (World.ownsRow.lt own6 q e).1)
                  obtain ⟨a8, c8, e8⟩ := row_form own8
                  subst e8
                  obtain ⟨a9, c9, hs9, S9⟩ := Seg.l1 (P := Tryz.prog) under_ways size_ints ((HSEG.out.below hbo).below hB8) k (by omega)
                  obtain ⟨v10, w10, hr10, own10, hg10, -⟩ := seg_append (P := Tryz.prog) w8 w3.heap.size 25 25 30 (.slice none 0 0) 1 24 under_ways info_ints rfl (by decide) _ _ _ (m - k) _ _ own8 S9 (fun u hu => hone u (List.mem_of_mem_drop hu)) (by omega) (by omega) hB8.size
                  have hB10 : Below w3.heap.size w3 w10 := hB8.grown hg10 hB8.size (fun q e => (World.ownsRow.lt own8 q e).1)
                  obtain ⟨a10, c10, e10⟩ := row_form own10
                  subst e10
                  have HREL : Hid (∃ ps' : List (WV w), ps'.map WV.way = rOf ls (i + 1) ∧ w10.ownsRow w.heap.size 30 1 (.slice a10 (k + 1 + (m - k)) c10) ps'.length (ps'.map WV.val) ∧ Below w.heap.size w w10) := by
                    refine ⟨ps.take k ++ WV.mk (.slice xa xn xc) x HX.out :: ps.drop k, ?_, ?_, ?_⟩
                    · rw [HRO.out, insW_pos, ← HPW.out, ← HPO.out, List.map_append, List.map_cons, WV.way_mk, List.map_take, List.map_drop]
                    · have hlen : (ps.take k ++ WV.mk (.slice xa xn xc) x HX.out :: ps.drop k).length = k + 1 + (m - k) := by
                        rw [List.length_append, List.length_cons, List.length_take, List.length_drop, ← HM.out]; omega
                      rw [hlen, List.map_append, List.map_cons, WV.val_mk, List.map_take, List.map_drop]
                      have h1 : w.heap.size ≤ w3.heap.size := Nat.le_trans HI.out.2.2.size hbo.size
                      have h2 := row_mono own10 h1
                      simpa using h2
                    · exact below_step (below_step HI.out.2.2 hbo HI.out.2.2.size) hB10 (Nat.le_trans HI.out.2.2.size hbo.size)
                  have g6 := below_keeps (below_step hbo hB6 hbo.size) _ _ G0.out
                  clear hbo own0 hvl hone S5 own6 hg6 hB6 S7 own8 hg8 hB8 S9 own10 hg10 hB10
                  go_wp2_with (at_builtin; first | refine wpList_append_eq (o := ⟨some 90, _, _, _, _, _⟩) rfl _ _ _ rfl _ _ rfl rfl hr6 ?_ | refine wpList_append_eq (o := ⟨some 97, _, _, _, _, _⟩) rfl _ _ _ rfl _ _ rfl rfl hr8 ?_ | refine wpList_append_eq (o := ⟨some 102, _, _, _, _, _⟩) rfl _ _ _ rfl _ _ rfl rfl hr10 ?_)
                  go_roundw
                  case rel =>
                    obtain ⟨ps', h1, h2, h3⟩ := HREL.out
                    exact ⟨i + 1, ps', by go_num, hlt, h1, h2, h3⟩
                  case measure => simp [intOf]; omega
              · have hd1 : decide ((k : Int) < (m : Int)) = false := decide_eq_false (by omega)
                have hd2 : decide (k < m) = false := decide_eq_false hkm
                obtain rfl : k = pw := by omega
                have HKM := hid hkm
                clear hkm
                go_wp2_with fail
                go_quiet (fail)
                obtain ⟨w3, HW3⟩ : ∃ w3, Hid (w3 = wr.drewN nq) := ⟨_, rfl⟩
                have HD3 : Hid (Drew wo w3) := by rw [HW3.out]; exact HD2.out.step _
                rw [← HW3.out]
                have hbo : Below wo.heap.size wo w3 := HD3.out.below
                have own0 : World.ownsRow (w3.alloc (.cells #[] 30)) w3.heap.size 30 1 (.slice (some ⟨w3.heap.size, 0, none⟩) 0 0) 0 [] := World.ownsRow_made (base := w3.heap.size) (e := 30) (size := 1) w3 #[] 0 (Nat.le_refl _) (by unfold maxLen; omega) rfl
                have hvl : (ps.map WV.val).length = m := by rw [List.length_map, HM.out]
                have hone : ∀ u ∈ ps.map WV.val, u.oneCell' = true := wv_vals_one ps
                obtain ⟨a5, c5, hs5, S5⟩ := Seg.h1 (P := Tryz.prog) under_ways size_ints (HSEG.out.below hbo) k (by omega)
                obtain ⟨v6, w6, hr6, own6, hg6, -⟩ := seg_append (P := Tryz.prog) _ w3.heap.size 25 25 30 (.slice none 0 0) 1 24 under_ways info_ints rfl (by decide) _ _ 0 k _ _ own0 (S5.below ((Below.refl _ _).alloc (Nat.le_refl _) _)) (fun u hu => hone u (List.mem_of_mem_take hu)) (by omega) (by omega) (by simp)
                have hB6 : Below w3.heap.size w3 w6 := ((Below.refl w3.heap.size w3).alloc (Nat.le_refl _) (.cells #[] 30)).grown hg6 (by simp) (by intro q e; simp [Value.ownBlock] at e; omega)
                rw [Nat.zero_add, List.nil_append] at own6
                obtain ⟨a6, c6, e6⟩ := row_form own6
                subst e6
                have S7 : Seg (w6.alloc (.cells #[.slice xa xn xc] 30)) (.slice (some ⟨w6.heap.size, 0, none⟩) 1 1) 1 1 [.slice xa xn xc] := seg_blk (Blk.new w6 [.slice xa xn xc] _) 1 1 rfl (by omega)
                obtain ⟨v8, w8, hr8, own8, hg8, -⟩ := seg_append (P := Tryz.prog) _ w3.heap.size 25 25 30 (.slice none 0 0) 1 24 under_ways info_ints rfl (by decide) _ _ _ 1 _ _ (World.ownsRow.alloc own6 _) S7 (by intro u hu; simp at hu; subst hu; rfl) (by omega) (by omega) (by have := hB6.size; simp; omega)
                have hB8 : Below w3.heap.size w3 w8 := (hB6.alloc hB6.size _).grown hg8 (by have := hB6.size; simp; omega) (fun q e => (World.ownsRow.lt own6 q e).1)
                obtain ⟨a8, c8, e8⟩ := row_form own8
                subst e8
                obtain ⟨a9, c9, hs9, S9⟩ := Seg.l1 (P := Tryz.prog) under_ways size_ints ((HSEG.out.below hbo).below hB8) k (by omega)
                obtain ⟨v10, w10, hr10, own10, hg10, -⟩ := seg_append (P := Tryz.prog) w8 w3.heap.size 25 25 30 (.slice none 0 0) 1 24 under_ways info_ints rfl (by decide) _ _ _ (m - k) _ _ own8 S9 (fun u hu => hone u (List.mem_of_mem_drop hu)) (by omega) (by omega) hB8.size
                have hB10 : Below w3.heap.size w3 w10 := hB8.grown hg10 hB8.size (fun q e => (World.ownsRow.lt own8 q e).1)
                obtain ⟨a10, c10, e10⟩ := row_form own10
                subst e10
                have HREL : Hid (∃ ps' : List (WV w), ps'.map WV.way = rOf ls (i + 1) ∧ w10.ownsRow w.heap.size 30 1 (.slice a10 (k + 1 + (m - k)) c10) ps'.length (ps'.map WV.val) ∧ Below w.heap.size w w10) := by
                  refine ⟨ps.take k ++ WV.mk (.slice xa xn xc) x HX.out :: ps.drop k, ?_, ?_, ?_⟩
                  · rw [HRO.out, insW_pos, ← HPW.out, ← HPO.out, List.map_append, List.map_cons, WV.way_mk, List.map_take, List.map_drop]
                  · have hlen : (ps.take k ++ WV.mk (.slice xa xn xc) x HX.out :: ps.drop k).length = k + 1 + (m - k) := by
                      rw [List.length_append, List.length_cons, List.length_take, List.length_drop, ← HM.out]; omega
                    rw [hlen, List.map_append, List.map_cons, WV.val_mk, List.map_take, List.map_drop]
                    have h1 : w.heap.size ≤ w3.heap.size := Nat.le_trans HI.out.2.2.size hbo.size
                    have h2 := row_mono own10 h1
                    simpa using h2
                  · exact below_step (below_step HI.out.2.2 hbo HI.out.2.2.size) hB10 (Nat.le_trans HI.out.2.2.size hbo.size)
                have g6 := below_keeps (below_step hbo hB6 hbo.size) _ _ G0.out
                clear hbo own0 hvl hone S5 own6 hg6 hB6 S7 own8 hg8 hB8 S9 own10 hg10 hB10
                go_wp2_with (at_builtin; first | refine wpList_append_eq (o := ⟨some 90, _, _, _, _, _⟩) rfl _ _ _ rfl _ _ rfl rfl hr6 ?_ | refine wpList_append_eq (o := ⟨some 97, _, _, _, _, _⟩) rfl _ _ _ rfl _ _ rfl rfl hr8 ?_ | refine wpList_append_eq (o := ⟨some 102, _, _, _, _, _⟩) rfl _ _ _ rfl _ _ rfl rfl hr10 ?_)
                go_roundw
                case rel =>
                  obtain ⟨ps', h1, h2, h3⟩ := HREL.out
                  exact ⟨i + 1, ps', by go_num, hlt, h1, h2, h3⟩
                case measure => simp [intOf]; omega
    · obtain rfl : i = n := by omega
      have HFIN : Hid (WaysAt wr (.slice oa m oc) (mOf ls)) := by
        have hs := row_seg HI.out.2.1 (by rw [← HM.out]; omega)
        have h1 := ways_of_row ps hs (below_keeps HI.out.2.2)
        rw [HI.out.1, HN.out] at h1
        exact h1
      go_wp2_with fail
      go_ret
      exact ⟨_, rfl, HFIN.out, HI.out.2.2⟩

end Go.Proofs.YtpjikakbdahmfaaGreatDoor
