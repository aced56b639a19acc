/- Mask.Whole, Mask.right, Mask.Under, darningref13.Under; slices.EqualFunc of ways. At most 2^40 ways, each of at most 2^44 numbers. -/
import Derived.Test.YtaefpjecalnbcaaGreatZ25
import Derived.Deep.RegionHeld3
namespace Go.Proofs.YtaefpjecalnbcaaGreat
open Go.RowKit
theorem MaskPost.open {w : World} {o : List (List Int)} {e : Ending} {w' : World} (h : MaskPost w o e w') : ∃ a c, e = .returned (maskV (.slice a o.length c)) ∧ WaysAt w' (.slice a o.length c) o ∧ Below w.heap.size w w' ∧ NewWays w w' (.slice a o.length c) o := by
  obtain ⟨v', rfl, h2, h3⟩ := h
  have h2' := h2.here
  have h2'' := h2'
  obtain ⟨-, a, c, rfl, -, -⟩ := h2''.open
  exact ⟨a, c, rfl, h2', h3, h2⟩
theorem field_mask (a : Option Addr) (n c : Nat) (w : World) : (Instr.field 41 (.agg #[.slice a n c]) 0).run Tryz.prog w = .ok (.slice a n c) w := by kernel_rfl
set_option maxRecDepth 100000 in
set_option maxHeartbeats 4000000 in
theorem mask_Whole {w : World} {v : Value} {ls : List (List Int)} (h : WaysAt w v ls) (hL : LightW ls) (x : Int) :
    Calls Tryz.prog 79 #[maskV v, .int .i64 x] w fun e w' => e = .returned (.bool ((mOf ls).any (wholeW x))) ∧ Below w.heap.size w w' := by
  unfold maskV
  have HOF : Hid (∀ W, Below w.heap.size w W → Calls Tryz.prog 23 #[v] W (MaskPost W (mOf ls))) := fun W hW => mask_Of (h.keep (below_keeps hW)) hL
  obtain ⟨-, a, c, rfl, -, -⟩ := h.open
  obtain ⟨z, HZ⟩ : ∃ z, Hid (z = (mOf ls).any (wholeW x)) := ⟨_, rfl⟩
  rw [← HZ.out]
  clear h hL
  go_enter Tryz.func79, Tryz.ntmps79
  go_wp2_with fail
  refine (HOF.out _ ?_).mono ?_
  · (repeat (first | with_reducible exact Below.refl _ _ | with_reducible refine Below.setCell ?_ (by first | omega | (simp; omega) | (simp; done)) _ | with_reducible refine Below.alloc ?_ (by first | omega | (simp; omega) | (simp; done)) _ | with_reducible refine below_drewN ?_ _ | with_reducible refine Below.drew ?_))
  · intro e w1 hp
    obtain ⟨a2, c2, rfl, hW, hb, -⟩ := hp.open
    have hq : w1.cell? ⟨w.heap.size + 1, 0, none⟩ = some (.int .i64 x) := by
      refine below_keeps hb _ _ ?_
      simp [go_sem]
    have HC := hid (containsFunc_ways hW 119 #[.pointer (some ⟨w.heap.size + 1, 0, none⟩)] (wholeW x) (fun args w => by simp [go_sem]) fun y l wr hy hd => mask_Whole_1 (hd.keeps _ _ hq) hy)
    rw [← HZ.out] at HC
    have HB : Hid (Below w.heap.size w w1) := below_step (by (repeat (first | with_reducible exact Below.refl _ _ | with_reducible refine Below.setCell ?_ (by first | omega | (simp; omega) | (simp; done)) _ | with_reducible refine Below.alloc ?_ (by first | omega | (simp; omega) | (simp; done)) _ | with_reducible refine below_drewN ?_ _ | with_reducible refine Below.drew ?_))) hb (by simp; omega)
    unfold maskV
    have hfd := field_mask
    clear hW hb hq hp
    go_wp2_with fail
    refine HC.out.mono ?_
    rintro e w2 ⟨rfl, hd⟩
    have HB2 : Hid (Below w.heap.size w w2) := below_step HB.out hd.below HB.out.size
    clear hd
    go_wp2_with fail
    go_ret
    exact ⟨rfl, HB2.out⟩
theorem keep_old {w1 w' : World} (h : ∀ b, b < w1.heap.size → w'.heap[b]? = w1.heap[b]?) : ∀ p u, w1.cell? p = some u → w'.cell? p = some u := fun p _u hu =>
  (World.cell?_of_block (h _ (World.block_lt_of_cell? w1 p hu))).trans hu
theorem under_take {x : Int} {y : List Int} (r : List (List Int)) (h : 1 < y.length) (h0 : y[0]? = some x) : underW (y :: r) x = y.drop 1 :: underW r x := by
  unfold underW
  rw [List.filter_cons, if_pos (by simp [h, h0, List.head?_eq_getElem?])]
  simp
theorem under_skip1 {x : Int} {y : List Int} (r : List (List Int)) (h : ¬ 1 < y.length) : underW (y :: r) x = underW r x := by
  unfold underW
  rw [List.filter_cons, if_neg (by simp [h])]
theorem under_skip2 {x z : Int} {y : List Int} (r : List (List Int)) (h0 : y[0]? = some z) (hz : z ≠ x) : underW (y :: r) x = underW r x := by
  unfold underW
  rw [List.filter_cons, if_neg (by simp [h0, List.head?_eq_getElem?, hz])]
def UnderPost (w : World) (o : List (List Int)) (e : Ending) (w' : World) : Prop := ∃ v', e = .returned (.tuple #[maskV v', .bool (decide (0 < o.length))]) ∧ NewWays w w' v' o ∧ Below w.heap.size w w'
theorem mOf_light {ls : List (List Int)} (h : LightW ls) : LightW (mOf ls) := by
  have hm := mOf_mask ls
  refine ⟨?_, fun l hl => h.2 l ((hm.2 l).1 hl).1⟩
  exact Nat.le_trans (mOf_len ls) h.1
theorem underW_light {ls : List (List Int)} (h : LightW ls) (x : Int) : LightW (underW ls x) := by
  refine ⟨?_, fun l hl => ?_⟩
  · unfold underW
    rw [List.length_map]
    exact Nat.le_trans (List.length_filter_le _ _) h.1
  · obtain ⟨-, h2⟩ := (under_mem _ _ _).1 hl
    have := h.2 _ h2
    simp at this
    omega
set_option maxRecDepth 100000 in
set_option maxHeartbeats 4000000 in
theorem mask_Under {w : World} {v : Value} {ls : List (List Int)} (h : WaysAt w v ls) (hL : LightW ls) (x : Int) :
    Calls Tryz.prog 78 #[maskV v, .int .i64 x] w (UnderPost w (underW (mOf ls) x)) := by
  unfold maskV
  obtain ⟨wA, HA⟩ : ∃ wA, Hid (wA = (w.alloc (.cells #[v] 41)).alloc (.cells #[.slice none 0 0] 41)) := ⟨_, rfl⟩
  have hA : Below w.heap.size w wA := by rw [HA.out]; (repeat (first | with_reducible exact Below.refl _ _ | with_reducible refine Below.setCell ?_ (by first | omega | (simp; omega) | (simp; done)) _ | with_reducible refine Below.alloc ?_ (by first | omega | (simp; omega) | (simp; done)) _ | with_reducible refine below_drewN ?_ _ | with_reducible refine Below.drew ?_))
  have HWA := hid hA
  have HBX : Hid (Blk wA (w.heap.size + 1) [.slice none 0 0] 41) := by rw [HA.out]; exact Blk.new' _ [.slice none 0 0] _ _ (by simp)
  have HSZ : Hid (wA.heap.size = w.heap.size + 2) := by rw [HA.out]; simp [Hid]
  have HOF := hid (mask_Of (w := wA) (h.below hA) hL)
  obtain ⟨m, HM⟩ : ∃ m, Hid (m = mOf ls) := ⟨_, rfl⟩
  rw [← HM.out] at HOF ⊢
  have HML : Hid (LightW m) := by rw [HM.out]; exact mOf_light hL
  have HUU : Hid (mOf (underW m x) = underW m x) := by rw [HM.out]; exact under_self ls x
  obtain ⟨-, a, c, rfl, -, -⟩ := h.open
  obtain ⟨n0, HN0⟩ : ∃ n, Hid (n = ls.length) := ⟨_, rfl⟩
  rw [← HN0.out] at HA HOF ⊢
  obtain ⟨Q, HQ⟩ : ∃ Q : Ending → World → Prop, Hid (Q = UnderPost w (underW m x)) := ⟨_, rfl⟩
  rw [← HQ.out]
  clear h hL hA
  have hfd := field_mask
  go_enter Tryz.func78, Tryz.ntmps78
  go_wp2_with fail
  rw [← HA.out]
  refine HOF.out.mono ?_
  intro e w1 hp
  obtain ⟨a2, c2, rfl, hW, hb, -⟩ := hp.open
  obtain ⟨n, HN⟩ : ∃ n, Hid (n = m.length) := ⟨_, rfl⟩
  rw [← HN.out] at hW ⊢
  have hn : n ≤ 1099511627776 := by rw [HN.out]; exact HML.out.1
  obtain ⟨-, a', c', he, -, hat⟩ := hW.open
  rw [← HN.out] at he
  cases he
  have HAT := hid hat
  have HB := hid hb
  unfold maskV
  clear hW hb hp hat HOF
  go_wp2_with fail
  go_loopw [6, 14] (fun v6 v14 wr => ∃ (k : Nat) (o : List (List Int)), v14 = .int .i64 k ∧ k ≤ n ∧ Hid (RowsOwn WayP 68 1 w1.heap.size w1.heap.size wr v6 o ∧ o.length ≤ k ∧ o ++ underW (m.drop k) x = underW m x ∧ Below w1.heap.size w1 wr)) (fun _ v14 _ => n - (intOf v14).toNat)
  case atStart => exact ⟨0, [], rfl, by omega, RowsOwn.nil _ _ _ _ _ _, by simp, rfl, Below.refl _ _⟩
  case round =>
    obtain ⟨k, o, rfl, hk, HI⟩ := hrel
    obtain ⟨oa, oc, hoe⟩ := HI.out.1.form
    obtain ⟨j, HJ⟩ : ∃ j, Hid (j = o.length) := ⟨_, rfl⟩
    rw [← HJ.out] at hoe
    subst hoe
    have hjk : j ≤ k := by rw [HJ.out]; exact HI.out.2.1
    by_cases hlt : k < n
    · obtain ⟨y, hy⟩ := way_get HN.out hlt
      obtain ⟨b, q, ya, yc, ha, g0, hY⟩ := HAT.out k y hy
      replace g0 := below_keeps HI.out.2.2.2 _ _ g0
      have hix := index_run1 Tryz.underlying28 size_ints ha k hlt (cap := c2)
      have HD := hid (drop_at hy)
      have HYL : Hid (y.length ≤ 17592186044416) := HML.out.2 y (List.mem_of_getElem? hy)
      obtain ⟨q2, HQ2⟩ : ∃ q2, Hid (q2 = y.length) := ⟨_, rfl⟩
      rw [← HQ2.out] at g0 hY
      obtain ⟨-, ya', yc', hye, -, hyat⟩ := hY.open
      rw [← HQ2.out] at hye
      cases hye
      have HY := hid hY
      have HY64 := hid hY.2
      clear hy ha hY
      by_cases h1 : 1 < q2
      · obtain ⟨z, hz⟩ := int_get HQ2.out (by omega : 0 < q2)
        obtain ⟨hz64, b2, o2, ha2, g2⟩ := hyat 0 z hz
        have hix2 := index_0 Tryz.underlying68 size_int ha2 (by omega : 0 < q2) (cap := yc)
        replace g2 := below_keeps HI.out.2.2.2 _ _ g2
        rw [Nat.add_zero] at g2
        by_cases hzx : z = x
        · subst hzx
          have HTK := hid (under_take (m.drop (k + 1)) (by rw [← HQ2.out]; exact h1) hz)
          obtain ⟨ta, tc, hsl, hT⟩ := HY.out.l HQ2.out 1 (by omega)
          have hsl' : ∀ W, (Instr.slice 68 (.slice ya q2 yc) (some (.int .i64 1)) none none).run Tryz.prog W = .ok (.slice ta (q2 - 1) tc) W := hsl
          obtain ⟨a', c', w6, hr, hO6, hB6, hB7⟩ := (HI.out.1).step (Below.refl _ _) (by decide) (Nat.le_refl _) HI.out.2.2.2.size HJ.out.symm (G := Tryz.prog) 28 (.slice none 0 0) 24 under_ways info_ints rfl #[.slice ta (q2 - 1) tc] rfl (by intro u hu; simp at hu; subst hu; rfl) (y.drop 1)
            (fun w' hw' => ⟨_, rfl, hT.keep (keep_old fun b hb => (hw' b (Nat.lt_of_lt_of_le hb HI.out.2.2.2.size) (.inl hb)).trans (HI.out.2.2.2.block b hb))⟩) (by omega) (by decide)
          have HO6 := hid hO6
          have HB7 := hid hB7
          have hq1 : ((q2 - 1 : Nat) : Int) = (q2 : Int) - 1 := by omega
          clear hO6 hB6 hB7 hyat hz ha2 hT hsl hq1
          go_wp2_with (at_builtin; refine wpList_append_eq rfl _ _ _ rfl _ _ rfl rfl hr ?_)
          go_roundw
          case rel => exact ⟨k + 1, _, by go_num, hlt, HO6.out, by rw [List.length_append]; have := HI.out.2.1; simp; omega, by rw [← HI.out.2.2.1, HD.out, HTK.out, List.append_assoc]; rfl, HI.out.2.2.2.trans HB7.out⟩
          case measure => simp [intOf]; omega
        · have HTK := hid (under_skip2 (m.drop (k + 1)) hz hzx)
          have e1 : (z == x) = false := by simpa using hzx
          clear hzx hyat hz ha2
          go_wp2_with fail
          go_roundw
          case rel => exact ⟨k + 1, o, by go_num, hlt, HI.out.1, by have := HI.out.2.1; omega, by rw [← HI.out.2.2.1, HD.out, HTK.out], HI.out.2.2.2⟩
          case measure => simp [intOf]; omega
      · have HTK := hid (under_skip1 (x := x) (m.drop (k + 1)) (by rw [← HQ2.out]; exact h1))
        have e1 : decide ((1 : Int) < q2) = false := decide_eq_false (by omega)
        clear hyat h1
        go_wp2_with fail
        go_roundw
        case rel => exact ⟨k + 1, o, by go_num, hlt, HI.out.1, by have := HI.out.2.1; omega, by rw [← HI.out.2.2.1, HD.out, HTK.out], HI.out.2.2.2⟩
        case measure => simp [intOf]; omega
    · obtain rfl : k = n := by omega
      have HEN : Hid (o = underW m x) := by
        have := HI.out.2.2.1
        rw [List.drop_eq_nil_of_le (by rw [← HN.out]; omega)] at this
        rw [Hid, ← this]; simp [underW]
      have hWO := RowsOwn.at HI.out.1 (by have := HI.out.2.1; omega) (w' := wr) (fun _ _ _ => rfl)
      have HOF2 := hid (mask_Of (show WaysAt wr (.slice oa j oc) o from hWO) (by rw [HEN.out]; exact underW_light HML.out x))
      rw [HEN.out, HUU.out] at HOF2
      have HBX2 := hid ((HBX.out.below HB.out).below HI.out.2.2.2)
      clear hlt hWO
      go_wp2_with fail
      refine HOF2.out.mono ?_
      intro e w3 hp3
      obtain ⟨a3, c3, rfl, -, hb3, hW3⟩ := hp3.open
      have HJ2 : Hid ((underW m x).length = j) := by rw [Hid, HJ.out, HEN.out]
      rw [HJ2.out] at hW3 ⊢
      have HW3 := hid hW3
      have HBX3 := hid (HBX2.out.below hb3)
      have hsz3 := HBX3.out.lt
      have c0 := HBX3.out.cell 0 _ rfl
      have f0 := HBX3.out.free 0
      have HB3 : Hid (Below w.heap.size w w3) := (HWA.out.trans ((HB.out.trans (HI.out.2.2.2.mono HB.out.size)).mono (by have := HSZ.out; omega))).trans (hb3.mono (by have := HB.out.size; have := HI.out.2.2.2.size; have := HSZ.out; omega))
      have HCS : Hid ((w3.setCell ⟨w.heap.size + 1, 0, none⟩ (.slice a3 j c3)).cell? ⟨w.heap.size + 1, 0, none⟩ = some (.slice a3 j c3)) := World.cell?_setCell_same' _ _ _ (by rw [c0]; rfl)
      unfold maskV
      clear hW3 hb3 hp3
      have HFIN : Hid (Q (.returned (.tuple #[.agg #[.slice a3 j c3], .bool (decide (0 < j))])) (w3.setCell ⟨w.heap.size + 1, 0, none⟩ (.slice a3 j c3))) := by
        rw [HQ.out, ← HJ2.out]
        refine ⟨_, rfl, ?_, HB3.out.setCell (by simp) _⟩
        rw [HJ2.out]
        have hws : w.heap.size + 2 ≤ wr.heap.size := by have := HB.out.size; have := HI.out.2.2.2.size; have := HSZ.out; omega
        exact HW3.out.later (by omega) (by simp) fun b h1 h2 => Below.heap_setCell _ _ _ _ (by show b ≠ w.heap.size + 1; omega)
      by_cases hj0 : 0 < j
      · have e1 : decide (0 < j) = true := decide_eq_true hj0
        rw [e1] at HFIN
        clear e1
        go_wp2_with fail
        refine bodyPost_ret (v := .tuple #[.agg #[.slice a3 j c3], .bool true]) (by simp [results, Tryz.results78, go_sem, HCS.out]) rfl HFIN.out
      · have e1 : decide (0 < j) = false := decide_eq_false hj0
        rw [e1] at HFIN
        obtain rfl : j = 0 := by omega
        clear e1
        go_wp2_with fail
        refine bodyPost_ret (v := .tuple #[.agg #[.slice a3 0 c3], .bool false]) (by simp [results, Tryz.results78, go_sem, HCS.out]) rfl HFIN.out
end Go.Proofs.YtaefpjecalnbcaaGreat
