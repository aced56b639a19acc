/- mask.Meet. darningref13: less, Of, Under. At most 2^40 ways. darningref13.Under; darninglaw13.Many. Plain law: a text's names between its points (sdot), and the text of names (sjoin). No program in sight. No condition. -/
import Derived.Test.YtpjikakbdahmfaaDoorZ07
import Derived.Test.YtpjikakbdahmfaaDoorZ08
import Derived.Lib.IndexLaws
import Derived.Lib.Join
namespace Go.Proofs.YtpjikakbdahmfaaDoor
open Go.RowKit

/-- half of a meet: the ways of x that y has -/
def halfW (x y : List (List Int)) : List (List Int) := x.filter (fun u => hasW y u)
theorem half_cons (x : List Int) (r y : List (List Int)) : halfW (x :: r) y = if hasW y x = true then x :: halfW r y else halfW r y := by
  unfold halfW
  rw [List.filter_cons]

theorem meet_i0 (a b : Option Addr) (n m c d : Nat) (w : World) : (Instr.index 67 (.agg #[.slice a n c, .slice b m d, .slice b m d, .slice a n c]) (.int .i64 0)).run Tryd.prog w = .ok (.agg #[.slice a n c, .slice b m d]) w := by kernel_rfl
theorem meet_i1 (a b : Option Addr) (n m c d : Nat) (w : World) : (Instr.index 67 (.agg #[.slice a n c, .slice b m d, .slice b m d, .slice a n c]) (.int .i64 1)).run Tryd.prog w = .ok (.agg #[.slice b m d, .slice a n c]) w := by kernel_rfl

def meetO (l1 l2 : List (List Int)) : Nat → List (List Int)
  | 0 => []
  | 1 => halfW (mOf l1) l2
  | _ => halfW (mOf l1) l2 ++ halfW (mOf l2) l1
theorem half_len (x y : List (List Int)) : (halfW x y).length ≤ x.length := List.length_filter_le _ _
theorem meetO_len (l1 l2 : List (List Int)) (k : Nat) : (meetO l1 l2 k).length ≤ l1.length + l2.length := by
  have h1 := half_len (mOf l1) l2
  have h2 := half_len (mOf l2) l1
  have h3 := mOf_len l1
  have h4 := mOf_len l2
  match k with
  | 0 => simp [meetO]
  | 1 => simp only [meetO]; omega
  | _ + 2 => simp only [meetO, List.length_append]; omega
theorem meetO_light {l1 l2 : List (List Int)} (h1 : LightW l1) (h2 : LightW l2) (h : l1.length + l2.length ≤ 1099511627776) (k : Nat) : LightW (meetO l1 l2 k) := by
  refine ⟨Nat.le_trans (meetO_len l1 l2 k) h, fun l hl => ?_⟩
  have g1 : ∀ l ∈ halfW (mOf l1) l2, l.length ≤ 17592186044416 := fun l hl => (mOf_light h1).2 l (List.mem_filter.1 hl).1
  have g2 : ∀ l ∈ halfW (mOf l2) l1, l.length ≤ 17592186044416 := fun l hl => (mOf_light h2).2 l (List.mem_filter.1 hl).1
  match k, hl with
  | 1, hl => exact g1 l hl
  | _ + 2, hl => exact (List.mem_append.1 hl).elim (g1 l) (g2 l)

set_option maxRecDepth 100000 in
set_option maxHeartbeats 4000000 in
theorem mask_Meet {w : World} {v1 v2 : Value} {l1 l2 : List (List Int)} (h1 : WaysAt w v1 l1) (h2 : WaysAt w v2 l2) (hL1 : LightW l1) (hL2 : LightW l2) (hL : l1.length + l2.length ≤ 1099511627776) :
    Calls Tryd.prog 11 #[maskV v1, maskV v2] w (MaskPost w (mOf (halfW (mOf l1) l2 ++ halfW (mOf l2) l1))) := by
  unfold maskV
  obtain ⟨-, a1, k1, rfl, -, -⟩ := h1.open
  obtain ⟨-, a2, k2, rfl, -, -⟩ := h2.open
  obtain ⟨n1, HN1⟩ : ∃ n, Hid (n = l1.length) := ⟨_, rfl⟩
  obtain ⟨n2, HN2⟩ : ∃ n, Hid (n = l2.length) := ⟨_, rfl⟩
  rw [← HN1.out] at h1 hL ⊢
  rw [← HN2.out] at h2 hL ⊢
  obtain ⟨Q, HQ⟩ : ∃ Q : Ending → World → Prop, Hid (Q = MaskPost w (mOf (halfW (mOf l1) l2 ++ halfW (mOf l2) l1))) := ⟨_, rfl⟩
  rw [← HQ.out]
  have H1 := hid h1
  have H2 := hid h2
  clear h1 h2
  have hi0 := meet_i0
  have hi1 := meet_i1
  go_enter Tryd.func11, Tryd.ntmps11
  go_wp2_with fail
  obtain ⟨wB, HWB⟩ : ∃ wB, Hid (wB = ((w.alloc (.cells #[.slice a1 n1 k1] 27)).alloc (.cells #[.slice a2 n2 k2] 27)).alloc (.cells #[.slice none 0 0] 27)) := ⟨_, rfl⟩
  rw [← HWB.out]
  have HB0 : Hid (Below w.heap.size w wB) := by show Below _ _ _; rw [HWB.out]; (repeat (first | with_reducible exact Below.refl _ _ | with_reducible refine Below.setCell ?_ (by first | omega | (simp; omega) | (simp; done)) _ | with_reducible refine Below.alloc ?_ (by first | omega | (simp; omega) | (simp; done)) _ | with_reducible refine below_drewN ?_ _ | with_reducible refine Below.drew ?_))
  have HSZ : Hid (wB.heap.size = w.heap.size + 3) := by rw [HWB.out]; simp [Hid]
  have HBX : Hid (Blk wB (w.heap.size + 2) [.slice none 0 0] 27) := by rw [HWB.out]; exact Blk.new' _ [.slice none 0 0] _ _ (by simp)
  have HL12 := hid (And.intro hL1 hL2)
  go_loopw [5, 17] (fun v5 v17 wr => ∃ (k : Nat), v17 = .int .i64 k ∧ k ≤ 2 ∧ Hid (RowsOwn WayP 23 1 0 wB.heap.size wr v5 (meetO l1 l2 k) ∧ Below wB.heap.size wB wr)) (fun _ v17 _ => 2 - (intOf v17).toNat)
  case atStart => exact ⟨0, rfl, by omega, RowsOwn.nil _ _ _ _ _ _, Below.refl _ _⟩
  case round =>
    obtain ⟨k, rfl, hk, HI⟩ := hrel
    obtain ⟨oa, oc, hoe⟩ := HI.out.1.form
    obtain ⟨j0, HJ0⟩ : ∃ j, Hid (j = (meetO l1 l2 k).length) := ⟨_, rfl⟩
    rw [← HJ0.out] at hoe
    subst hoe
    by_cases hlt : k < 2
    · obtain ⟨a, n, c, l, b, m, d, l', hix, hH, hH', hLl, hLl', hnext⟩ : ∃ a n c l b m d l', (∀ W, (Instr.index 67 (.agg #[.slice a1 n1 k1, .slice a2 n2 k2, .slice a2 n2 k2, .slice a1 n1 k1]) (.int .i64 (k : Int))).run Tryd.prog W = .ok (.agg #[.slice a n c, .slice b m d]) W) ∧
          WaysAt w (.slice a n c) l ∧ WaysAt w (.slice b m d) l' ∧ LightW l ∧ LightW l' ∧ meetO l1 l2 (k + 1) = meetO l1 l2 k ++ halfW (mOf l) l' := by
        match k, hlt with
        | 0, _ => exact ⟨_, _, _, l1, _, _, _, l2, fun W => hi0 _ _ _ _ _ _ W, H1.out, H2.out, HL12.out.1, HL12.out.2, rfl⟩
        | 1, _ => exact ⟨_, _, _, l2, _, _, _, l1, fun W => hi1 _ _ _ _ _ _ W, H2.out, H1.out, HL12.out.2, HL12.out.1, rfl⟩
      have HH := hid hH
      have HH' := hid hH'
      have HLL := hid (And.intro hLl hLl')
      have HNX := hid hnext
      obtain ⟨wo, rfl⟩ : ∃ wo : World, wo = wr := ⟨_, rfl⟩
      obtain ⟨wC, HWC⟩ : ∃ wC, Hid (wC = wo.alloc (.cells #[.slice a n c, .slice b m d] 66)) := ⟨_, rfl⟩
      have HC0 : Hid (Below wo.heap.size wo wC) := by show Below _ _ _; rw [HWC.out]; (repeat (first | with_reducible exact Below.refl _ _ | with_reducible refine Below.setCell ?_ (by first | omega | (simp; omega) | (simp; done)) _ | with_reducible refine Below.alloc ?_ (by first | omega | (simp; omega) | (simp; done)) _ | with_reducible refine below_drewN ?_ _ | with_reducible refine Below.drew ?_))
      have HCX : Hid (Blk wC wo.heap.size [.slice a n c, .slice b m d] 66) := by rw [HWC.out]; exact Blk.new _ [.slice a n c, .slice b m d] _
      have hbw : Below w.heap.size w wo := HB0.out.trans (HI.out.2.mono (by have := HSZ.out; omega))
      have HBW := hid hbw
      have hbc : Below w.heap.size w wC := hbw.trans (HC0.out.mono hbw.size)
      have HOF := hid (mask_Of (hH.below hbc) hLl)
      have hfd := field_mask
      obtain ⟨o, HO⟩ : ∃ o, Hid (o = mOf l) := ⟨_, rfl⟩
      rw [← HO.out] at HOF HNX
      clear hH hH' hLl hLl' hnext hbw hbc hi0 hi1
      go_wp2_with fail
      rw [← HWC.out]
      refine HOF.out.mono ?_
      intro e w1 hp
      obtain ⟨a4, k4, rfl, -, hb4, hN4⟩ := hp.open
      obtain ⟨q4, HQ4⟩ : ∃ q4, Hid (q4 = o.length) := ⟨_, rfl⟩
      rw [← HQ4.out] at hN4 ⊢
      have hq4 : q4 ≤ 1099511627776 := by rw [HQ4.out]; exact hN4.1
      have HB4 := hid hb4
      have HN4 := hid hN4
      have HO1 : Hid (RowsOwn WayP 23 1 0 wB.heap.size w1 (.slice oa j0 oc) (meetO l1 l2 k)) := ((HI.out.1.below HC0.out).below hb4)
      have HOB : Hid (∀ q, (Value.slice oa j0 oc).ownBlock = some q → q < wo.heap.size) := fun q e => (HI.out.1.own q e).2
      unfold maskV
      clear hp hb4 hN4
      go_wp2_with fail
      go_loopw [5, 26] (fun v5 v26 wr => ∃ (i : Nat) (p : List (List Int)), v26 = .int .i64 i ∧ i ≤ q4 ∧ Hid (RowsOwn WayP 23 1 0 wB.heap.size wr v5 p ∧ p ++ halfW (o.drop i) l' = meetO l1 l2 (k + 1) ∧ Below wB.heap.size wB wr ∧ (∀ q, v5.ownBlock = some q → q < wo.heap.size ∨ w1.heap.size ≤ q) ∧ (∀ b, wo.heap.size ≤ b → b < w1.heap.size → wr.heap[b]? = w1.heap[b]?) ∧ w1.heap.size ≤ wr.heap.size)) (fun _ v26 _ => q4 - (intOf v26).toNat)
      case atStart =>
        refine ⟨0, meetO l1 l2 k, rfl, by omega, HO1.out, by rw [HNX.out]; rfl, ?_, fun q e => .inl (HOB.out q e), fun _ _ _ => rfl, Nat.le_refl _⟩
        exact HI.out.2.trans ((HC0.out.trans (HB4.out.mono HC0.out.size)).mono HI.out.2.size)
      case round =>
        obtain ⟨i, p, rfl, hi, HR⟩ := hrel
        obtain ⟨pa, pc, hpe⟩ := HR.out.1.form
        obtain ⟨j, HJ⟩ : ∃ j, Hid (j = p.length) := ⟨_, rfl⟩
        rw [← HJ.out] at hpe
        subst hpe
        have hbw : Below w.heap.size w wr := HB0.out.trans (HR.out.2.2.1.mono (by have := HSZ.out; omega))
        have HBWR := hid hbw
        by_cases hlt2 : i < q4
        · obtain ⟨x, hx⟩ := way_get HQ4.out hlt2
          obtain ⟨b5, q5, xa, xc, hve, g0, hb5, hb5', hE⟩ := HN4.out.elem hx
          have ha : a4 = some ⟨b5, q5, none⟩ := by injection hve
          have hcs : wC.heap.size = wo.heap.size + 1 := by rw [HWC.out]; simp
          have g1 : wr.cell? ⟨b5, q5 + i, none⟩ = some (.slice xa x.length xc) := (World.cell?_of_block (HR.out.2.2.2.2.1 b5 (by omega) hb5')).trans g0
          have hX := hE wr fun b h1 h2 => HR.out.2.2.2.2.1 b (by omega) h2
          have hix5 := index_run1 Tryd.underlying22 size_ints ha i hlt2 (cap := k4)
          have HD := hid (drop_at hx)
          obtain ⟨xn, HXN⟩ : ∃ xn, Hid (xn = x.length) := ⟨_, rfl⟩
          rw [← HXN.out] at g1 hX
          have hcx : Blk wr wo.heap.size [.slice a n c, .slice b m d] 66 := (HR.out.2.2.2.2.1 _ (Nat.le_refl _) (by have := HB4.out.size; omega)).trans (HCX.out.below HB4.out)
          have c1 := hcx.cell 1 _ rfl
          have hhas := mask_Has (HH'.out.below hbw) hX
          have hone : (Value.slice xa xn xc).oneCell' = true := rfl
          unfold maskV at hhas
          obtain ⟨y, HY⟩ : ∃ y, Hid (y = hasW l' x) := ⟨_, rfl⟩
          rw [← HY.out] at hhas
          have HHAS := hid hhas
          have HEE : Hid (∀ W, (∀ b, wC.heap.size ≤ b → b < w1.heap.size → W.heap[b]? = w1.heap[b]?) → IntsAt W (.slice xa xn xc) x) := by rw [HXN.out]; exact hE
          have HHC := hid (half_cons x (o.drop (i + 1)) l')
          rw [← HY.out] at HHC
          have HCS := hid hcs
          clear hx hve g0 hb5 hb5' hE ha hX hcx hhas hbw hcs
          go_wp2_with fail
          refine HHAS.out.mono ?_
          rintro e w5 ⟨rfl, hb5⟩
          have HB5 := hid hb5
          clear hb5
          cases y with
          | true =>
            have hown5 := HR.out.1.below HB5.out
            obtain ⟨a', c', w6, hr, hO6, hB6, hg6, hat6⟩ := hown5.step' (by decide) (Nat.le_trans (Nat.le_trans (HR.out.2.2.1.size) (Nat.le_refl _)) HB5.out.size) HJ.out.symm (G := Tryd.prog) 22 (.slice none 0 0) 24 under_ways info_ints rfl #[.slice xa xn xc] rfl (by intro u hu; simp at hu; subst hu; exact hone) x
              (fun w' hw' => ⟨_, rfl, HEE.out w' fun b h1 h2 => by
                have hb' : b < wr.heap.size := Nat.lt_of_lt_of_le h2 HR.out.2.2.2.2.2
                have hne : (Value.slice pa j pc).ownBlock ≠ some b := fun e => by
                  have := HR.out.2.2.2.1 b e
                  have := HCS.out
                  omega
                have hwo : wB.heap.size ≤ wo.heap.size := HI.out.2.size
                exact (hw' b (Nat.lt_of_lt_of_le hb' HB5.out.size) hne (.inr (by have := HCS.out; omega))).trans ((HB5.out.block b hb').trans (HR.out.2.2.2.2.1 b (by have := HCS.out; omega) h2))⟩)
              (by
                have h1 := HR.out.2.1
                have h2 : p.length ≤ (meetO l1 l2 (k + 1)).length := by rw [← h1, List.length_append]; omega
                have h3 := meetO_len l1 l2 (k + 1)
                rw [← HJ.out, ← HN1.out, ← HN2.out] at *
                omega) (by decide)
            have HREL : Hid (RowsOwn WayP 23 1 0 wB.heap.size w6 (.slice a' (j + 1) c') (p ++ [x]) ∧ (p ++ [x]) ++ halfW (o.drop (i + 1)) l' = meetO l1 l2 (k + 1) ∧ Below wB.heap.size wB w6 ∧ (∀ q, (Value.slice a' (j + 1) c').ownBlock = some q → q < wo.heap.size ∨ w1.heap.size ≤ q) ∧ (∀ b, wo.heap.size ≤ b → b < w1.heap.size → w6.heap[b]? = w1.heap[b]?) ∧ w1.heap.size ≤ w6.heap.size) := by
              have hs5 := HB5.out.size
              have hs6 := hg6.size
              simp at hs6
              refine ⟨hO6, ?_, (below_step HR.out.2.2.1 (HB5.out) HR.out.2.2.1.size).trans hB6, ?_, ?_, by have := HR.out.2.2.2.2.2; omega⟩
              · rw [← HR.out.2.1, HD.out, HHC.out, if_pos rfl, List.append_assoc]; rfl
              · intro q e
                rcases hat6 with h | h
                · rw [h] at e; exact HR.out.2.2.2.1 q e
                · rw [h] at e; simp at e; have := HR.out.2.2.2.2.2; omega
              · intro b h1 h2
                have hb' : b < wr.heap.size := Nat.lt_of_lt_of_le h2 HR.out.2.2.2.2.2
                refine (hg6.block b (by simp; omega) (fun e => ?_)).trans ((Below.heap_alloc w5 _ b (by omega)).trans ((HB5.out.block b hb').trans (HR.out.2.2.2.2.1 b h1 h2)))
                have := HR.out.2.2.2.1 b e.symm
                omega
            clear hown5 hO6 hB6 hg6 hat6
            go_wp2_with (at_builtin; refine wpList_append_eq rfl _ _ _ rfl _ _ rfl rfl hr ?_)
            go_roundw
            case rel => exact ⟨i + 1, _, by go_num, hlt2, HREL.out⟩
            case measure => simp [intOf]; omega
          | false =>
            have HREL : Hid (RowsOwn WayP 23 1 0 wB.heap.size w5 (.slice pa j pc) p ∧ p ++ halfW (o.drop (i + 1)) l' = meetO l1 l2 (k + 1) ∧ Below wB.heap.size wB w5 ∧ (∀ q, (Value.slice pa j pc).ownBlock = some q → q < wo.heap.size ∨ w1.heap.size ≤ q) ∧ (∀ b, wo.heap.size ≤ b → b < w1.heap.size → w5.heap[b]? = w1.heap[b]?) ∧ w1.heap.size ≤ w5.heap.size) := by
              refine ⟨HR.out.1.below HB5.out, ?_, below_step HR.out.2.2.1 HB5.out HR.out.2.2.1.size, HR.out.2.2.2.1, fun b h1 h2 => ?_, Nat.le_trans HR.out.2.2.2.2.2 HB5.out.size⟩
              · rw [← HR.out.2.1, HD.out, HHC.out, if_neg (by decide)]
              · exact (HB5.out.block b (Nat.lt_of_lt_of_le h2 HR.out.2.2.2.2.2)).trans (HR.out.2.2.2.2.1 b h1 h2)
            go_wp2_with fail
            go_roundw
            case rel => exact ⟨i + 1, _, by go_num, hlt2, HREL.out⟩
            case measure => simp [intOf]; omega
        · obtain rfl : i = q4 := by omega
          have HEQ : Hid (p = meetO l1 l2 (k + 1)) := by
            rw [Hid, ← HR.out.2.1, List.drop_eq_nil_of_le (by rw [← HQ4.out]; omega)]; simp [halfW]
          have HREL : Hid (RowsOwn WayP 23 1 0 wB.heap.size wr (.slice pa j pc) (meetO l1 l2 (k + 1)) ∧ Below wB.heap.size wB wr) := by
            rw [← HEQ.out]; exact ⟨HR.out.1, HR.out.2.2.1⟩
          clear hbw
          go_wp2_with fail
          go_roundw
          case rel => exact ⟨k + 1, by go_num, by omega, HREL.out⟩
          case measure => simp [intOf]; omega
    · obtain rfl : k = 2 := by omega
      have hWO := RowsOwn.at HI.out.1 (by have := meetO_len l1 l2 2; rw [← HN1.out, ← HN2.out] at this; omega) (w' := wr) (fun _ _ _ => rfl)
      have HOF := hid (mask_Of (show WaysAt wr (.slice oa j0 oc) (meetO l1 l2 2) from hWO) (meetO_light HL12.out.1 HL12.out.2 (by rw [← HN1.out, ← HN2.out]; exact hL) 2))
      have HBX2 := hid (HBX.out.below HI.out.2)
      obtain ⟨o, HO⟩ : ∃ o, Hid (o = mOf (meetO l1 l2 2)) := ⟨_, rfl⟩
      have HQ2 : Hid (Q = MaskPost w o) := by rw [Hid, HQ.out, HO.out]; rfl
      rw [← HO.out] at HOF
      clear hWO hlt hi0 hi1
      go_wp2_with fail
      refine HOF.out.mono ?_
      intro e w3 hp3
      obtain ⟨a3, c3, rfl, -, hb3, hN3⟩ := hp3.open
      obtain ⟨q3, HQ3⟩ : ∃ q3, Hid (q3 = o.length) := ⟨_, rfl⟩
      rw [← HQ3.out] at hN3 ⊢
      have HBX3 := hid (HBX2.out.below hb3)
      have hsz3 := HBX3.out.lt
      have c0 := HBX3.out.cell 0 _ rfl
      have f0 := HBX3.out.free 0
      have hs2 := HI.out.2.size
      have HB3 : Hid (Below w.heap.size w w3) := (HB0.out.trans (HI.out.2.mono (by have := HSZ.out; omega))).trans (hb3.mono (by have := HSZ.out; omega))
      have HCS : Hid ((w3.setCell ⟨w.heap.size + 2, 0, none⟩ (.slice a3 q3 c3)).cell? ⟨w.heap.size + 2, 0, none⟩ = some (.slice a3 q3 c3)) := World.cell?_setCell_same' _ _ _ (by rw [c0]; rfl)
      have HFIN : Hid (Q (.returned (maskV (.slice a3 q3 c3))) (w3.setCell ⟨w.heap.size + 2, 0, none⟩ (.slice a3 q3 c3))) := by
        rw [HQ2.out]
        exact ⟨_, rfl, hN3.later (by have := HSZ.out; omega) (by simp) fun b h1 h2 => Below.heap_setCell _ _ _ _ (by show b ≠ w.heap.size + 2; have := HSZ.out; omega), HB3.out.setCell (by simp) _⟩
      unfold maskV
      clear hp3 hb3 hN3 hs2
      go_wp2_with fail
      refine bodyPost_ret (v := maskV (.slice a3 q3 c3)) (by simp [results, Tryd.results11, go_sem, maskV, HCS.out]) rfl HFIN.out

end Go.Proofs.YtpjikakbdahmfaaDoor

namespace Go.Proofs.YtpjikakbdahmfaaDoor
open Go.RowKit

theorem ltW_at {l m : List Int} {i : Nat} {x y : Int} (hx : l[i]? = some x) (hy : m[i]? = some y) : ltW (l.drop i) (m.drop i) = if x = y then ltW (l.drop (i + 1)) (m.drop (i + 1)) else decide (x < y) := by
  rw [drop_at hx, drop_at hy, ltW]
theorem ltW_end {l m : List Int} {i : Nat} (h : l.length ≤ i ∨ m.length ≤ i) (hi : i ≤ l.length) (hi2 : i ≤ m.length) : ltW (l.drop i) (m.drop i) = decide (l.length < m.length) := by
  by_cases h1 : l.length ≤ i
  · rw [List.drop_eq_nil_of_le h1]
    by_cases h2 : m.length ≤ i
    · rw [List.drop_eq_nil_of_le h2, ltW]; simp; omega
    · rw [List.drop_eq_getElem_cons (by omega), ltW]; simp; omega
  · rw [List.drop_eq_nil_of_le (by omega : m.length ≤ i), List.drop_eq_getElem_cons (by omega), ltW]; simp; omega

set_option maxRecDepth 100000 in
set_option maxHeartbeats 4000000 in
theorem ref13_less {w : World} {v u : Value} {l m : List Int} (h : IntsAt w v l) (hu : IntsAt w u m) :
    Calls Tryd.prog 34 #[v, u] w fun e w' => e = .returned (.bool (ltW l m)) ∧ Drew w w' := by
  obtain ⟨hl, a, c, rfl, -, hat⟩ := h.open
  obtain ⟨hm, a2, c2, rfl, -, hbt⟩ := hu.open
  obtain ⟨n, HN⟩ : ∃ n, Hid (n = l.length) := ⟨_, rfl⟩
  obtain ⟨n2, HN2⟩ : ∃ n, Hid (n = m.length) := ⟨_, rfl⟩
  rw [← HN.out] at hl ⊢
  rw [← HN2.out] at hm ⊢
  obtain ⟨z, HZ⟩ : ∃ z, Hid (z = ltW l m) := ⟨_, rfl⟩
  rw [← HZ.out]
  have HAT := hid hat
  have HBT := hid hbt
  clear hat hbt h hu
  go_enter Tryd.func34, Tryd.ntmps34
  go_wp2_with fail
  go_loopw [5] (fun v5 wr => ∃ i : Nat, v5 = .int .i64 i ∧ i ≤ n ∧ i ≤ n2 ∧ Hid (z = ltW (l.drop i) (m.drop i)) ∧ Hid (Drew w wr)) (fun v5 _ => n - (intOf v5).toNat)
  case atStart => exact ⟨0, rfl, by omega, by omega, by rw [Hid, HZ.out]; simp, Drew.refl _⟩
  case round =>
    obtain ⟨i, rfl, hi, hi2, HI, HB⟩ := hrel
    by_cases h12 : i < n ∧ i < n2
    · obtain ⟨h1, h2⟩ := h12
      obtain ⟨x, hxi⟩ := int_get HN.out h1
      obtain ⟨y, hyi⟩ := int_get HN2.out h2
      obtain ⟨hx64, b, o, ha, g0⟩ := HAT.out i x hxi
      obtain ⟨hy64, b2, o2, ha2, g2⟩ := HBT.out i y hyi
      have HC := hid (ltW_at hxi hyi)
      have hix := index_run1 Tryd.underlying23 size_int ha i h1 (cap := c)
      have hix2 := index_run1 Tryd.underlying23 size_int ha2 i h2 (cap := c2)
      replace g0 := HB.out.keeps _ _ g0
      replace g2 := HB.out.keeps _ _ g2
      clear hxi hyi ha ha2
      by_cases hxy : x = y
      · have HC1 : Hid (z = ltW (l.drop (i + 1)) (m.drop (i + 1))) := by rw [Hid, HI.out, HC.out, if_pos hxy]
        have hb1 : (x != y) = false := by simpa using hxy
        have hb2 : (x == y) = true := by simpa using hxy
        clear hxy
        go_wp2_with fail
        go_quiet (fail)
        go_wp2_with fail
        go_roundw
        case rel => exact ⟨i + 1, by go_num, h1, h2, HC1.out, HB.out.step _⟩
        case measure => simp [intOf]; omega
      · have HC1 : Hid (z = decide (x < y)) := by rw [Hid, HI.out, HC.out, if_neg hxy]
        have hb1 : (x != y) = true := by simpa using hxy
        have hb2 : (x == y) = false := by simpa using hxy
        clear hxy
        go_wp2_with fail
        go_quiet (fail)
        go_wp2_with fail
        go_quiet (fail)
        go_wp2_with fail
        go_ret
        exact ⟨by rw [HC1.out]; first | done | rfl, (HB.out.step _).step _⟩
    · have HC1 : Hid (z = decide (n < n2)) := by
        rw [Hid, HI.out, ltW_end (by rw [← HN.out, ← HN2.out]; omega) (by rw [← HN.out]; omega) (by rw [← HN2.out]; omega), ← HN.out, ← HN2.out]
      by_cases h1 : i < n
      · have h2 : n2 ≤ i := by omega
        have hn : ¬ n < n2 := by omega
        have HC2 : Hid (z = false) := by rw [Hid, HC1.out]; exact decide_eq_false hn
        clear h12
        go_wp2_with fail
        go_ret
        exact ⟨by rw [HC2.out]; first | done | rfl, HB.out⟩
      · by_cases hn : n < n2
        · have HC2 : Hid (z = true) := by rw [Hid, HC1.out]; exact decide_eq_true hn
          clear h12
          go_wp2_with fail
          go_ret
          exact ⟨by rw [HC2.out]; first | done | rfl, HB.out⟩
        · have HC2 : Hid (z = false) := by rw [Hid, HC1.out]; exact decide_eq_false hn
          clear h12
          go_wp2_with fail
          go_ret
          exact ⟨by rw [HC2.out]; first | done | rfl, HB.out⟩

theorem row_form {w : World} {base size n : Nat} {e : TypeId} {v : Value} {xs : List Value} (h : w.ownsRow base e size v n xs) : ∃ a c, v = .slice a n c := by
  rcases h.2 with ⟨h1, h2⟩ | ⟨g, cap, cur, hv, -⟩
  · exact ⟨none, 0, by rw [h1, h2]⟩
  · exact ⟨_, _, hv⟩
theorem row_mono {w : World} {base base' size n : Nat} {e : TypeId} {v : Value} {xs : List Value} (h : w.ownsRow base e size v n xs) (hb : base' ≤ base) : w.ownsRow base' e size v n xs := by
  refine ⟨h.1, ?_⟩
  rcases h.2 with h2 | ⟨g, cap, cur, hv, hg, h3⟩
  · exact .inl h2
  · exact .inr ⟨g, cap, cur, hv, by omega, h3⟩
/-- the first so many of a slice of one-cell elements -/
theorem Seg.h1 {P : Program} {t e : TypeId} (ht : P.underlying t = some (.slice e)) (hs : ∀ w : World, (sizeOf e).run P w = .ok 1 w) {w : World} {a : Option Addr} {n cap : Nat} {xs : List Value} (h : Seg w (.slice a n cap) 1 n xs) (j : Nat) (hj : j ≤ n) :
    ∃ a' cap', (∀ W, (Instr.slice t (.slice a n cap) none (some (.int .i64 (j : Int))) none).run P W = .ok (.slice a' j cap') W) ∧ Seg w (.slice a' j cap') 1 j (xs.take j) := by
  have hcap : n ≤ cap := by obtain ⟨_, _, a', cap', hv, h3, _⟩ := h; cases hv; exact h3
  have hr := fun W => slice_h_run ht hs a n cap j (by omega) W
  have hsb := Seg.sub h 0 j (by omega) hj
  unfold sliced at hr hsb
  refine ⟨_, _, hr, ?_⟩
  simpa using hsb
/-- what is behind the first so many -/
theorem Seg.l1 {P : Program} {t e : TypeId} (ht : P.underlying t = some (.slice e)) (hs : ∀ w : World, (sizeOf e).run P w = .ok 1 w) {w : World} {a : Option Addr} {n cap : Nat} {xs : List Value} (h : Seg w (.slice a n cap) 1 n xs) (i : Nat) (hi : i ≤ n) :
    ∃ a' cap', (∀ W, (Instr.slice t (.slice a n cap) (some (.int .i64 (i : Int))) none none).run P W = .ok (.slice a' (n - i) cap') W) ∧ Seg w (.slice a' (n - i) cap') 1 (n - i) (xs.drop i) := by
  have hr := fun W => slice_l_run ht hs a n cap i hi W
  have hsb := Seg.sub h i n hi (Nat.le_refl _)
  have hl := h.1
  unfold sliced at hr hsb
  refine ⟨_, _, hr, ?_⟩
  rw [List.take_of_length_le (by simp [hl])] at hsb
  simpa using hsb
def badW (l : List (List Int)) (i k : Nat) : Bool := decide (k ≠ i) && decide ((l.getD k []) ≠ []) && beginsW (l.getD i []) (l.getD k []) && (decide ((l.getD k []).length < (l.getD i []).length) || decide (k < i))
def keepTo (l : List (List Int)) (i k : Nat) : Bool := decide ((l.getD i []) ≠ []) && (List.range k).all fun k => !badW l i k
theorem keepTo_all (l : List (List Int)) (i : Nat) : keepTo l i l.length = keepW l i := rfl
theorem keepTo_succ (l : List (List Int)) (i k : Nat) : keepTo l i (k + 1) = (keepTo l i k && !badW l i k) := by
  unfold keepTo
  rw [List.range_succ, List.all_append, Bool.and_assoc]
  simp
def posW (w : List Int) (o : List (List Int)) : Nat := (o.takeWhile fun u => ltW u w).length
theorem insW_pos (w : List Int) : ∀ o, insW w o = o.take (posW w o) ++ w :: o.drop (posW w o)
  | [] => rfl
  | u :: r => by
    rw [insW, posW, List.takeWhile_cons]
    cases h : ltW u w with
    | true => simp only [if_true, List.length_cons, List.take_succ_cons, List.drop_succ_cons]; rw [insW_pos w r]; rfl
    | false => simp
theorem posW_le (w : List Int) (o : List (List Int)) : posW w o ≤ o.length := (List.takeWhile_prefix _).length_le
/-- the search for the place -/
theorem posW_from (w : List Int) (o : List (List Int)) (k : Nat) : (k < posW w o → ∃ u, o[k]? = some u ∧ ltW u w = true) ∧ (k = posW w o → ∀ u, o[k]? = some u → ltW u w = false) := by
  unfold posW
  induction o generalizing k with
  | nil => simp
  | cons u r ih =>
    rw [List.takeWhile_cons]
    cases h : ltW u w with
    | true =>
      simp only [if_true, List.length_cons]
      cases k with
      | zero => exact ⟨fun _ => ⟨u, rfl, h⟩, fun h => by omega⟩
      | succ k =>
        have := ih k
        exact ⟨fun hk => by simpa using this.1 (by omega), fun hk => by simpa using this.2 (by omega)⟩
    | false =>
      simp only [Bool.false_eq_true, if_false, List.length_nil]
      exact ⟨fun h => by omega, fun hk v hv => by subst hk; simp at hv; subst hv; exact h⟩

set_option maxRecDepth 100000 in
set_option maxHeartbeats 4000000 in
theorem ref13_Of {w : World} {v : Value} {ls : List (List Int)} (h : WaysAt w v ls) (hl : ls.length ≤ 1099511627776) :
    Calls Tryd.prog 13 #[v] w fun e w' => ∃ v', e = .returned v' ∧ WaysAt w' v' (mOf ls) ∧ Below w.heap.size w w' := by
  obtain ⟨-, a, c, rfl, -, hat⟩ := h.open
  obtain ⟨n, HN⟩ : ∃ n, Hid (n = ls.length) := ⟨_, rfl⟩
  rw [← HN.out] at hl ⊢
  have HAT := hid hat
  have HLS : Hid (∀ k x, ls[k]? = some x → ls.getD k [] = x) := fun k x hx => by rw [List.getD_eq_getElem?_getD, hx]; rfl
  clear hat h
  go_enter Tryd.func13, Tryd.ntmps13
  go_wp2_with fail
  go_loopw [3, 4] (fun v3 v4 wr => ∃ (i : Nat) (ps : List (WV w)), v4 = .int .i64 i ∧ i ≤ n ∧ Hid (ps.map WV.way = rOf ls i ∧ wr.ownsRow w.heap.size 23 1 v3 ps.length (ps.map WV.val) ∧ Below w.heap.size w wr)) (fun _ v4 _ => n - (intOf v4).toNat)
  case atStart => exact ⟨0, [], rfl, by omega, rfl, World.ownsRow_nil _ _ _ _, Below.refl _ _⟩
  case round =>
    obtain ⟨i, ps, rfl, hi, HI⟩ := hrel
    obtain ⟨m, HM⟩ : ∃ m, Hid (m = ps.length) := ⟨_, rfl⟩
    have hml : m ≤ i := by have h1 := rOf_len ls i; rw [← HI.out.1, List.length_map, ← HM.out] at h1; exact h1
    obtain ⟨oa, oc, hoe⟩ := row_form HI.out.2.1
    rw [← HM.out] at hoe
    subst hoe
    by_cases hlt : i < n
    · obtain ⟨x, hx⟩ := way_get HN.out hlt
      obtain ⟨b, q, xa, xc, ha, g0, hX⟩ := HAT.out i x hx
      have hix := index_run1 Tryd.underlying22 size_ints ha i hlt (cap := c)
      have HX := hid hX
      have HXD := hid (HLS.out i x hx)
      obtain ⟨xn, HXN⟩ : ∃ xn, Hid (xn = x.length) := ⟨_, rfl⟩
      rw [← HXN.out] at g0 HX
      replace g0 := below_keeps HI.out.2.2 _ _ g0
      obtain ⟨wo, rfl⟩ : ∃ wo : World, wo = wr := ⟨_, rfl⟩
      have G0 := hid g0
      clear hx ha hX
      go_wp2_with fail
      go_loopw [5, 6] (fun v5 v6 wr => ∃ (k : Nat) (zb : Bool), v6 = .int .i64 k ∧ v5 = .bool zb ∧ k ≤ n ∧ Hid (zb = keepTo ls i k) ∧ Hid (Drew wo wr)) (fun _ v6 _ => n - (intOf v6).toNat)
      case atStart =>
        refine ⟨0, decide (0 < xn), rfl, ?_, by omega, ?_, Drew.refl _⟩
        · first | rfl | (congr 1; simp) | (congr 1; rw [decide_eq_decide]; omega)
        · rw [Hid, keepTo, HXD.out, HXN.out]; simp [List.length_pos_iff]
      case round =>
        obtain ⟨k, zb, rfl, rfl, hk, HZB, HD⟩ := hrel
        by_cases hlk : k < n
        · obtain ⟨y, hy⟩ := way_get HN.out hlk
          obtain ⟨b2, q2, ya, yc, ha2, g2, hY⟩ := HAT.out k y hy
          have hix2 := index_run1 Tryd.underlying22 size_ints ha2 k hlk (cap := c)
          obtain ⟨yn, HYN⟩ : ∃ yn, Hid (yn = y.length) := ⟨_, rfl⟩
          rw [← HYN.out] at g2 hY
          have HYD := hid (HLS.out k y hy)
          obtain ⟨bz, HBZ⟩ : ∃ bz, Hid (bz = beginsW x y) := ⟨_, rfl⟩
          have hkeep : ∀ j, ∀ p u, w.cell? p = some u → (wr.drewN j).cell? p = some u := fun j p u hu => (HD.out.step j).keeps _ _ (below_keeps HI.out.2.2 _ _ hu)
          have HBEG := hid fun j => ref13_Begins (HX.out.keep (hkeep j)) (hY.keep (hkeep j))
          rw [← HBZ.out] at HBEG
          replace g2 := HD.out.keeps _ _ (below_keeps HI.out.2.2 _ _ g2)
          have g0 := HD.out.keeps _ _ G0.out
          have HBAD : Hid (badW ls i k = (decide (k ≠ i) && decide (0 < yn) && bz && (decide (yn < xn) || decide (k < i)))) := by
            rw [Hid, badW, HXD.out, HYD.out, HBZ.out, HXN.out, HYN.out]
            simp [List.length_pos_iff]
          clear hy ha2 hY hkeep
          by_cases hki : k = i
          · have HBAD2 : Hid (badW ls i k = false) := by rw [Hid, HBAD.out, hki]; simp
            have e1 : ((k : Int) != (i : Int)) = false := by simp; omega
            have e2 : ((k : Int) == (i : Int)) = true := by simp; omega
            have e3 : (k == i) = true := by simp; omega
            have e4 : (k != i) = false := by simp; omega
            have HE : Hid (keepTo ls i (k + 1) = zb) := by rw [Hid, keepTo_succ, HBAD2.out, ← HZB.out]; simp
            clear hki
            go_wp2_with fail
            go_quiet ((go_at_call 33; exact Drew.quiet (HBEG.out _)))
            go_wp2_with fail
            go_roundw
            case rel => exact ⟨k + 1, zb, by go_num, rfl, hlk, by rw [Hid, HE.out], HD.out.step _⟩
            case measure => simp [intOf]; omega
          · rw [decide_eq_true hki, Bool.true_and] at HBAD
            have e1 : ((k : Int) != (i : Int)) = true := by simp; omega
            have e2 : ((k : Int) == (i : Int)) = false := by simp; omega
            have e3 : (k == i) = false := by simp; omega
            have e4 : (k != i) = true := by simp; omega
            have HKI := hid hki
            clear hki
            by_cases hy0 : 0 < yn
            · rw [decide_eq_true hy0, Bool.true_and] at HBAD
              cases bz with
              | true =>
                rw [Bool.true_and] at HBAD
                by_cases hyx : yn < xn
                · have HE : Hid (keepTo ls i (k + 1) = false) := by rw [Hid, keepTo_succ, HBAD.out, decide_eq_true hyx]; simp
                  go_wp2_with fail
                  go_quiet ((go_at_call 33; exact Drew.quiet (HBEG.out _)))
                  go_wp2_with fail
                  go_roundw
                  case rel => exact ⟨k + 1, false, by go_num, rfl, hlk, by rw [Hid, HE.out], HD.out.step _⟩
                  case measure => simp [intOf]; omega
                · rw [decide_eq_false hyx, Bool.false_or] at HBAD
                  have f1 : decide ((yn : Int) < (xn : Int)) = false := decide_eq_false (by omega)
                  have f2 : decide (yn < xn) = false := decide_eq_false hyx
                  clear hyx
                  by_cases hki2 : k < i
                  · have HE : Hid (keepTo ls i (k + 1) = false) := by rw [Hid, keepTo_succ, HBAD.out, decide_eq_true hki2]; simp
                    go_wp2_with fail
                    go_quiet ((go_at_call 33; exact Drew.quiet (HBEG.out _)))
                    go_wp2_with fail
                    go_roundw
                    case rel => exact ⟨k + 1, false, by go_num, rfl, hlk, by rw [Hid, HE.out], HD.out.step _⟩
                    case measure => simp [intOf]; omega
                  · have HE : Hid (keepTo ls i (k + 1) = zb) := by rw [Hid, keepTo_succ, HBAD.out, decide_eq_false hki2, ← HZB.out]; simp
                    have f3 : decide ((k : Int) < (i : Int)) = false := decide_eq_false (by omega)
                    have f4 : decide (k < i) = false := decide_eq_false hki2
                    clear hki2
                    go_wp2_with fail
                    go_quiet ((go_at_call 33; exact Drew.quiet (HBEG.out _)))
                    go_wp2_with fail
                    go_roundw
                    case rel => exact ⟨k + 1, zb, by go_num, rfl, hlk, by rw [Hid, HE.out], HD.out.step _⟩
                    case measure => simp [intOf]; omega
              | false =>
                have HE : Hid (keepTo ls i (k + 1) = zb) := by rw [Hid, keepTo_succ, HBAD.out, ← HZB.out]; simp
                go_wp2_with fail
                go_quiet ((go_at_call 33; exact Drew.quiet (HBEG.out _)))
                go_wp2_with fail
                go_roundw
                case rel => exact ⟨k + 1, zb, by go_num, rfl, hlk, by rw [Hid, HE.out], HD.out.step _⟩
                case measure => simp [intOf]; omega
            · have HE : Hid (keepTo ls i (k + 1) = zb) := by rw [Hid, keepTo_succ, HBAD.out, decide_eq_false hy0, ← HZB.out]; simp
              obtain rfl : yn = 0 := by omega
              go_wp2_with fail
              go_quiet ((go_at_call 33; exact Drew.quiet (HBEG.out _)))
              go_wp2_with fail
              go_roundw
              case rel => exact ⟨k + 1, zb, by go_num, rfl, hlk, by rw [Hid, HE.out], HD.out.step _⟩
              case measure => simp [intOf]; omega
        · obtain rfl : k = n := by omega
          have HKW : Hid (zb = keepW ls i) := by rw [Hid, HZB.out, HN.out, keepTo_all]
          cases zb with
          | false =>
            have HRO : Hid (rOf ls (i + 1) = rOf ls i) := by rw [Hid, rOf, ← HKW.out]; rfl
            go_wp2_with fail
            go_roundw
            case rel => exact ⟨i + 1, ps, by go_num, hlt, by rw [HRO.out]; exact HI.out.1, row_keep HI.out.2.1 (fun b cur _ he => HD.out.below.block b (Array.getElem?_eq_some_iff.1 he).1), below_step HI.out.2.2 HD.out.below HI.out.2.2.size⟩
            case measure => simp [intOf]; omega
          | true =>
            obtain ⟨o, HO⟩ : ∃ o, Hid (o = rOf ls i) := ⟨_, rfl⟩
            have HPO : Hid (ps.map WV.way = o) := by rw [Hid, HO.out]; exact HI.out.1
            have HMO : Hid (m = o.length) := by rw [Hid, HM.out, ← HPO.out, List.length_map]
            have HRO : Hid (rOf ls (i + 1) = insW x o) := by rw [Hid, rOf, ← HKW.out, HXD.out, HO.out]; rfl
            obtain ⟨pw, HPW⟩ : ∃ pw, Hid (pw = posW x o) := ⟨_, rfl⟩
            have hpm : pw ≤ m := by rw [HPW.out, HMO.out]; exact posW_le _ _
            have HSEG : Hid (Seg wo (.slice oa m oc) 1 m (ps.map WV.val)) := by
              have h1 := row_seg HI.out.2.1 (by rw [← HM.out]; omega)
              rw [← HM.out] at h1
              exact h1
            have HOUT : Hid (∀ k p, ps[k]? = some p → ∃ b o a2 c2, oa = some ⟨b, o, none⟩ ∧ wo.cell? ⟨b, o + k, none⟩ = some (.slice a2 p.way.length c2) ∧ IntsAt w (.slice a2 p.way.length c2) p.way) := by
              have h1 := HSEG.out
              rw [HM.out] at h1
              obtain ⟨a3, c3, e3, h3⟩ := seg_wv h1
              cases e3
              exact h3
            have HDW := hid HD.out
            obtain ⟨w2, rfl⟩ : ∃ w2 : World, w2 = wr := ⟨_, rfl⟩
            go_wp2_with fail
            go_loopw [7] (fun v7 wr => ∃ k : Nat, v7 = .int .i64 k ∧ k ≤ pw ∧ Hid (Drew wo wr)) (fun v7 _ => pw - (intOf v7).toNat)
            case atStart => exact ⟨0, rfl, by omega, HDW.out⟩
            case round =>
              obtain ⟨k, rfl, hk, HD2⟩ := hrel
              by_cases hkm : k < m
              · obtain ⟨p, hp⟩ : ∃ p, ps[k]? = some p := ⟨_, List.getElem?_eq_getElem (by rw [← HM.out]; exact hkm)⟩
                obtain ⟨b2, q2, ya, yc, ha2, g2, hY⟩ := HOUT.out k p hp
                have hix2 := index_run1 Tryd.underlying22 size_ints ha2 k hkm (cap := oc)
                have hok : o[k]? = some p.way := by rw [← HPO.out, List.getElem?_map, hp]; rfl
                have hpos := posW_from x o k
                rw [← HPW.out] at hpos
                obtain ⟨yn, HYN⟩ : ∃ yn, Hid (yn = p.way.length) := ⟨_, rfl⟩
                rw [← HYN.out] at g2 hY
                have hkeep : ∀ j, ∀ p u, w.cell? p = some u → (wr.drewN j).cell? p = some u := fun j p u hu => (HD2.out.step j).keeps _ _ (below_keeps HI.out.2.2 _ _ hu)
                have HLESS := hid fun j => ref13_less (hY.keep (hkeep j)) (HX.out.keep (hkeep j))
                replace g2 := HD2.out.keeps _ _ g2
                have g0 := HD2.out.keeps _ _ G0.out
                by_cases hkp : k < pw
                · have hl1 : ltW p.way x = true := by
                    obtain ⟨u, hu, h1⟩ := hpos.1 hkp
                    rw [hok] at hu; cases hu; exact h1
                  rw [hl1] at HLESS
                  clear hp ha2 hY hok hpos hkeep hl1
                  go_wp2_with fail
                  go_quiet ((go_at_call 34; exact Drew.quiet (HLESS.out _)))
                  go_wp2_with fail
                  go_roundw
                  case rel => exact ⟨k + 1, by go_num, hkp, HD2.out.step _⟩
                  case measure => simp [intOf]; omega
                · obtain rfl : k = pw := by omega
                  have hl1 : ltW p.way x = false := hpos.2 rfl _ hok
                  rw [hl1] at HLESS
                  clear hp ha2 hY hok hpos hkeep hl1 hkp
                  go_wp2_with fail
                  go_quiet ((go_at_call 34; exact Drew.quiet (HLESS.out _)))
                  obtain ⟨w3, HW3⟩ : ∃ w3, Hid (w3 = wr.drewN nq) := ⟨_, rfl⟩
                  have HD3 : Hid (Drew wo w3) := by rw [HW3.out]; exact HD2.out.step _
                  rw [← HW3.out]
                  have hbo : Below wo.heap.size wo w3 := HD3.out.below
                  have own0 : World.ownsRow (w3.alloc (.cells #[] 23)) w3.heap.size 23 1 (.slice (some ⟨w3.heap.size, 0, none⟩) 0 0) 0 [] := World.ownsRow_made (base := w3.heap.size) (e := 23) (size := 1) w3 #[] 0 (Nat.le_refl _) (by unfold maxLen; omega) rfl
                  have hvl : (ps.map WV.val).length = m := by rw [List.length_map, HM.out]
                  have hone : ∀ u ∈ ps.map WV.val, u.oneCell' = true := wv_vals_one ps
                  obtain ⟨a5, c5, hs5, S5⟩ := Seg.h1 (P := Tryd.prog) under_ways size_ints (HSEG.out.below hbo) k (by omega)
                  obtain ⟨v6, w6, hr6, own6, hg6, -⟩ := seg_append (P := Tryd.prog) _ w3.heap.size 22 22 23 (.slice none 0 0) 1 24 under_ways info_ints rfl (by decide) _ _ 0 k _ _ own0 (S5.below ((Below.refl _ _).alloc (Nat.le_refl _) _)) (fun u hu => hone u (List.mem_of_mem_take hu)) (by omega) (by omega) (by simp)
                  have hB6 : Below w3.heap.size w3 w6 := ((Below.refl w3.heap.size w3).alloc (Nat.le_refl _) (.cells #[] 23)).grown hg6 (by simp) (by intro q e; simp [Value.ownBlock] at e; omega)
                  rw [Nat.zero_add, List.nil_append] at own6
                  obtain ⟨a6, c6, e6⟩ := row_form own6
                  subst e6
                  have S7 : Seg (w6.alloc (.cells #[.slice xa xn xc] 23)) (.slice (some ⟨w6.heap.size, 0, none⟩) 1 1) 1 1 [.slice xa xn xc] := seg_blk (Blk.new w6 [.slice xa xn xc] _) 1 1 rfl (by omega)
                  obtain ⟨v8, w8, hr8, own8, hg8, -⟩ := seg_append (P := Tryd.prog) _ w3.heap.size 22 22 23 (.slice none 0 0) 1 24 under_ways info_ints rfl (by decide) _ _ _ 1 _ _ (World.ownsRow.alloc own6 _) S7 (by intro u hu; simp at hu; subst hu; rfl) (by omega) (by omega) (by have := hB6.size; simp; omega)
                  have hB8 : Below w3.heap.size w3 w8 := (hB6.alloc hB6.size _).grown hg8 (by have := hB6.size; simp; omega) (fun q e => (World.ownsRow.lt own6 q e).1)
                  obtain ⟨a8, c8, e8⟩ := row_form own8
                  subst e8
                  obtain ⟨a9, c9, hs9, S9⟩ := Seg.l1 (P := Tryd.prog) under_ways size_ints ((HSEG.out.below hbo).below hB8) k (by omega)
                  obtain ⟨v10, w10, hr10, own10, hg10, -⟩ := seg_append (P := Tryd.prog) w8 w3.heap.size 22 22 23 (.slice none 0 0) 1 24 under_ways info_ints rfl (by decide) _ _ _ (m - k) _ _ own8 S9 (fun u hu => hone u (List.mem_of_mem_drop hu)) (by omega) (by omega) hB8.size
                  have hB10 : Below w3.heap.size w3 w10 := hB8.grown hg10 hB8.size (fun q e => (World.ownsRow.lt own8 q e).1)
                  obtain ⟨a10, c10, e10⟩ := row_form own10
                  subst e10
                  have HREL : Hid (∃ ps' : List (WV w), ps'.map WV.way = rOf ls (i + 1) ∧ w10.ownsRow w.heap.size 23 1 (.slice a10 (k + 1 + (m - k)) c10) ps'.length (ps'.map WV.val) ∧ Below w.heap.size w w10) := by
                    refine ⟨ps.take k ++ WV.mk (.slice xa xn xc) x HX.out :: ps.drop k, ?_, ?_, ?_⟩
                    · rw [HRO.out, insW_pos, ← HPW.out, ← HPO.out, List.map_append, List.map_cons, WV.way_mk, List.map_take, List.map_drop]
                    · have hlen : (ps.take k ++ WV.mk (.slice xa xn xc) x HX.out :: ps.drop k).length = k + 1 + (m - k) := by
                        rw [List.length_append, List.length_cons, List.length_take, List.length_drop, ← HM.out]; omega
                      rw [hlen, List.map_append, List.map_cons, WV.val_mk, List.map_take, List.map_drop]
                      have h1 : w.heap.size ≤ w3.heap.size := Nat.le_trans HI.out.2.2.size hbo.size
                      have h2 := row_mono own10 h1
                      simpa using h2
                    · exact below_step (below_step HI.out.2.2 hbo HI.out.2.2.size) hB10 (Nat.le_trans HI.out.2.2.size hbo.size)
                  have g6 := below_keeps (below_step hbo hB6 hbo.size) _ _ G0.out
                  clear hbo own0 hvl hone S5 own6 hg6 hB6 S7 own8 hg8 hB8 S9 own10 hg10 hB10
                  go_wp2_with (at_builtin; first | refine wpList_append_eq (o := ⟨some 90, _, _, _, _, _⟩) rfl _ _ _ rfl _ _ rfl rfl hr6 ?_ | refine wpList_append_eq (o := ⟨some 97, _, _, _, _, _⟩) rfl _ _ _ rfl _ _ rfl rfl hr8 ?_ | refine wpList_append_eq (o := ⟨some 102, _, _, _, _, _⟩) rfl _ _ _ rfl _ _ rfl rfl hr10 ?_)
                  go_roundw
                  case rel =>
                    obtain ⟨ps', h1, h2, h3⟩ := HREL.out
                    exact ⟨i + 1, ps', by go_num, hlt, h1, h2, h3⟩
                  case measure => simp [intOf]; omega
              · have hd1 : decide ((k : Int) < (m : Int)) = false := decide_eq_false (by omega)
                have hd2 : decide (k < m) = false := decide_eq_false hkm
                obtain rfl : k = pw := by omega
                have HKM := hid hkm
                clear hkm
                go_wp2_with fail
                go_quiet (fail)
                obtain ⟨w3, HW3⟩ : ∃ w3, Hid (w3 = wr.drewN nq) := ⟨_, rfl⟩
                have HD3 : Hid (Drew wo w3) := by rw [HW3.out]; exact HD2.out.step _
                rw [← HW3.out]
                have hbo : Below wo.heap.size wo w3 := HD3.out.below
                have own0 : World.ownsRow (w3.alloc (.cells #[] 23)) w3.heap.size 23 1 (.slice (some ⟨w3.heap.size, 0, none⟩) 0 0) 0 [] := World.ownsRow_made (base := w3.heap.size) (e := 23) (size := 1) w3 #[] 0 (Nat.le_refl _) (by unfold maxLen; omega) rfl
                have hvl : (ps.map WV.val).length = m := by rw [List.length_map, HM.out]
                have hone : ∀ u ∈ ps.map WV.val, u.oneCell' = true := wv_vals_one ps
                obtain ⟨a5, c5, hs5, S5⟩ := Seg.h1 (P := Tryd.prog) under_ways size_ints (HSEG.out.below hbo) k (by omega)
                obtain ⟨v6, w6, hr6, own6, hg6, -⟩ := seg_append (P := Tryd.prog) _ w3.heap.size 22 22 23 (.slice none 0 0) 1 24 under_ways info_ints rfl (by decide) _ _ 0 k _ _ own0 (S5.below ((Below.refl _ _).alloc (Nat.le_refl _) _)) (fun u hu => hone u (List.mem_of_mem_take hu)) (by omega) (by omega) (by simp)
                have hB6 : Below w3.heap.size w3 w6 := ((Below.refl w3.heap.size w3).alloc (Nat.le_refl _) (.cells #[] 23)).grown hg6 (by simp) (by intro q e; simp [Value.ownBlock] at e; omega)
                rw [Nat.zero_add, List.nil_append] at own6
                obtain ⟨a6, c6, e6⟩ := row_form own6
                subst e6
                have S7 : Seg (w6.alloc (.cells #[.slice xa xn xc] 23)) (.slice (some ⟨w6.heap.size, 0, none⟩) 1 1) 1 1 [.slice xa xn xc] := seg_blk (Blk.new w6 [.slice xa xn xc] _) 1 1 rfl (by omega)
                obtain ⟨v8, w8, hr8, own8, hg8, -⟩ := seg_append (P := Tryd.prog) _ w3.heap.size 22 22 23 (.slice none 0 0) 1 24 under_ways info_ints rfl (by decide) _ _ _ 1 _ _ (World.ownsRow.alloc own6 _) S7 (by intro u hu; simp at hu; subst hu; rfl) (by omega) (by omega) (by have := hB6.size; simp; omega)
                have hB8 : Below w3.heap.size w3 w8 := (hB6.alloc hB6.size _).grown hg8 (by have := hB6.size; simp; omega) (fun q e => (World.ownsRow.lt own6 q e).1)
                obtain ⟨a8, c8, e8⟩ := row_form own8
                subst e8
                obtain ⟨a9, c9, hs9, S9⟩ := Seg.l1 (P := Tryd.prog) under_ways size_ints ((HSEG.out.below hbo).below hB8) k (by omega)
                obtain ⟨v10, w10, hr10, own10, hg10, -⟩ := seg_append (P := Tryd.prog) w8 w3.heap.size 22 22 23 (.slice none 0 0) 1 24 under_ways info_ints rfl (by decide) _ _ _ (m - k) _ _ own8 S9 (fun u hu => hone u (List.mem_of_mem_drop hu)) (by omega) (by omega) hB8.size
                have hB10 : Below w3.heap.size w3 w10 := hB8.grown hg10 hB8.size (fun q e => (World.ownsRow.lt own8 q e).1)
                obtain ⟨a10, c10, e10⟩ := row_form own10
                subst e10
                have HREL : Hid (∃ ps' : List (WV w), ps'.map WV.way = rOf ls (i + 1) ∧ w10.ownsRow w.heap.size 23 1 (.slice a10 (k + 1 + (m - k)) c10) ps'.length (ps'.map WV.val) ∧ Below w.heap.size w w10) := by
                  refine ⟨ps.take k ++ WV.mk (.slice xa xn xc) x HX.out :: ps.drop k, ?_, ?_, ?_⟩
                  · rw [HRO.out, insW_pos, ← HPW.out, ← HPO.out, List.map_append, List.map_cons, WV.way_mk, List.map_take, List.map_drop]
                  · have hlen : (ps.take k ++ WV.mk (.slice xa xn xc) x HX.out :: ps.drop k).length = k + 1 + (m - k) := by
                      rw [List.length_append, List.length_cons, List.length_take, List.length_drop, ← HM.out]; omega
                    rw [hlen, List.map_append, List.map_cons, WV.val_mk, List.map_take, List.map_drop]
                    have h1 : w.heap.size ≤ w3.heap.size := Nat.le_trans HI.out.2.2.size hbo.size
                    have h2 := row_mono own10 h1
                    simpa using h2
                  · exact below_step (below_step HI.out.2.2 hbo HI.out.2.2.size) hB10 (Nat.le_trans HI.out.2.2.size hbo.size)
                have g6 := below_keeps (below_step hbo hB6 hbo.size) _ _ G0.out
                clear hbo own0 hvl hone S5 own6 hg6 hB6 S7 own8 hg8 hB8 S9 own10 hg10 hB10
                go_wp2_with (at_builtin; first | refine wpList_append_eq (o := ⟨some 90, _, _, _, _, _⟩) rfl _ _ _ rfl _ _ rfl rfl hr6 ?_ | refine wpList_append_eq (o := ⟨some 97, _, _, _, _, _⟩) rfl _ _ _ rfl _ _ rfl rfl hr8 ?_ | refine wpList_append_eq (o := ⟨some 102, _, _, _, _, _⟩) rfl _ _ _ rfl _ _ rfl rfl hr10 ?_)
                go_roundw
                case rel =>
                  obtain ⟨ps', h1, h2, h3⟩ := HREL.out
                  exact ⟨i + 1, ps', by go_num, hlt, h1, h2, h3⟩
                case measure => simp [intOf]; omega
    · obtain rfl : i = n := by omega
      have HFIN : Hid (WaysAt wr (.slice oa m oc) (mOf ls)) := by
        have hs := row_seg HI.out.2.1 (by rw [← HM.out]; omega)
        have h1 := ways_of_row ps hs (below_keeps HI.out.2.2)
        rw [HI.out.1, HN.out] at h1
        exact h1
      go_wp2_with fail
      go_ret
      exact ⟨_, rfl, HFIN.out, HI.out.2.2⟩

end Go.Proofs.YtpjikakbdahmfaaDoor

namespace Go.Proofs.YtpjikakbdahmfaaDoor
open Go.RowKit

set_option maxRecDepth 100000 in
set_option maxHeartbeats 4000000 in
theorem ref13_Under {w : World} {v : Value} {m : List (List Int)} (h : WaysAt w v m) (hL : LightW m) (x : Int) :
    Calls Tryd.prog 17 #[v, .int .i64 x] w fun e w' => ∃ v', e = .returned v' ∧ WaysAt w' v' (underW m x) ∧ Below w.heap.size w w' := by
  have HML := hid hL
  obtain ⟨w1, rfl⟩ : ∃ w1 : World, w1 = w := ⟨_, rfl⟩
  obtain ⟨-, a2, c2, rfl, -, hat⟩ := h.open
  obtain ⟨n, HN⟩ : ∃ n, Hid (n = m.length) := ⟨_, rfl⟩
  rw [← HN.out]
  have hn : n ≤ 1099511627776 := by rw [HN.out]; exact hL.1
  have HAT := hid hat
  clear h hL hat
  go_enter Tryd.func17, Tryd.ntmps17
  go_wp2_with fail
  go_loopw [5, 6] (fun v6 v14 wr => ∃ (k : Nat) (o : List (List Int)), v14 = .int .i64 k ∧ k ≤ n ∧ Hid (RowsOwn WayP 23 1 w1.heap.size w1.heap.size wr v6 o ∧ o.length ≤ k ∧ o ++ underW (m.drop k) x = underW m x ∧ Below w1.heap.size w1 wr)) (fun _ v14 _ => n - (intOf v14).toNat)
  case atStart => exact ⟨0, [], rfl, by omega, RowsOwn.nil _ _ _ _ _ _, by simp, rfl, Below.refl _ _⟩
  case round =>
    obtain ⟨k, o, rfl, hk, HI⟩ := hrel
    obtain ⟨oa, oc, hoe⟩ := HI.out.1.form
    obtain ⟨j, HJ⟩ : ∃ j, Hid (j = o.length) := ⟨_, rfl⟩
    rw [← HJ.out] at hoe
    subst hoe
    have hjk : j ≤ k := by rw [HJ.out]; exact HI.out.2.1
    by_cases hlt : k < n
    · obtain ⟨y, hy⟩ := way_get HN.out hlt
      obtain ⟨b, q, ya, yc, ha, g0, hY⟩ := HAT.out k y hy
      replace g0 := below_keeps HI.out.2.2.2 _ _ g0
      have hix := index_run1 Tryd.underlying22 size_ints ha k hlt (cap := c2)
      have HD := hid (drop_at hy)
      have HYL : Hid (y.length ≤ 17592186044416) := HML.out.2 y (List.mem_of_getElem? hy)
      obtain ⟨q2, HQ2⟩ : ∃ q2, Hid (q2 = y.length) := ⟨_, rfl⟩
      rw [← HQ2.out] at g0 hY
      obtain ⟨-, ya', yc', hye, -, hyat⟩ := hY.open
      rw [← HQ2.out] at hye
      cases hye
      have HY := hid hY
      have HY64 := hid hY.2
      clear hy ha hY
      by_cases h1 : 1 < q2
      · obtain ⟨z, hz⟩ := int_get HQ2.out (by omega : 0 < q2)
        obtain ⟨hz64, b2, o2, ha2, g2⟩ := hyat 0 z hz
        have hix2 := index_0 Tryd.underlying23 size_int ha2 (by omega : 0 < q2) (cap := yc)
        replace g2 := below_keeps HI.out.2.2.2 _ _ g2
        rw [Nat.add_zero] at g2
        by_cases hzx : z = x
        · subst hzx
          have HTK := hid (under_take (m.drop (k + 1)) (by rw [← HQ2.out]; exact h1) hz)
          obtain ⟨ta, tc, hsl, hT⟩ := HY.out.l HQ2.out 1 (by omega)
          have hsl' : ∀ W, (Instr.slice 23 (.slice ya q2 yc) (some (.int .i64 1)) none none).run Tryd.prog W = .ok (.slice ta (q2 - 1) tc) W := hsl
          obtain ⟨a', c', w6, hr, hO6, hB6, hB7⟩ := (HI.out.1).step (Below.refl _ _) (by decide) (Nat.le_refl _) HI.out.2.2.2.size HJ.out.symm (G := Tryd.prog) 22 (.slice none 0 0) 24 under_ways info_ints rfl #[.slice ta (q2 - 1) tc] rfl (by intro u hu; simp at hu; subst hu; rfl) (y.drop 1)
            (fun w' hw' => ⟨_, rfl, hT.keep (keep_old fun b hb => (hw' b (Nat.lt_of_lt_of_le hb HI.out.2.2.2.size) (.inl hb)).trans (HI.out.2.2.2.block b hb))⟩) (by omega) (by decide)
          have HO6 := hid hO6
          have HB7 := hid hB7
          have hq1 : ((q2 - 1 : Nat) : Int) = (q2 : Int) - 1 := by omega
          clear hO6 hB6 hB7 hyat hz ha2 hT hsl hq1
          go_wp2_with (at_builtin; refine wpList_append_eq rfl _ _ _ rfl _ _ rfl rfl hr ?_)
          go_roundw
          case rel => exact ⟨k + 1, _, by go_num, hlt, HO6.out, by rw [List.length_append]; have := HI.out.2.1; simp; omega, by rw [← HI.out.2.2.1, HD.out, HTK.out, List.append_assoc]; rfl, HI.out.2.2.2.trans HB7.out⟩
          case measure => simp [intOf]; omega
        · have HTK := hid (under_skip2 (m.drop (k + 1)) hz hzx)
          have e1 : (z == x) = false := by simpa using hzx
          clear hzx hyat hz ha2
          go_wp2_with fail
          go_roundw
          case rel => exact ⟨k + 1, o, by go_num, hlt, HI.out.1, by have := HI.out.2.1; omega, by rw [← HI.out.2.2.1, HD.out, HTK.out], HI.out.2.2.2⟩
          case measure => simp [intOf]; omega
      · have HTK := hid (under_skip1 (x := x) (m.drop (k + 1)) (by rw [← HQ2.out]; exact h1))
        have e1 : decide ((1 : Int) < q2) = false := decide_eq_false (by omega)
        clear hyat h1
        go_wp2_with fail
        go_roundw
        case rel => exact ⟨k + 1, o, by go_num, hlt, HI.out.1, by have := HI.out.2.1; omega, by rw [← HI.out.2.2.1, HD.out, HTK.out], HI.out.2.2.2⟩
        case measure => simp [intOf]; omega
    · obtain rfl : k = n := by omega
      have HEN : Hid (o = underW m x) := by
        have := HI.out.2.2.1
        rw [List.drop_eq_nil_of_le (by rw [← HN.out]; omega)] at this
        rw [Hid, ← this]; simp [underW]
      have hWO := RowsOwn.at HI.out.1 (by have := HI.out.2.1; omega) (w' := wr) (fun _ _ _ => rfl)
      rw [HEN.out] at hWO
      have HWO := hid hWO
      clear hlt hWO
      go_wp2_with fail
      go_ret
      exact ⟨_, rfl, HWO.out, HI.out.2.2.2⟩

def SomeBool (w : World) (e : Ending) (w' : World) : Prop := (∃ b, e = .returned (.bool b)) ∧ w = w'
theorem SomeBool.mk {w : World} {e : Ending} (b : Bool) (h : e = .returned (.bool b)) : SomeBool w e w := ⟨⟨b, h⟩, rfl⟩
set_option maxRecDepth 100000 in
set_option maxHeartbeats 4000000 in
theorem law13_Many {w : World} {v : Value} {ls : List (List Int)} (h : WaysAt w v ls) :
    Calls Tryd.prog 7 #[v] w (SomeBool w) := by
  obtain ⟨hl, a, c, rfl, -, hat⟩ := h.open
  obtain ⟨n, HN⟩ : ∃ n, Hid (n = ls.length) := ⟨_, rfl⟩
  rw [← HN.out] at hl ⊢
  have HAT := hid hat
  clear h hat
  go_enter Tryd.func7, Tryd.ntmps7
  go_wp2_with fail
  go_loop [3, 4] (fun v3 v4 => ∃ (k : Nat) (z : Int), v4 = .int .i64 k ∧ k ≤ n ∧ v3 = .int .i64 z) (fun _ v4 => n - (intOf v4).toNat)
  case atStart => exact ⟨0, 0, rfl, by omega, rfl⟩
  case round =>
    obtain ⟨k, z, rfl, hk, rfl⟩ := hrel
    by_cases hlt : k < n
    · obtain ⟨y, hy⟩ := way_get HN.out hlt
      obtain ⟨b, q, ya, yc, ha, g0, hY⟩ := HAT.out k y hy
      have hix := index_run1 Tryd.underlying22 size_ints ha k hlt (cap := c)
      obtain ⟨q2, HQ2⟩ : ∃ q2, Hid (q2 = y.length) := ⟨_, rfl⟩
      rw [← HQ2.out] at g0
      clear hy ha hY
      go_wp2_with fail
      go_round
      case rel => exact ⟨k + 1, _, by go_num, hlt, rfl⟩
      case measure => simp [intOf]; omega
    · obtain rfl : k = n := by omega
      go_wp2_with fail
      go_ret
      exact SomeBool.mk _ rfl

end Go.Proofs.YtpjikakbdahmfaaDoor

namespace Go.Proofs.YtpjikakbdahmfaaDoor
open Go.RowKit

def sdot : List UInt8 → List (List UInt8)
  | [] => [[]]
  | c :: r => if c = 46 then [] :: sdot r else match sdot r with
    | [] => [[c]]
    | h :: t => (c :: h) :: t
theorem sdot_cons (l : List UInt8) : ∃ h t, sdot l = h :: t := by
  cases l with
  | nil => exact ⟨_, _, rfl⟩
  | cons c r =>
    rw [sdot]
    split
    · exact ⟨_, _, rfl⟩
    · split <;> exact ⟨_, _, rfl⟩
theorem sdot_none : ∀ {l : List UInt8}, (46 : UInt8) ∉ l → sdot l = [l]
  | [], _ => rfl
  | c :: r, h => by
    have hc : c ≠ 46 := fun e => h (by simp [e])
    rw [sdot, if_neg hc, sdot_none (l := r) (fun e => h (by simp [e]))]
theorem sdot_at : ∀ {a : List UInt8} (b : List UInt8), (46 : UInt8) ∉ a → sdot (a ++ 46 :: b) = a :: sdot b
  | [], b, _ => by rw [List.nil_append, sdot, if_pos rfl]
  | c :: r, b, h => by
    have hc : c ≠ 46 := fun e => h (by simp [e])
    rw [List.cons_append, sdot, if_neg hc, sdot_at (a := r) b (fun e => h (by simp [e]))]
theorem sdot_len : ∀ l : List UInt8, (sdot l).length ≤ l.length + 1
  | [] => by simp [sdot]
  | c :: r => by
    have := sdot_len r
    rw [sdot]
    split
    · simp; omega
    · split
      · simp
      · rename_i h t e
        rw [e] at this
        simp at this ⊢
        omega
theorem sdot_mem_len : ∀ (l : List UInt8) (t : List UInt8), t ∈ sdot l → t.length ≤ l.length
  | [], t, h => by simp [sdot] at h; simp [h]
  | c :: r, t, h => by
    have ih := sdot_mem_len r
    rw [sdot] at h
    split at h
    · rcases List.mem_cons.1 h with rfl | h
      · simp
      · have := ih t h; simp; omega
    · split at h
      · simp at h; subst h; simp
      · rename_i hd tl e
        rcases List.mem_cons.1 h with rfl | h
        · have := ih hd (by rw [e]; simp)
          simp; omega
        · have := ih t (by rw [e]; simp [h])
          simp; omega

/-- What the library's index of a point tells. -/
theorem sdot_index_none {l : List UInt8} (h : Lib.indexByte l 46 = -1) : sdot l = [l] :=
  sdot_none fun hm => by
    obtain ⟨k, hk⟩ := List.mem_iff_getElem?.1 hm
    exact Lib.indexByte_none h k hk
theorem sdot_index_some {l : List UInt8} {i : Nat} (h : Lib.indexByte l 46 = i) : i < l.length ∧ sdot l = l.take i :: sdot (l.drop (i + 1)) := by
  obtain ⟨h1, h2⟩ := Lib.indexByte_some h
  obtain ⟨hi, h3⟩ := List.getElem?_eq_some_iff.1 h1
  refine ⟨hi, ?_⟩
  have e : l = l.take i ++ 46 :: l.drop (i + 1) := by
    conv => lhs; rw [← List.take_append_drop i l]
    rw [List.drop_eq_getElem_cons hi, h3]
  conv => lhs; rw [e]
  refine sdot_at _ fun hm => ?_
  obtain ⟨k, hk⟩ := List.mem_iff_getElem?.1 hm
  rw [List.getElem?_take] at hk
  split at hk
  · rename_i hki
    exact h2 k hki hk
  · cases hk

/-- the text of names -/
def sjoin : List (List UInt8) → List UInt8
  | [] => []
  | [x] => x
  | x :: y :: r => x ++ 46 :: sjoin (y :: r)
theorem sjoin_lib : ∀ l : List (List UInt8), Lib.join l [46] = sjoin l
  | [] => rfl
  | [x] => by rw [Lib.join_one]; rfl
  | x :: y :: r => by
    rw [Lib.join_cons, sjoin, ← sjoin_lib (y :: r), Lib.join_cons]
    simp [Lib.joinTail]
theorem sjoin_sdot : ∀ l : List UInt8, sjoin (sdot l) = l
  | [] => rfl
  | c :: r => by
    have ih := sjoin_sdot r
    obtain ⟨h, t, e⟩ := sdot_cons r
    rw [sdot]
    split
    · rename_i hc
      rw [e] at ih ⊢
      rw [sjoin, ih, hc]; rfl
    · rw [e] at ih ⊢
      simp only
      cases t with
      | nil => simp [sjoin] at ih ⊢; exact ih
      | cons y q => rw [sjoin] at ih ⊢; rw [List.cons_append, ih]
theorem sdot_sjoin : ∀ {l : List (List UInt8)}, l ≠ [] → (∀ x ∈ l, (46 : UInt8) ∉ x) → sdot (sjoin l) = l
  | [], h, _ => absurd rfl h
  | [x], _, h => sdot_none (h x (by simp))
  | x :: y :: r, _, h => by
    rw [sjoin, sdot_at _ (h x (by simp)), sdot_sjoin (by simp) fun z hz => h z (by simp [List.mem_cons.1 hz])]
theorem sdot_no46 : ∀ (l : List UInt8), ∀ x ∈ sdot l, (46 : UInt8) ∉ x
  | [], x, h => by simp [sdot] at h; simp [h]
  | c :: r, x, h => by
    have ih := sdot_no46 r
    rw [sdot] at h
    split at h
    · rcases List.mem_cons.1 h with rfl | h
      · simp
      · exact ih x h
    · rename_i hc
      split at h
      · simp at h; subst h; simp; exact fun e => hc e.symm
      · rename_i hd tl e
        rcases List.mem_cons.1 h with rfl | h
        · have := ih hd (by rw [e]; simp)
          simp [this]; exact fun e => hc e.symm
        · exact ih x (by rw [e]; simp [h])

end Go.Proofs.YtpjikakbdahmfaaDoor
