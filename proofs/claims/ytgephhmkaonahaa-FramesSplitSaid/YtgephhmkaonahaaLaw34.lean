/- The walk of darninglaw34.FramesSplit: true, whatever the bytes, the frames, the schema, the root, the depth. -/
import Derived.Test.YtgephhmkaonahaaJoin
import Derived.Test.YtgephhmkaonahaaFew
namespace Go.Proofs.Ytgephhmkaonahaa
open Go.RowKit

/-- the frames' bytes; none if one is not there -/
def fsafe (l : List UInt8) : List (List UInt8) := if (badAt (evs l 0 0)).2 = 0 then (good (evs l 0 0)).map (Ev.load l) else []

theorem load_len (l : List UInt8) (e : Ev) : (Ev.load l e).length ≤ l.length := part_le l _ _
theorem good_len (l : List UInt8) : (good (evs l 0 0)).length ≤ l.length := by
  have h1 : (good (evs l 0 0)).length ≤ (evs l 0 0).length := List.length_filter_le _ _
  rcases evs_len l l.length 0 0 (by omega) with h | h <;> omega
theorem bytesL_nil (w : World) : BytesL w (.slice none 0 0) [] := ⟨[], rfl, ⟨rfl, by simp, none, 0, rfl, Nat.le_refl _, by omega, fun _ => rfl, fun j u hu => by simp at hu⟩, fun j hj => by simp at hj⟩

theorem frames_Split' {w : World} {v : Value} {l : List UInt8} (h : Bytes w v l) (hsm : l.length ≤ 1099511627776) :
    Calls Try.prog 10 #[v] w fun e w' => Below w.heap.size w w' ∧ ∃ xv, e = .returned (.tuple #[xv, .int .i64 (badAt (evs l 0 0)).1, .int .u8 (badAt (evs l 0 0)).2]) ∧ BytesL w' xv (fsafe l) := by
  refine (frames_Split h hsm).mono ?_
  rintro e w' ⟨hb, ⟨h1, lv, rfl, hr⟩ | ⟨x, h1, rfl⟩⟩
  · have h2 : badAt (evs l 0 0) = (0, 0) := by unfold badAt; rw [h1]
    have h3 : good (evs l 0 0) = evs l 0 0 := by
      unfold bad at h1
      rw [List.find?_eq_none] at h1
      exact List.filter_eq_self.2 fun e he => by have := h1 e he; simpa using this
    have hl := good_len l
    rw [h3] at hl
    refine ⟨hb, lv, by rw [h2]; rfl, ?_⟩
    unfold fsafe
    rw [h2, if_pos rfl, h3]
    exact hr.bytesL (by simp; omega) (fun m hm => by
      obtain ⟨e, -, rfl⟩ := List.mem_map.1 hm
      have := load_len l e; omega)
  · have h2 : badAt (evs l 0 0) = (x.at', x.c) := by unfold badAt; rw [h1]
    have hx : x.c ≠ 0 := by
      have := List.find?_some h1
      simpa using this
    refine ⟨hb, _, by rw [h2], ?_⟩
    unfold fsafe
    rw [h2, if_neg hx]
    exact bytesL_nil w'

theorem evs_code (l : List UInt8) : ∀ (k p i : Nat), l.length ≤ k + p → ∀ e ∈ evs l p i, e.c ≤ 4
  | 0, p, i, h => by rw [evs_end l p i (by omega)]; simp
  | k + 1, p, i, h => by
    by_cases hp : l.length ≤ p
    · rw [evs_end l p i hp]; simp
    · rcases fstep_cases l p (by omega) with ⟨c, -, hc, e⟩ | ⟨x, n, -, -, -, -, -, e⟩ | ⟨x, n, -, hn, hle, e⟩
      · rw [evs_bad l p i c (by omega) (by omega) e]
        intro e he
        simp at he; subst he; show c ≤ 4; omega
      · rw [evs_bad l p i 3 (by omega) (by omega) e]
        intro e he
        simp at he; subst he; show 3 ≤ 4; omega
      · rw [evs_good l p i _ _ (by omega) (by omega) e]
        intro e he
        rcases List.mem_cons.1 he with rfl | he
        · exact Nat.zero_le _
        · exact evs_code l k (p + n + x) (i + 1) (by omega) e he
theorem badAt_code (l : List UInt8) : (badAt (evs l 0 0)).2 ≤ 4 := by
  unfold badAt
  cases h : bad (evs l 0 0) with
  | none => exact Nat.zero_le _
  | some x => exact evs_code l l.length 0 0 (by omega) x (List.mem_of_find?_eq_some h)

theorem vloop_code (rec : Nat → List UInt8 → Nat × Nat) (deep : Bool) (fs : List Fld) (l : List UInt8) (hrec : ∀ o x, (rec o x).2 < 256) : ∀ (k i : Nat), (vloop rec deep fs l k i).2 < 256
  | 0, _ => by rw [vloop]; decide
  | k + 1, i => by
    rw [vloop]
    by_cases hi : l.length ≤ i
    · rw [if_pos hi]; decide
    rw [if_neg hi]
    have hv : (vlook fs l i).2.2.2 < 256 ∧ (vval rec deep fs l (vlook fs l i)).2 < 256 := by
      rcases vlook_cases fs l i with ⟨c, h, e, h2⟩ | ⟨r, h1, h2, h3, h4, -, e | ⟨j, run, -, e, -⟩⟩
      · rw [e]
        refine ⟨h2, ?_⟩
        unfold vval
        rw [if_neg (by simp)]
        simp only [Bool.false_eq_true, if_false]
        split
        · split <;> simp
        · split
          · split
            · simp
            · exact hrec _ _
          · simp
      · rw [e]; exact ⟨by simp, by simp [vval]⟩
      · rw [e]
        refine ⟨by simp, ?_⟩
        unfold vval
        rw [if_neg (by show ¬ ((j : Int) < 0); omega)]
        simp only [Int.toNat_natCast]
        split
        · have := runCount_lt (kwire (fs.getD j .zero).kind) (part l r.at' r.to)
          show (runCount _ _).2 < 256; omega
        · split
          · split <;> simp
          · split
            · split
              · simp
              · exact hrec _ _
            · simp
    by_cases hc : (vlook fs l i).2.2.2 ≠ 0
    · rw [if_pos hc]; exact hv.1
    rw [if_neg hc]
    by_cases hv2 : (vval rec deep fs l (vlook fs l i)).2 ≠ 0
    · rw [if_pos hv2]; exact hv.2
    · rw [if_neg hv2]; exact vloop_code rec deep fs l hrec k _
theorem vmsg_code (s : List Mes) : ∀ (d m : Nat) (l : List UInt8), (vmsg s d m l).2 < 256
  | 0, m, l => vloop_code _ _ _ l (fun _ _ => by decide) _ _
  | d + 1, m, l => vloop_code _ _ _ l (vmsg_code s d) _ _
theorem vcheck_code (s : List Mes) (root : Int) (l : List UInt8) (d : Int) : (vcheck s root l d).2 < 256 := by
  unfold vcheck
  by_cases h : argsCode s root d ≠ 0
  · rw [if_pos h]; have := args_cases s root d; show argsCode s root d < 256; omega
  · rw [if_neg h]; exact vmsg_code _ _ _ _
theorem fcheckGo_code (s : List Mes) (root d : Int) (l : List UInt8) : ∀ es : List Ev, (∀ e ∈ es, e.c ≤ 4) → (fcheckGo s root d l es).2.2 < 256
  | [], _ => by rw [fcheckGo]; decide
  | e :: r, h => by
    rw [fcheckGo]
    split
    · unfold fone
      split
      · have := h e (by simp); show e.c < 256; omega
      · exact vcheck_code _ _ _ _
    · exact fcheckGo_code s root d l r (fun x hx => h x (by simp [hx]))
theorem fcheck_code (s : List Mes) (root d : Int) (l : List UInt8) : (fcheck s root d l).2.2 < 256 := by
  unfold fcheck
  by_cases h : argsCode s root d ≠ 0
  · rw [if_pos h]; have := args_cases s root d; show argsCode s root d < 256; omega
  · rw [if_neg h]; exact fcheckGo_code s root d l _ (evs_code l l.length 0 0 (by omega))

set_option maxRecDepth 100000 in
set_option maxHeartbeats 4000000 in
theorem law34_alive (w : World) : Calls Try.prog 8 #[] w fun e w' => e = .returned (.bool true) ∧ Below w.heap.size w w' := by
  have hB := bytes_new w 5 #[.int .u8 1, .int .u8 97, .int .u8 0] [1, 97, 0] rfl (by simp)
  have HS := hid (frames_Split' hB (by simp))
  have e1 : badAt (evs [1, 97, 0] 0 0) = (0, 0) := by decide +kernel
  have e2 : fsafe [1, 97, 0] = [[97], []] := by decide +kernel
  rw [e1, e2] at HS
  clear hB e1 e2
  go_enter Try.func8, Try.ntmps8
  go_wp2_with fail
  refine HS.out.mono ?_
  rintro e w' ⟨hb, xv, rfl, hx⟩
  obtain ⟨-, a, cap, rfl, -, hat⟩ := hx.open
  obtain ⟨b, o, x0, rfl, c0, hb0⟩ := hat 0 (by simp)
  obtain ⟨b', o', x1, e', c1, hb1⟩ := hat 1 (by simp)
  cases e'
  have s0 := hb0.str
  obtain ⟨-, a0, q0, rfl, -, -, -, -⟩ := hb0.open
  obtain ⟨-, a1, q1, rfl, -, -, -, -⟩ := hb1.open
  have HB := hid (below_new hb)
  have hbl : b < w'.heap.size := World.block_lt_of_cell? w' _ c0
  clear hx hat hb0 hb1 hb
  simp only [List.length_cons, List.length_nil, Nat.zero_add, Nat.add_zero, List.getD_cons_zero, List.getD_cons_succ] at s0 c0 c1 ⊢
  go_wp2_with fail
  go_ret
  exact ⟨rfl, HB.out⟩

def lens (ls : List (List UInt8)) : Nat := (ls.map List.length).sum
theorem lens_take (ls : List (List UInt8)) (k : Nat) (hk : k < ls.length) : lens (ls.take (k + 1)) = lens (ls.take k) + (ls.getD k []).length := by
  have e : ls.getD k [] = ls[k] := by simp [List.getD, hk]
  rw [e, List.take_succ_eq_append_getElem hk]
  unfold lens
  rw [List.map_append, List.sum_append]
  simp
theorem lens_bd (ls : List (List UInt8)) (B : Nat) (h : ∀ k, k < ls.length → (ls.getD k []).length ≤ B) : ∀ k, k ≤ ls.length → lens (ls.take k) ≤ k * B
  | 0, _ => by simp [lens]
  | k + 1, hk => by
    rw [lens_take ls k (by omega), Nat.succ_mul]
    have := lens_bd ls B h k (by omega)
    have := h k (by omega)
    omega
theorem fjoin_len : ∀ (ls : List (List UInt8)), (∀ l ∈ ls, l.length < 2 ^ 64) → (fjoin ls).length ≤ lens ls + 10 * ls.length
  | [], _ => by simp [fjoin]
  | l :: r, h => by
    have h1 := fjoin_len r (fun x hx => h x (by simp [hx]))
    have h2 := vput_le (h l (by simp))
    unfold fjoin lens at *
    simp at h1 ⊢
    omega

set_option maxRecDepth 100000 in
set_option maxHeartbeats 8000000 in
theorem law34_FramesSplit {w : World} {vb vl vs : Value} {l : List UInt8} {ls : List (List UInt8)} {s : List Mes} (hb : Bytes w vb l) (hl : BytesL w vl ls) (hS : SchemaAt w vs s) (root d : Int) :
    Calls Try.prog 3 #[vb, vl, vs, .int .i64 root, .int .i64 d] w fun e w' => e = .returned (.bool true) ∧ Below w.heap.size w w' := by
  have HBY := hid hb
  have HLS := hid hl
  have HSC := hid hS
  obtain ⟨hlen, a, cap, rfl, -, -, -, -⟩ := hb.open
  obtain ⟨hnl, la, lcap, rfl, -, hat⟩ := hl.open
  obtain ⟨hslen, sa, scap, rfl, -⟩ := hS.open
  obtain ⟨ln, HN⟩ : ∃ ln, Hid (ln = l.length) := ⟨_, rfl⟩
  obtain ⟨n, HNL⟩ : ∃ n, Hid (n = ls.length) := ⟨_, rfl⟩
  obtain ⟨sn, HSN⟩ : ∃ sn, Hid (sn = s.length) := ⟨_, rfl⟩
  rw [← HN.out] at hlen HBY ⊢
  rw [← HNL.out] at hnl HLS hat ⊢
  rw [← HSN.out] at hslen HSC ⊢
  have HAT := hid hat
  clear hb hl hS hat
  go_enter Try.func3, Try.ntmps3
  go_wp2_with (go_at_call 8; refine (law34_alive _).mono ?_; rintro e w1 ⟨rfl, hb1⟩)
  have HB1 := hid hb1
  clear hb1
  go_loopw [11, 12] (fun v11 v12 wr => ∃ (z : Int) (k : Nat), v11 = .int .i64 z ∧ k ≤ n ∧ v12 = .int .i64 k ∧ Hid (k ≤ 40 → z = ((ln + lens (ls.take k) : Nat) : Int)) ∧ w1 = wr) (fun _ v12 _ => n - (intOf v12).toNat)
  case atStart => exact ⟨ln, 0, rfl, by omega, rfl, (by intro _; simp [lens] : (0 : Nat) ≤ 40 → (ln : Int) = ((ln + lens (ls.take 0) : Nat) : Int)), rfl⟩
  case round =>
    obtain ⟨z, k, rfl, hk, rfl, HZ, rfl⟩ := hrel
    by_cases hlt : k < n
    · have hat := HAT.out
      obtain ⟨b, o, xv, ha, cj, hbx⟩ := hat k hlt
      clear hat
      have hix := index_run1 under_rows size_rows ha k hlt (cap := lcap)
      have cj' := below_keeps HB1.out _ _ cj
      have hbl : b < w1.heap.size := World.block_lt_of_cell? w1 _ cj'
      obtain ⟨hxl, xa, xc, rfl, -, -, -, -⟩ := hbx.open
      have hst := lens_take ls k (by rw [← HNL.out]; exact hlt)
      obtain ⟨xn, HXN⟩ : ∃ xn, Hid (xn = (ls.getD k []).length) := ⟨_, rfl⟩
      rw [← HXN.out] at hst hxl cj'
      have HST := hid hst
      clear ha cj hbx hst
      by_cases h40 : k < 40
      · have hz := HZ.out (by omega)
        have hbd := lens_bd ls 140737488355328 (fun j hj => by
          obtain ⟨_, _, _, _, _, hb⟩ := HAT.out j (by rw [HNL.out]; exact hj)
          exact hb.open.1) k (by rw [← HNL.out]; exact hk)
        obtain ⟨q, HQ⟩ : ∃ q, Hid (q = ln + lens (ls.take k)) := ⟨_, rfl⟩
        rw [← HQ.out] at hz
        have hq : q ≤ 41 * 140737488355328 := by rw [HQ.out]; have : k * 140737488355328 ≤ 40 * 140737488355328 := Nat.mul_le_mul_right _ (by omega); omega
        subst hz
        clear hbd HZ
        go_wp2_with fail
        go_roundw
        case rel => exact ⟨_, k + 1, rfl, hlt, by go_num, fun _ => by rw [HST.out, HQ.out]; omega, trivial⟩
        case measure => simp [intOf]; omega
      · go_wp2_with fail
        go_roundw
        case rel => exact ⟨_, k + 1, rfl, hlt, by go_num, fun h => by omega, trivial⟩
        case measure => simp [intOf]; omega
    · obtain rfl : k = n := by omega
      by_cases hz : 2500 < z
      · go_wp2_with fail
        go_ret
        exact ⟨rfl, HB1.out⟩
      · by_cases h40 : 40 < k
        · go_wp2_with fail
          go_ret
          exact ⟨rfl, HB1.out⟩
        · have hzz := HZ.out (by omega)
          rw [List.take_of_length_le (by rw [HNL.out]; exact Nat.le_refl _)] at hzz
          have hln : ln ≤ 2500 := by omega
          have hls : lens ls ≤ 2500 := by omega
          have HLN := hid hls
          have HT : Hid ((fjoin ls).length ≤ 1099511627776) := by
            have := fjoin_len ls (fun x hx => by
              obtain ⟨j, hj, rfl⟩ := List.getElem_of_mem hx
              obtain ⟨_, _, _, _, _, hb⟩ := HAT.out j (by rw [HNL.out]; exact hj)
              have h9 := hb.open.1
              have e : ls.getD j [] = ls[j] := by simp [List.getD, hj]
              rw [e] at h9; omega)
            rw [← HNL.out] at this
            show _ ≤ _
            omega
          have HFEW := hid (law07_Few (HSC.out.below HB1.out))
          clear hzz hls HZ
          go_wp2_with fail
          refine HFEW.out.mono ?_
          rintro e w2 ⟨⟨bb, rfl⟩, hb2⟩
          have HB2 := hid (HB1.out.trans (hb2.mono HB1.out.size))
          clear hb2 HFEW HB1
          cases bb with
          | false =>
            go_wp2_with fail
            go_ret
            exact ⟨rfl, HB2.out⟩
          | true =>
            obtain ⟨p, HP⟩ : ∃ p, Hid (p = (badAt (evs l 0 0)).1) := ⟨_, rfl⟩
            obtain ⟨c, HC⟩ : ∃ c, Hid (c = (badAt (evs l 0 0)).2) := ⟨_, rfl⟩
            have HGL : Hid ((good (evs l 0 0)).length ≤ 2500) := by have := good_len l; have := HN.out; show _ ≤ _; omega
            go_wp2_with fail
            refine (frames_Split' (HBY.out.below HB2.out) (by have := HN.out; omega)).mono ?_
            rintro e w3 ⟨hb3, xv, rfl, hx⟩
            rw [← HP.out, ← HC.out]
            have HB3 := hid (HB2.out.trans (hb3.mono HB2.out.size))
            clear hb3 HB2
            go_wp2_with fail
            refine (ref34_Split (HBY.out.below HB3.out) (by have := HN.out; omega)).mono ?_
            rintro e w4 ⟨hb4, wv, rfl, hw⟩
            rw [← HP.out, ← HC.out]
            have HB4 := hid (HB3.out.trans (hb4.mono HB3.out.size))
            replace hx := hx.keep (below_keeps hb4)
            clear hb4 HB3
            obtain ⟨G, HG⟩ : ∃ G, Hid (G = fsafe l) := ⟨_, rfl⟩
            rw [← HG.out] at hx
            have hG : G = if c = 0 then (good (evs l 0 0)).map (Ev.load l) else [] := by rw [HG.out, HC.out]; rfl
            have HGG := hid hG
            have HXL := hid hx
            clear hG
            obtain ⟨hgb, xa, xcap, rfl, -, hxat⟩ := hx.open
            have HXAT := hid hxat
            clear hx hxat
            obtain ⟨gn, HGN⟩ : ∃ gn, Hid (gn = G.length) := ⟨_, rfl⟩
            rw [← HGN.out] at HXAT HXL hgb ⊢
            have hc4 : c ≤ 4 := by have := badAt_code l; rw [HC.out]; exact this
            have wc : IntKind.i64.wrap (c : Int) = c := IntWalk.i64_in _ (by omega)
            by_cases hc : c = 0
            · subst hc
              rw [show (good (evs l 0 0)).map (Ev.load l) = G by rw [HGG.out, if_pos rfl]] at hw
              have HWL := hid hw
              obtain ⟨-, wa, wcap, rfl, -, hwat⟩ := hw.open
              have HWAT := hid hwat
              rw [← HGN.out] at HWAT HWL ⊢
              clear hw hwat
              go_wp2_with fail
              refine (frames_Join (HLS.out.keep (below_keeps HB4.out)) HT.out).mono ?_
              rintro e w5 ⟨j1, rfl, hj1, hb5⟩
              have HJ1 := hid (hj1.bytes (by have := HT.out; omega))
              have HB5 := hid (HB4.out.trans (hb5.mono HB4.out.size))
              have HX5 := hid (below_keeps hb5)
              clear hj1 hb5
              go_wp2_with fail
              refine (ref34_Join (HLS.out.keep (below_keeps HB5.out)) HT.out).mono ?_
              rintro e w6 ⟨j2, rfl, hj2, hb6⟩
              have HJ2 := hid (hj2.bytes (by have := HT.out; omega))
              have HB6 := hid (HB5.out.trans (hb6.mono HB5.out.size))
              have HJ1' := hid (HJ1.out.below hb6)
              have HX6 := hid (fun p u (h : w4.cell? p = some u) => below_keeps hb6 p u (HX5.out p u h))
              clear hj2 hb6
              go_wp2_with fail
              refine (ref01_Same HJ1'.out HJ2.out).mono ?_
              rintro e w6' ⟨rfl, rfl⟩
              rw [decide_eq_true (rfl : fjoin ls = fjoin ls)]
              go_wp2_with fail
              go_loopw [19] (fun v19 wr => ∃ j : Nat, j ≤ gn ∧ v19 = .int .i64 j ∧ Hid (Below w6.heap.size w6 wr)) (fun v19 _ => gn - (intOf v19).toNat)
              case atStart => exact ⟨0, by omega, rfl, Below.refl _ _⟩
              case round =>
                obtain ⟨j, hj, rfl, HBR⟩ := hrel
                by_cases hlt2 : j < gn
                · obtain ⟨b1, o1, x1, ha1, cx, hbx⟩ := HXAT.out j hlt2
                  obtain ⟨b2, o2, x2, ha2, cw, hbw⟩ := HWAT.out j hlt2
                  have hix1 := index_run1 under_rows size_rows ha1 j hlt2 (cap := xcap)
                  have hix2 := index_run1 under_rows size_rows ha2 j hlt2 (cap := wcap)
                  have k1 := below_keeps HBR.out _ _ (HX6.out _ _ cx)
                  have k2 := below_keeps HBR.out _ _ (HX6.out _ _ cw)
                  have bl1 : b1 < wr.heap.size := World.block_lt_of_cell? wr _ k1
                  have bl2 : b2 < wr.heap.size := World.block_lt_of_cell? wr _ k2
                  have HB1x := hid ((hbx.keep (fun p u h => HX6.out p u h)).keep (below_keeps HBR.out))
                  have HB2x := hid ((hbw.keep (fun p u h => HX6.out p u h)).keep (below_keeps HBR.out))
                  obtain ⟨-, y1, z1, rfl, -, -, -, -⟩ := hbx.open
                  obtain ⟨-, y2, z2, rfl, -, -, -, -⟩ := hbw.open
                  obtain ⟨gj, HGJ⟩ : ∃ gj, Hid (gj = G.getD j []) := ⟨_, rfl⟩
                  rw [← HGJ.out] at HB1x HB2x k1 k2
                  have HSAME : Hid (∀ nq, Calls Try.prog 12 #[.slice y1 gj.length z1, .slice y2 gj.length z2] (wr.drewN nq) fun e w' => e = .returned (.bool true) ∧ wr.drewN nq = w') := by
                    intro nq
                    have := ref01_Same (HB1x.out.drewN nq) (HB2x.out.drewN nq)
                    rwa [decide_eq_true (rfl : gj = gj)] at this
                  clear ha1 ha2 cx cw hbx hbw
                  go_wp2_with fail
                  go_quiet ((go_at_call 12; exact quiet_eq (HSAME.out _)))
                  go_wp2_with fail
                  go_roundw
                  case rel => exact ⟨j + 1, hlt2, by go_num, below_drewN HBR.out _⟩
                  case measure => simp [intOf]; omega
                · obtain rfl : j = gn := by omega
                  have HBR2 := hid (HB6.out.trans (HBR.out.mono HB6.out.size))
                  have hfc := fcheck_code s root d l
                  have HFC := hid (frames_Check (HSC.out.below HBR2.out) (HBY.out.below HBR2.out) root d)
                  have HFR := hid (fun w8 (hb8 : Below wr.heap.size wr w8) => ref34_Check (HSC.out.below (HBR2.out.trans (hb8.mono HBR2.out.size))) (HBY.out.below (HBR2.out.trans (hb8.mono HBR2.out.size))) (by rw [← HN.out]; omega) root d)
                  obtain ⟨f, HF⟩ : ∃ f, Hid (f = fcheck s root d l) := ⟨_, rfl⟩
                  rw [← HF.out] at HFC HFR hfc
                  obtain ⟨f1, f2, f3⟩ := f
                  simp only at hfc
                  have wf : IntKind.i64.wrap (f3 : Int) = f3 := IntWalk.i64_in _ (by omega)
                  go_wp2_with (first | (go_at_call 15; refine HFC.out.mono ?_; rintro e w7 ⟨rfl, hb7⟩) | (go_at_call 16; refine (HFR.out _ (by assumption)).mono ?_; rintro e w8 ⟨rfl, hb8⟩))
                  go_ret
                  exact ⟨rfl, (HBR2.out.trans (hb7.mono HBR2.out.size)).trans (hb8.mono (Nat.le_trans HBR2.out.size hb7.size))⟩
            · have hG0 : G = [] := by rw [HGG.out, if_neg hc]
              obtain rfl : gn = 0 := by rw [HGN.out, hG0]; rfl
              have HWAT : Hid (∀ (k : Nat), k < 0 → ∃ b o x, (none : Option Addr) = some ⟨b, o, none⟩ ∧ w4.cell? ⟨b, o + k, none⟩ = some x ∧ Bytes w4 x (G.getD k [])) := by intro k hk; omega
              obtain ⟨wcap, HWC⟩ : ∃ wcap : Nat, Hid (wcap = 0) := ⟨0, rfl⟩
              have ec : ((c : Int) != 0) = true := by simp; omega
              obtain ⟨-, wa', wcap', rfl, -, -⟩ := hw.open
              obtain ⟨gl, HGLN⟩ : ∃ gl, Hid (gl = ((good (evs l 0 0)).map (Ev.load l)).length) := ⟨_, rfl⟩
              rw [← HGLN.out]
              clear hw hG0 hc
              go_wp2_with fail
              refine (frames_Join (HLS.out.keep (below_keeps HB4.out)) HT.out).mono ?_
              rintro e w5 ⟨j1, rfl, hj1, hb5⟩
              have HJ1 := hid (hj1.bytes (by have := HT.out; omega))
              have HB5 := hid (HB4.out.trans (hb5.mono HB4.out.size))
              have HX5 := hid (below_keeps hb5)
              clear hj1 hb5
              go_wp2_with fail
              refine (ref34_Join (HLS.out.keep (below_keeps HB5.out)) HT.out).mono ?_
              rintro e w6 ⟨j2, rfl, hj2, hb6⟩
              have HJ2 := hid (hj2.bytes (by have := HT.out; omega))
              have HB6 := hid (HB5.out.trans (hb6.mono HB5.out.size))
              have HJ1' := hid (HJ1.out.below hb6)
              have HX6 := hid (fun p u (h : w4.cell? p = some u) => below_keeps hb6 p u (HX5.out p u h))
              clear hj2 hb6
              go_wp2_with fail
              refine (ref01_Same HJ1'.out HJ2.out).mono ?_
              rintro e w6' ⟨rfl, rfl⟩
              rw [decide_eq_true (rfl : fjoin ls = fjoin ls)]
              go_wp2_with fail
              go_loopw [19] (fun v19 wr => ∃ j : Nat, j ≤ 0 ∧ v19 = .int .i64 j ∧ Hid (Below w6.heap.size w6 wr)) (fun v19 _ => 0 - (intOf v19).toNat)
              case atStart => exact ⟨0, by omega, rfl, Below.refl _ _⟩
              case round =>
                obtain ⟨j, hj, rfl, HBR⟩ := hrel
                by_cases hlt2 : j < 0
                · exact absurd hlt2 (by omega)
                · obtain rfl : j = 0 := by omega
                  have HBR2 := hid (HB6.out.trans (HBR.out.mono HB6.out.size))
                  have hfc := fcheck_code s root d l
                  have HFC := hid (frames_Check (HSC.out.below HBR2.out) (HBY.out.below HBR2.out) root d)
                  have HFR := hid (fun w8 (hb8 : Below wr.heap.size wr w8) => ref34_Check (HSC.out.below (HBR2.out.trans (hb8.mono HBR2.out.size))) (HBY.out.below (HBR2.out.trans (hb8.mono HBR2.out.size))) (by rw [← HN.out]; omega) root d)
                  obtain ⟨f, HF⟩ : ∃ f, Hid (f = fcheck s root d l) := ⟨_, rfl⟩
                  rw [← HF.out] at HFC HFR hfc
                  obtain ⟨f1, f2, f3⟩ := f
                  simp only at hfc
                  have wf : IntKind.i64.wrap (f3 : Int) = f3 := IntWalk.i64_in _ (by omega)
                  go_wp2_with (first | (go_at_call 15; refine HFC.out.mono ?_; rintro e w7 ⟨rfl, hb7⟩) | (go_at_call 16; refine (HFR.out _ (by assumption)).mono ?_; rintro e w8 ⟨rfl, hb8⟩))
                  go_ret
                  exact ⟨rfl, (HBR2.out.trans (hb7.mono HBR2.out.size)).trans (hb8.mono (Nat.le_trans HBR2.out.size hb7.size))⟩

end Go.Proofs.Ytgephhmkaonahaa
