/- Parts of a proof: texts of the author, merged. No condition of their own. -/
import Derived.Test.YtaefpjecalnbcaaGreatZ08
import Derived.Test.YtaefpjecalnbcaaGreatZ13
import Derived.Test.YtaefpjecalnbcaaGreatZ18
import Derived.Test.YtaefpjecalnbcaaGreatZ19
import Derived.Test.YtaefpjecalnbcaaGreatZ24
import Derived.Test.YtaefpjecalnbcaaGreatZ30
import Derived.Deep.RegionLaw
import Derived.Deep.CutBlock
namespace Go.Proofs.YtaefpjecalnbcaaGreat
def plainM : (d : Nat) → M d → M d
  | 0, x => x
  | d + 1, x => (⟨(M.vals x).map fun v => ⟨v.num, v.words, v.texts, v.subs.map (plainM d)⟩, []⟩ : Msgd (M d))
end Go.Proofs.YtaefpjecalnbcaaGreat
namespace Go.Proofs.YtaefpjecalnbcaaGreat
open Go.RowKit Go.Shelf
theorem msg_formP {d : Nat} {w : World} {v1 v2 : Value} {x : M d} (h : MsgAt d w (.agg #[v1, v2]) x) : ∃ a n c a' n' c', v1 = .slice a n c ∧ v2 = .slice a' n' c' := by
  obtain ⟨a, n, c, a', n', c', e⟩ := h.form
  cases e
  exact ⟨_, _, _, _, _, _, rfl, rfl⟩
def RPlainOk (w0 : World) (d : Nat) : Prop := ∀ (w : World) (v : Value) (x : M d), Below w0.heap.size w0 w → MsgAt d w0 v x → mwt d x ≤ 1099511627776 →
  Calls Tryz.prog 20 #[v] w fun e w' => ∃ v', e = .returned v' ∧ Below w.heap.size w w' ∧ Apart w0.heap.size w.heap.size w' fun w2 => MsgAt d w2 v' (plainM d x)
def plainV (d : Nat) (v : Val (M d)) : Val (M d) := ⟨v.num, v.words, v.texts, v.subs.map (plainM d)⟩
set_option maxRecDepth 100000 in
set_option maxHeartbeats 16000000 in
theorem ref15_Plain_step {w0 : World} (d : Nat) (hrec : RPlainOk w0 d) : RPlainOk w0 (d + 1) := by
  intro w v x hw hx hwt
  have HWT := hid hwt
  have HRE := hid hrec
  obtain ⟨vv, uv, rfl, hV, hU⟩ := hx
  obtain ⟨-, va, vc, rfl, -, hva⟩ := hV.open
  obtain ⟨-, ua, uc, huv, -, -⟩ := hU.open
  obtain ⟨un, HUN⟩ : ∃ n, Hid (n = (M.unk x).length) := ⟨_, rfl⟩
  obtain ⟨vn, HVN⟩ : ∃ n, Hid (n = (M.vals x).length) := ⟨_, rfl⟩
  rw [← HUN.out] at huv
  subst huv
  rw [← HVN.out] at hV ⊢
  have hvn : vn ≤ 1099511627776 := by rw [HVN.out]; exact (unk_len x hwt).2
  obtain ⟨Q, HQ⟩ : ∃ Q : Ending → World → Prop, Hid (Q = fun e w' => ∃ v', e = .returned v' ∧ Below w.heap.size w w' ∧ Apart w0.heap.size w.heap.size w' fun w2 => MsgAt (d + 1) w2 v' (plainM (d + 1) x)) := ⟨_, rfl⟩
  rw [← HQ.out]
  obtain ⟨X, HX⟩ : ∃ X, Hid (X = w.heap.size) := ⟨_, rfl⟩
  have HHW := hid hw
  have HVA := hid hva
  clear hw hva hV hU hrec hwt
  have h3 := news3 w [.slice va vn vc, .slice ua un uc] [.slice none 0 0, .slice none 0 0] [.slice none 0 0, .slice none 0 0] 35 35 35
  obtain ⟨W1, HW1⟩ : ∃ W1, Hid (W1 = ((w.alloc (.cells #[.slice va vn vc, .slice ua un uc] 35)).alloc (.cells #[.slice none 0 0, .slice none 0 0] 35)).alloc (.cells #[.slice none 0 0, .slice none 0 0] 35)) := ⟨_, rfl⟩
  rw [← HW1.out, ← HX.out] at h3
  obtain ⟨hx1, hr1, ho1, hz1, hb1⟩ := h3
  have HX1 := hid hx1
  have HR1 := hid hr1
  have HO1 : Hid (OutB (ValP' d) 71 4 w0.heap.size 35 (X + 1 + 1) [] [(.slice none 0 0)] W1 W1 (.slice none 0 0) []) := OutB.start ho1
  have HB1 := hid hb1
  have HN0 : Hid (w0.heap.size ≤ X) := by rw [HX.out]; exact HHW.out.size
  have HBW : Hid (∀ wr, Below (X + 1 + 1) W1 wr → Below X w wr) := fun wr h => HB1.out.trans (h.mono (by omega))
  clear hx1 hr1 ho1 hz1 hb1
  have HFIN : Hid (∀ (W : World) (v' : Value), OutB (ValP' d) 71 4 w0.heap.size 35 (X + 1 + 1) [] [(.slice none 0 0)] W1 W v' ((M.vals x).map (plainV d)) → Q (.returned (.agg #[v', (.slice none 0 0)])) ((W.setCell ⟨X + 1, 0, none⟩ v').setCell ⟨X + 1, 1, none⟩ (.slice none 0 0))) := by
    intro W v' hO
    have hB : Below X w ((W.setCell ⟨X + 1, 0, none⟩ v').setCell ⟨X + 1, 1, none⟩ (.slice none 0 0)) := ((HBW.out W hO.below).setCell (by show X ≤ X + 1; omega) _).setCell (by show X ≤ X + 1; omega) _
    rw [HQ.out]
    refine ⟨_, rfl, by rw [← HX.out]; exact hB, fun w2 hw2 => ?_⟩
    rw [← HX.out] at hw2
    have hag : ∀ b, b < W.heap.size → (b < w0.heap.size ∨ X + 1 + 1 + 1 ≤ b) → w2.heap[b]? = W.heap[b]? := by
      intro b hlt hc
      have hne : b ≠ X + 1 := by have := HN0.out; omega
      refine (hw2 b (by simpa using hlt) (hc.imp id fun h => by omega)).trans ?_
      rw [Below.heap_setCell _ _ _ b hne, Below.heap_setCell _ _ _ b hne]
    exact ⟨v', (.slice none 0 0), rfl, hO.at (by rw [List.length_map, ← HVN.out]; omega) hag, strs_none w2⟩
  go_enter Tryz.func20, Tryz.ntmps20
  go_wp2_with fail
  rw [← HW1.out, ← HX.out]
  go_loopw [4] (fun v4 wr => ∃ (i : Nat) (oa : Option Addr) (oc : Nat), v4 = .int .i64 (i : Int) ∧ i ≤ vn ∧ Hid (OutB (ValP' d) 71 4 w0.heap.size 35 (X + 1 + 1) [] [(.slice none 0 0)] W1 wr (.slice oa i oc) (((M.vals x).take i).map (plainV d)))) (fun v4 _ => vn - (intOf v4).toNat)
  case atStart => exact ⟨0, none, 0, rfl, by omega, HO1.out⟩
  case round =>
    obtain ⟨i, oa, oc, rfl, hi, HJ⟩ := hrel
    have hX1 : Blk wr X [.slice va vn vc, .slice ua un uc] 35 := (HJ.out.below.block X (by omega)).trans HX1.out
    have hXl := hX1.lt
    have x0 := hX1.cell 0 _ rfl
    by_cases hlt : i < vn
    · obtain ⟨v, hv⟩ : ∃ v, (M.vals x)[i]? = some v := ⟨_, List.getElem?_eq_getElem (by rw [← HVN.out]; exact hlt)⟩
      have HBW0 := hid (HBW.out wr HJ.out.below)
      have HB0 := hid (HHW.out.trans ((HBW0.out.mono (Nat.le_of_eq HX.out.symm)).mono HHW.out.size))
      obtain ⟨b, o', v1, v2, v3, ha, g0, g1, g2, g3, hM⟩ := HVA.out i v hv
      obtain ⟨wv, tv, sv, hform, hnum, hWo, hTe, hSu⟩ := hM
      obtain ⟨-, a1, q1, rfl, -, -⟩ := hWo.open
      obtain ⟨-, a2, q2, rfl, -, -⟩ := hTe.open
      obtain ⟨hsl, a3, q3, rfl, -, hsa⟩ := hSu.open
      obtain ⟨rfl, rfl, rfl⟩ : v1 = .slice a1 v.words.length q1 ∧ v2 = .slice a2 v.texts.length q2 ∧ v3 = .slice a3 v.subs.length q3 := by cases hform; exact ⟨rfl, rfl, rfl⟩
      clear hform
      obtain ⟨num, HNUM⟩ : ∃ n, Hid (n = v.num) := ⟨_, rfl⟩
      obtain ⟨n1, HN1⟩ : ∃ n, Hid (n = v.words.length) := ⟨_, rfl⟩
      obtain ⟨n2, HN2⟩ : ∃ n, Hid (n = v.texts.length) := ⟨_, rfl⟩
      obtain ⟨n3, HN3⟩ : ∃ n, Hid (n = v.subs.length) := ⟨_, rfl⟩
      rw [← HNUM.out] at g0 hnum
      rw [← HN1.out] at g1 hWo
      rw [← HN2.out] at g2 hTe
      rw [← HN3.out] at g3 hSu
      have hkr := below_keeps HB0.out
      replace g0 := hkr _ _ g0
      replace g1 := hkr _ _ g1
      replace g2 := hkr _ _ g2
      replace g3 := hkr _ _ g3
      have hix := index_run Tryz.underlying33 size_rval' ha i hlt (cap := vc)
      have hbl := World.block_lt_of_cell? wr _ g0
      have HVW : Hid (vwt (mwt d) v ≤ 1099511627776) := by
        have h1 := mem_sum_le (vwt (mwt d)) (M.vals x) v (List.mem_of_getElem? hv)
        have h2 := HWT.out
        have e : mwt (d + 1) x = 1 + twt (M.unk x) + ((M.vals x).map (vwt (mwt d))).sum := rfl
        show _ ≤ _
        omega
      have HTK : Hid (((M.vals x).take (i + 1)).map (plainV d) = ((M.vals x).take i).map (plainV d) ++ [plainV d v]) := by rw [Hid, List.take_add_one, hv, List.map_append]; rfl
      have HLEN : Hid ((((M.vals x).take i).map (plainV d)).length = i) := by rw [Hid, List.length_map, List.length_take, ← HVN.out]; omega
      have hn3 : n3 ≤ 1099511627776 := by
        have h1 := sub_count v.subs d rfl
        have h2 := HVW.out
        have e : vwt (mwt d) v = 1 + v.words.length + twt v.texts + (v.subs.map (mwt d)).sum := rfl
        rw [HN3.out]; omega
      obtain ⟨B, HBB⟩ : ∃ B, Hid (B = wr.heap.size) := ⟨_, rfl⟩
      obtain ⟨W6, HW6⟩ : ∃ W6, Hid (W6 = wr.alloc (.cells #[.int .i64 num, .slice a1 n1 q1, .slice a2 n2 q2, .slice a3 n3 q3] 71)) := ⟨_, rfl⟩
      have hb6 : Below wr.heap.size wr W6 := by rw [HW6.out]; exact (Below.refl _ _).alloc (Nat.le_refl _) _
      have hz6 : W6.heap.size = B + 1 := by rw [HW6.out, HBB.out]; simp
      have hv6 : Blk W6 B [.int .i64 num, .slice a1 n1 q1, .slice a2 n2 q2, .slice a3 n3 q3] 71 := by rw [HW6.out, HBB.out]; exact Blk.new wr [.int .i64 num, .slice a1 n1 q1, .slice a2 n2 q2, .slice a3 n3 q3] _
      obtain ⟨W7, HW7⟩ : ∃ W7, Hid (W7 = W6.alloc (.cells #[.int .i64 num, .slice a1 n1 q1, .slice a2 n2 q2, .slice none 0 0] 71)) := ⟨_, rfl⟩
      have hb7 : Below W6.heap.size W6 W7 := by rw [HW7.out]; exact (Below.refl _ _).alloc (Nat.le_refl _) _
      have hw7 : Blk W7 (B + 1) ([.int .i64 num, .slice a1 n1 q1, .slice a2 n2 q2] ++ .slice none 0 0 :: []) 71 := by rw [HW7.out, ← hz6]; exact Blk.new W6 [.int .i64 num, .slice a1 n1 q1, .slice a2 n2 q2, .slice none 0 0] _
      have HV7 := hid (hv6.below hb7)
      have HB7 := hid (hb6.trans (hb7.mono hb6.size))
      have HO7 : Hid (OutB (SubP d) 35 2 w0.heap.size 71 (B + 1) [.int .i64 num, .slice a1 n1 q1, .slice a2 n2 q2] [] W7 W7 (.slice none 0 0) []) := OutB.start hw7
      have d0 := hv6.cell 0 _ rfl
      have d1 := hv6.cell 1 _ rfl
      have d2 := hv6.cell 2 _ rfl
      have d3 := hv6.cell 3 _ rfl
      have dl := hv6.lt
      have HWTS := hid (And.intro hnum (And.intro hWo hTe))
      have HSA := hid hsa
      have HVV := hid hv
      clear hv hkr hb6 hv6 hb7 hw7 ha hnum hWo hTe hSu hsl hsa
      go_upto_region 6 with fail
      rw [← HW6.out, ← HBB.out]
      clear g0 g1 g2 g3 hix hbl x0 hXl hX1
      go_upto_region 7 with fail
      rw [← HW7.out]
      clear d0 d1 d2 d3 dl
      go_upto_region 8 with fail
      obtain ⟨w5, hw5⟩ : ∃ u, u = wr := ⟨_, rfl⟩
      rw [← hw5] at HJ HB7 HBB HB0 HBW0
      clear hw5
      go_loopw [7] (fun v7 wr => ∃ (k : Nat) (sa : Option Addr) (sc : Nat), v7 = .int .i64 (k : Int) ∧ k ≤ n3 ∧ Hid (OutB (SubP d) 35 2 w0.heap.size 71 (B + 1) [.int .i64 num, .slice a1 n1 q1, .slice a2 n2 q2] [] W7 wr (.slice sa k sc) ((v.subs.take k).map (plainM d)))) (fun v7 _ => n3 - (intOf v7).toNat)
      case atStart => exact ⟨0, none, 0, rfl, by omega, HO7.out⟩
      case round =>
        obtain ⟨k, sa, sc, rfl, hk, HI⟩ := hrel
        have hB57 : Below w5.heap.size w5 wr := HB7.out.trans (HI.out.below.mono (by rw [← HBB.out]; omega))
        have HB5 := hid hB57
        have HB0r := hid (HB0.out.trans (hB57.mono HB0.out.size))
        have hVB : Blk wr B [.int .i64 num, .slice a1 n1 q1, .slice a2 n2 q2, .slice a3 n3 q3] 71 := (HI.out.below.block B (by omega)).trans HV7.out
        have HVBr := hid hVB
        have d3 := hVB.cell 3 _ rfl
        have dl := hVB.lt
        have HI3 := HI.out.cell 3 _ rfl
        have hil := HI.out.lt
        have hif := HI.out.free 3
        by_cases hlk : k < n3
        · obtain ⟨y, hy⟩ : ∃ y, v.subs[k]? = some y := ⟨_, List.getElem?_eq_getElem (by rw [← HN3.out]; exact hlk)⟩
          obtain ⟨b, o, v1, v2, ha, g0, g1, hM⟩ := HSA.out k y hy
          have HMY : Hid (mwt d y ≤ 1099511627776) := by
            have h1 := mem_sum_le (mwt d) v.subs y (List.mem_of_getElem? hy)
            have h2 := HVW.out
            have e : vwt (mwt d) v = 1 + v.words.length + twt v.texts + (v.subs.map (mwt d)).sum := rfl
            show _ ≤ _
            omega
          have HTKS : Hid ((v.subs.take (k + 1)).map (plainM d) = (v.subs.take k).map (plainM d) ++ [plainM d y]) := by rw [Hid, List.take_add_one, hy, List.map_append]; rfl
          have HSL : Hid (((v.subs.take k).map (plainM d)).length = k) := by rw [Hid, List.length_map, List.length_take, ← HN3.out]; omega
          have hkr := below_keeps HB0r.out
          have hge : b < B := by have h1 : b < w0.heap.size := World.block_lt_of_cell? w0 _ g0; have := HB0.out.size; have := HBB.out; omega
          replace g0 := hkr _ _ g0
          replace g1 := hkr _ _ g1
          obtain ⟨z1, m1, r1, z2, m2, r2, e1, e2⟩ := msg_formP hM
          subst e1
          subst e2
          have hix := index_run Tryz.underlying43 size_rmsg ha k hlk (cap := q3)
          have gl := World.block_lt_of_cell? wr _ g0
          have HC := hid (HRE.out wr.drew _ y HB0r.out.drew hM HMY.out)
          clear hM hy hkr ha hVB
          go_upto_region 10 with fail
          have e0 : wr.drew.cell? ⟨B + 1, 3, none⟩ = some (.slice sa k sc) := HI3
          have k01 : wr.drew.cell? ⟨B, 3, none⟩ = some (.slice a3 n3 q3) := d3
          have k02 : wr.drew.cell? ⟨b, o + k * 2, none⟩ = some (.slice z1 m1 r1) := g0
          have k03 : wr.drew.cell? ⟨b, o + k * 2 + 1, none⟩ = some (.slice z2 m2 r2) := g1
          have HN3 : Hid (w0.heap.size ≤ B + 1) := by have := HB0.out.size; have := HBB.out; show _ ≤ _; omega
          have HGE : Hid (b < B) := hge
          go_wp2_with fail
          go_region_law (first | (go_simp; go_at_call 20; (with_reducible refine HC.out.mono ?_); rintro e w1 ⟨vm, rfl, hbm, hap⟩; obtain ⟨p1, p1n, p1c, p2, p2n, p2c, rfl⟩ := hap.here.form; have hk1 : ∀ p u, wr.drew.cell? p = some u → w1.cell? p = some u := below_keeps hbm; have e1 : w1.cell? ⟨B + 1, 3, none⟩ = some (.slice sa k sc) := hk1 _ _ e0; have k11 := hk1 _ _ k01; have k12 := hk1 _ _ k02; have k13 := hk1 _ _ k03; obtain ⟨a5, c5, w9, hr9, hB4, hB9, ⟨e5, z3, l9, -⟩, hO9⟩ := HI.out.step ((Below.refl wr.heap.size wr).drew.trans hbm) (by decide) HN3.out HSL.out 43 _ 48 Tryz.underlying43 info_rmsg rfl #[.slice p1 p1n p1c, .slice p2 p2n p2c] rfl (by intro u hu; simp at hu; rcases hu with rfl | rfl <;> rfl) (plainM d y) hap (by omega) (by decide) 3 rfl; have e4 := (hB4.cell (p := ⟨B + 1, 3, none⟩) (by show B + 1 < B + 1 + 1; omega)).trans HI3; have k31 := (hB9.cell (p := ⟨B, 3, none⟩) (by show B < B + 1 + 1; omega)).trans d3; have k32 := (hB9.cell (p := ⟨b, o + k * 2, none⟩) (by show b < B + 1 + 1; have := HGE.out; omega)).trans g0; have k33 := (hB9.cell (p := ⟨b, o + k * 2 + 1, none⟩) (by show b < B + 1 + 1; have := HGE.out; omega)).trans g1; have HR9 := hid hr9; have HO9 := hid hO9; clear hr9 hO9 hB4 hB9 hk1) | (refine step_append_eq rfl (.tmp 36) (.tmp 43) _ rfl _ _ rfl rfl HR9.out ?_))
          all_goals
            go_wp2_with fail
            go_roundw
            case rel => exact ⟨k + 1, _, _, by go_num, hlk, by rw [HTKS.out]; exact HO9.out⟩
            case measure => simp [intOf]; omega
        · obtain rfl : k = n3 := by omega
          have hI := HI.out
          rw [show v.subs.take k = v.subs from by rw [HN3.out, List.take_length]] at hI
          have b0 := hI.cell 0 _ rfl
          have b1 := hI.cell 1 _ rfl
          have b2 := hI.cell 2 _ rfl
          have HII := hid hI
          have hJ := HJ.out.later HB5.out
          have hVv : Apart w0.heap.size w5.heap.size wr fun w' => ValP' d w' [.int .i64 num, .slice a1 n1 q1, .slice a2 n2 q2, .slice sa k sc] (plainV d v) := fun w' hw' => by
            have hk := keep_apart rfl HB0r.out hw'
            refine ⟨_, _, _, by rw [show (plainV d v).num = num from HNUM.out.symm], ?_, HWTS.out.2.1.keep hk, HWTS.out.2.2.keep hk, ?_⟩
            · show -9223372036854775808 ≤ v.num ∧ v.num ≤ 9223372036854775807
              rw [← HNUM.out]; exact HWTS.out.1
            · exact HII.out.at (by rw [List.length_map, ← HN3.out]; omega) fun b hb hc => hw' b hb (hc.imp id fun h => by have := HBB.out; omega)
          obtain ⟨a5, c5, w9, hr9, -, -, ⟨e5, z3, l9, -⟩, hO9⟩ := HJ.out.step HB5.out (by decide) (by have := HN0.out; omega) HLEN.out 33 _ 80 Tryz.underlying33 info_rval rfl #[.int .i64 num, .slice a1 n1 q1, .slice a2 n2 q2, .slice sa k sc] rfl (by intro u hu; simp at hu; rcases hu with rfl | rfl | rfl | rfl <;> rfl) (plainV d v) hVv (by omega) (by decide) 0 rfl
          have x0 := hJ.cell 0 _ rfl
          have xl := hJ.lt
          have HR9 := hid hr9
          have HO9 : Hid (OutB (ValP' d) 71 4 w0.heap.size 35 (X + 1 + 1) [] [.slice none 0 0] W1 (w9.setCell ⟨X + 1 + 1, 0, none⟩ (.slice a5 (i + 1) c5)) (.slice a5 (i + 1) c5) (((M.vals x).take (i + 1)).map (plainV d))) := by rw [Hid, HTK.out]; exact hO9
          clear hI hJ hVv hO9 hr9 hVB hB57
          go_wp2_with (at_builtin; refine wpList_append_eq rfl _ _ _ rfl _ _ rfl rfl HR9.out ?_)
          go_roundw
          case rel => exact ⟨i + 1, _, _, by go_num, hlt, HO9.out⟩
          case measure => simp [intOf]; omega
    · obtain rfl : i = vn := by omega
      have h1 := HJ.out
      rw [HVN.out, List.take_length, ← HVN.out] at h1
      have o0 := h1.cell 0 _ rfl
      have o1 := h1.cell 1 _ rfl
      have ol := h1.lt
      have hR : Blk wr (X + 1) [(.slice none 0 0), (.slice none 0 0)] 35 := (h1.below.block (X + 1) (by omega)).trans HR1.out
      have r0 := hR.cell 0 _ rfl
      have r1 := hR.cell 1 _ rfl
      have rl := hR.lt
      have f0 := hR.free 0
      have s1 := hR.set 0 (.slice oa i oc)
      have r2 := s1.cell 1 _ rfl
      have f2 := s1.free 1
      have s2 := s1.set 1 (.slice none 0 0)
      have r3 := s2.cell 0 _ rfl
      have r4 := s2.cell 1 _ rfl
      have HE := hid (HFIN.out wr (.slice oa i oc) h1)
      clear hR s1 s2 h1 hX1
      go_wp2_with fail
      refine bodyPost_ret (v := .agg #[.slice oa i oc, .slice none 0 0]) ?_ rfl HE.out
      simp [results, Tryz.results20, go_sem, r3, r4]
theorem ref15_Plain {w0 : World} : ∀ d, RPlainOk w0 d
  | 0 => fun _ _ x _ _ _ => x.elim
  | d + 1 => ref15_Plain_step d (ref15_Plain d)
end Go.Proofs.YtaefpjecalnbcaaGreat
namespace Go.Proofs.YtaefpjecalnbcaaGreat
open Go.RowKit
def WordsQ (lo hi : Nat) (w : World) (v : Value) (l : List Nat) : Prop := WordsOwn w lo v l ∧ (∀ b, v.ownBlock = some b → b < hi) ∧ l.length ≤ 1099511627776 ∧ ∀ x ∈ l, x < 2 ^ 64
def StrsQ (lo hi : Nat) (w : World) (v : Value) (l : List (List UInt8)) : Prop := StrsOwn w lo v l ∧ (∀ b, v.ownBlock = some b → b < hi) ∧ l.length ≤ 1099511627776 ∧ ∀ t ∈ l, t.length ≤ 140737488355328
def SubsQ {α : Type} (P : Nat → World → Value → α → Prop) (lo hi : Nat) (w : World) (v : Value) (l : List α) : Prop :=
  l.length ≤ 140737488355328 ∧ ((v = .slice none 0 0 ∧ l = []) ∨ ∃ g cap cur, v = .slice (some ⟨g, 0, none⟩) l.length cap ∧ (lo ≤ g ∧ g < hi) ∧ w.heap[g]? = some (.cells cur 27 (0, 0)) ∧ l.length ≤ cap ∧ cap ≤ maxLen ∧ cur.size = cap * 2 ∧
    ∀ (i : Nat) (x : α), l[i]? = some x → ∃ c1 c2, cur[i * 2]? = some c1 ∧ cur[i * 2 + 1]? = some c2 ∧ P i w (.agg #[c1, c2]) x)
def ValQ {α : Type} (P : Nat → World → Value → α → Prop) (lo hi : Nat) (w : World) (wv tv sv : Value) (x : Val α) : Prop :=
  (-9223372036854775808 ≤ x.num ∧ x.num ≤ 9223372036854775807) ∧ WordsQ lo hi w wv x.words ∧ StrsQ lo hi w tv x.texts ∧ SubsQ P lo hi w sv x.subs
def ValsQ {α : Type} (P : Nat → World → Value → Value → Value → Val α → Prop) (lo hi : Nat) (w : World) (v : Value) (l : List (Val α)) : Prop :=
  l.length ≤ 140737488355328 ∧ ((v = .slice none 0 0 ∧ l = []) ∨ ∃ g cap cur, v = .slice (some ⟨g, 0, none⟩) l.length cap ∧ (lo ≤ g ∧ g < hi) ∧ w.heap[g]? = some (.cells cur 67 (0, 0)) ∧ l.length ≤ cap ∧ cap ≤ maxLen ∧ cur.size = cap * 4 ∧
    ∀ (i : Nat) (x : Val α), l[i]? = some x → ∃ wv tv sv, cur[i * 4]? = some (.int .i64 x.num) ∧ cur[i * 4 + 1]? = some wv ∧ cur[i * 4 + 2]? = some tv ∧ cur[i * 4 + 3]? = some sv ∧ P i w wv tv sv x)
def MsgQ (U : Nat → Nat → World → Value → List (List UInt8) → Prop) (lo hi : Nat) : (d : Nat) → World → Value → M d → Prop
  | 0, _, _, _ => False
  | d + 1, w, v, x => ∃ vv uv, v = .agg #[vv, uv] ∧ U lo hi w uv (M.unk x) ∧ ValsQ (fun _ w wv tv sv y => ValQ (fun _ w u z => MsgQ U lo hi d w u z) lo hi w wv tv sv y) lo hi w vv (M.vals x)
def UAny (_ _ : Nat) (_ : World) (v : Value) (_ : List (List UInt8)) : Prop := ∃ a n c, v = .slice a n c
def UNil (_ _ : Nat) (_ : World) (v : Value) (_ : List (List UInt8)) : Prop := v = .slice none 0 0
structure NilW (lo : Nat) (w w' : World) : Prop where
  os : w'.os = w.os
  tape : w'.tape = w.tape
  output : w'.output = w.output
  size : w.heap.size ≤ w'.heap.size
  low : ∀ b : Nat, b < lo → w'.heap[b]? = w.heap[b]?
  other : ∀ (b : Nat) (o : Obj), w.heap[b]? = some o → (∀ cur : Array Value, o ≠ Obj.cells cur 27 (0, 0)) → w'.heap[b]? = some o
  msg : ∀ (b : Nat) (cur : Array Value), w.heap[b]? = some (Obj.cells cur 27 (0, 0)) → ∃ cur' : Array Value, w'.heap[b]? = some (Obj.cells cur' 27 (0, 0)) ∧ cur'.size = cur.size ∧ ∀ j u, cur[j]? = some u → cur'[j]? = some u ∨ (j % 2 = 1 ∧ cur'[j]? = some (.slice none 0 0))
theorem NilW.of_below {lo : Nat} {w w' : World} (h : Below w.heap.size w w') (hl : lo ≤ w.heap.size) : NilW lo w w' :=
  ⟨h.os, h.tape, h.output, h.size, fun b hb => h.block b (by omega), fun b o ho _ => (h.block b (Array.getElem?_eq_some_iff.1 ho).1).trans ho,
    fun b cur hc => ⟨cur, (h.block b (Array.getElem?_eq_some_iff.1 hc).1).trans hc, rfl, fun _ _ hu => .inl hu⟩⟩
theorem NilW.refl (lo : Nat) (w : World) : NilW lo w w := ⟨rfl, rfl, rfl, Nat.le_refl _, fun _ _ => rfl, fun _ _ h _ => h, fun _ cur h => ⟨cur, h, rfl, fun _ _ hu => .inl hu⟩⟩
theorem NilW.trans {lo : Nat} {w w1 w2 : World} (h : NilW lo w w1) (g : NilW lo w1 w2) : NilW lo w w2 := by
  refine ⟨g.os.trans h.os, g.tape.trans h.tape, g.output.trans h.output, Nat.le_trans h.size g.size, fun b hb => (g.low b hb).trans (h.low b hb), fun b o ho hn => g.other b o (h.other b o ho hn) hn, fun b cur hc => ?_⟩
  obtain ⟨c1, h1, h2, h3⟩ := h.msg b cur hc
  obtain ⟨c2, g1, g2, g3⟩ := g.msg b c1 h1
  refine ⟨c2, g1, g2.trans h2, fun j u hu => ?_⟩
  rcases h3 j u hu with h4 | ⟨h4, h5⟩
  · exact g3 j u h4
  · rcases g3 j _ h5 with h6 | ⟨-, h6⟩ <;> exact .inr ⟨h4, h6⟩
theorem NilW.to_below {lo n : Nat} {w w' : World} (h : NilW lo w w') (hn : n ≤ lo) : Below n w w' := ⟨h.os, h.tape, h.output, h.size, fun b hb => h.low b (by omega)⟩
theorem NilW.drew {lo : Nat} {w w' : World} (h : NilW lo w w') : NilW lo w w'.drew := ⟨h.os, h.tape, h.output, h.size, h.low, h.other, h.msg⟩
theorem NilW.set_new {lo : Nat} {w w' : World} (h : NilW lo w w') (hl : lo ≤ w.heap.size) (a : Addr) (v : Value) (ha : w.heap.size ≤ a.block) : NilW lo w (w'.setCell a v) := by
  refine ⟨h.os, h.tape, h.output, Nat.le_trans h.size (by show w'.heap.size ≤ (w'.heap.modify a.block _).size; rw [Array.size_modify]; exact Nat.le_refl _), fun b hb => ?_, fun b o ho hn => ?_, fun b cur hc => ?_⟩
  · rw [Below.heap_setCell w' a v b (by omega)]; exact h.low b hb
  · have := (Array.getElem?_eq_some_iff.1 ho).1
    rw [Below.heap_setCell w' a v b (by omega)]; exact h.other b o ho hn
  · have := (Array.getElem?_eq_some_iff.1 hc).1
    rw [Below.heap_setCell w' a v b (by omega)]; exact h.msg b cur hc
theorem NilW.set_nil {lo : Nat} {w w' : World} (h : NilW lo w w') (g j : Nat) (cur : Array Value) (hg : w'.heap[g]? = some (.cells cur 27 (0, 0))) (hl : lo ≤ g) (hj : j % 2 = 1) : NilW lo w (w'.setCell ⟨g, j, none⟩ (.slice none 0 0)) := by
  refine h.trans ⟨rfl, rfl, rfl, by show w'.heap.size ≤ (w'.heap.modify g _).size; rw [Array.size_modify]; exact Nat.le_refl _, fun b hb => Below.heap_setCell w' _ _ b (by show b ≠ g; omega), fun b o ho hn => ?_, fun b c hc => ?_⟩
  · by_cases hb : b = g
    · subst hb; rw [hg] at ho; cases ho; exact absurd rfl (hn cur)
    · rw [Below.heap_setCell w' _ _ b hb]; exact ho
  · by_cases hb : b = g
    · subst hb
      rw [hg] at hc
      cases hc
      obtain ⟨hlt, hk⟩ := Array.getElem?_eq_some_iff.1 hg
      refine ⟨cur.setIfInBounds j (.slice none 0 0), ?_, by simp, fun i u hu => ?_⟩
      · show (w'.heap.modify b _)[b]? = _
        rw [Array.getElem?_eq_getElem (by rw [Array.size_modify]; exact hlt), Array.getElem_modify_self, hk]
        rfl
      · by_cases hi : i = j
        · subst hi
          have := (Array.getElem?_eq_some_iff.1 hu).1
          exact .inr ⟨hj, by rw [Array.getElem?_setIfInBounds_self_of_lt this]⟩
        · exact .inl (by rw [Array.getElem?_setIfInBounds_ne (by omega)]; exact hu)
    · exact ⟨c, by rw [Below.heap_setCell w' _ _ b hb]; exact hc, rfl, fun _ _ hu => .inl hu⟩
theorem NilW.set_same {lo : Nat} {w w' : World} (h : NilW lo w w') (g j : Nat) (cur : Array Value) (v : Value) (hg : w'.heap[g]? = some (.cells cur 27 (0, 0))) (hl : lo ≤ g) (hj : cur[j]? = some v) : NilW lo w (w'.setCell ⟨g, j, none⟩ v) ∧ (w'.setCell ⟨g, j, none⟩ v).heap[g]? = some (.cells cur 27 (0, 0)) := by
  have he : (w'.setCell ⟨g, j, none⟩ v).heap[g]? = some (.cells cur 27 (0, 0)) := by
    obtain ⟨hlt, hk⟩ := Array.getElem?_eq_some_iff.1 hg
    show (w'.heap.modify g _)[g]? = _
    rw [Array.getElem?_eq_getElem (by rw [Array.size_modify]; exact hlt), Array.getElem_modify_self, hk]
    obtain ⟨hjl, hjv⟩ := Array.getElem?_eq_some_iff.1 hj
    have : cur.setIfInBounds j v = cur := by
      apply Array.ext
      · simp
      · intro i h1 h2
        by_cases hi : i = j
        · subst hi; simp [hjv]
        · rw [Array.getElem_setIfInBounds_ne h2 (by omega)]
    show some (Obj.cells (if (none : Option _).isSome then cur else cur.setIfInBounds j v) _ _) = _
    rw [if_neg (by simp), this]
  have hall : ∀ b, (w'.setCell ⟨g, j, none⟩ v).heap[b]? = w'.heap[b]? := fun b => by
    by_cases hb : b = g
    · subst hb; rw [he, hg]
    · exact Below.heap_setCell w' _ _ b hb
  exact ⟨h.trans ⟨rfl, rfl, rfl, by show w'.heap.size ≤ (w'.heap.modify g _).size; rw [Array.size_modify]; exact Nat.le_refl _, fun b _ => hall b, fun b o ho _ => (hall b).trans ho, fun b c hc => ⟨c, (hall b).trans hc, rfl, fun _ _ hu => .inl hu⟩⟩, he⟩
theorem NilW.blk {lo b : Nat} {w w' : World} {cs : List Value} {T : TypeId} (h : NilW lo w w') (hb : Blk w b cs T) (hT : T ≠ 27) : Blk w' b cs T :=
  h.other b _ hb (fun cur e => hT (by injection e))
theorem NilW.blk_nil {lo b : Nat} {w w' : World} {v : Value} (h : NilW lo w w') (hb : Blk w b [v, .slice none 0 0] 27) : Blk w' b [v, .slice none 0 0] 27 := by
  obtain ⟨cur, h1, h2, h3⟩ := h.msg b _ hb
  have h0 := h3 0 v rfl
  have h1' := h3 1 (.slice none 0 0) rfl
  have e0 : cur[0]? = some v := by rcases h0 with h | ⟨h, -⟩; exact h; exact absurd h (by decide)
  have e1 : cur[1]? = some (.slice none 0 0) := by rcases h1' with h | ⟨-, h⟩ <;> exact h
  have hc : cur = #[v, .slice none 0 0] := by
    apply Array.ext
    · rw [h2]
    · intro i hi hj
      have : i = 0 ∨ i = 1 := by simp at hj; omega
      rcases this with rfl | rfl
      · rw [Array.getElem?_eq_getElem hi] at e0; simpa using e0
      · rw [Array.getElem?_eq_getElem hi] at e1; simpa using e1
  unfold Blk
  rw [h1, hc]
/-! What stands. -/
theorem own_nilw {lo k n : Nat} {T : TypeId} {w w' : World} {v : Value} {xs : List Value} (h : w.ownsRow lo T k v n xs) (hT : T ≠ 27) (hw : NilW lo w w') : w'.ownsRow lo T k v n xs :=
  row_keep h fun b cur _ hc => (hw.other b _ hc (fun c e => hT (by injection e))).trans hc.symm
theorem WordsQ.nil {lo hi : Nat} {w w' : World} {v : Value} {l : List Nat} (h : WordsQ lo hi w v l) (hw : NilW lo w w') : WordsQ lo hi w' v l := ⟨own_nilw h.1 (by decide) hw, h.2⟩
theorem StrsQ.nil {lo hi : Nat} {w w' : World} {v : Value} {l : List (List UInt8)} (h : StrsQ lo hi w v l) (hw : NilW lo w w') : StrsQ lo hi w' v l := ⟨own_nilw h.1 (by decide) hw, h.2⟩
theorem SubsQ.nil {α : Type} {P P' : Nat → World → Value → α → Prop} {lo hi : Nat} {w w' : World} {v : Value} {l : List α} (h : SubsQ P lo hi w v l) (hw : NilW lo w w')
    (hP : ∀ i a b x, l[i]? = some x → P i w (.agg #[a, b]) x → P' i w' (.agg #[a, b]) x ∧ P' i w' (.agg #[a, .slice none 0 0]) x) : SubsQ P' lo hi w' v l := by
  refine ⟨h.1, ?_⟩
  rcases h.2 with h2 | ⟨g, cap, cur, hv, hb, hg, hnc, hcm, hcs, hall⟩
  · exact .inl h2
  · obtain ⟨cur', h1, h2, h3⟩ := hw.msg g cur hg
    refine .inr ⟨g, cap, cur', hv, hb, h1, hnc, hcm, h2.trans hcs, fun i x hx => ?_⟩
    obtain ⟨c1, c2, e1, e2, hp⟩ := hall i x hx
    have k1 : cur'[i * 2]? = some c1 := by
      rcases h3 _ _ e1 with h | ⟨h, -⟩
      · exact h
      · omega
    have k2 := h3 _ _ e2
    obtain ⟨q1, q2⟩ := hP i c1 c2 x hx hp
    rcases k2 with k2 | ⟨-, k2⟩
    · exact ⟨c1, c2, k1, k2, q1⟩
    · exact ⟨c1, _, k1, k2, q2⟩
theorem ValsQ.nil {α : Type} {P P' : Nat → World → Value → Value → Value → Val α → Prop} {lo hi : Nat} {w w' : World} {v : Value} {l : List (Val α)} (h : ValsQ P lo hi w v l) (hw : NilW lo w w')
    (hP : ∀ i wv tv sv x, l[i]? = some x → P i w wv tv sv x → P' i w' wv tv sv x) : ValsQ P' lo hi w' v l := by
  refine ⟨h.1, ?_⟩
  rcases h.2 with h2 | ⟨g, cap, cur, hv, hb, hg, hnc, hcm, hcs, hall⟩
  · exact .inl h2
  · refine .inr ⟨g, cap, cur, hv, hb, hw.other g _ hg (fun c e => absurd (show (67 : TypeId) = 27 by injection e) (by decide)), hnc, hcm, hcs, fun i x hx => ?_⟩
    obtain ⟨wv, tv, sv, e0, e1, e2, e3, hp⟩ := hall i x hx
    exact ⟨wv, tv, sv, e0, e1, e2, e3, hP i wv tv sv x hx hp⟩
theorem MsgQ.nil {U U' : Nat → Nat → World → Value → List (List UInt8) → Prop} {lo hi : Nat} (hU : ∀ w w' v l, U lo hi w v l → U' lo hi w' v l ∧ U' lo hi w' (.slice none 0 0) l) : ∀ (d : Nat) (w w' : World) (a b : Value) (x : M d), MsgQ U lo hi d w (.agg #[a, b]) x → NilW lo w w' → MsgQ U' lo hi d w' (.agg #[a, b]) x ∧ MsgQ U' lo hi d w' (.agg #[a, .slice none 0 0]) x
  | 0, _, _, _, _, _, h, _ => h.elim
  | d + 1, w, w', a, b, x, h, hw => by
    obtain ⟨vv, uv, e, hu, hv⟩ := h
    obtain ⟨rfl, rfl⟩ : a = vv ∧ b = uv := by cases e; exact ⟨rfl, rfl⟩
    have hV : ValsQ (fun _ w wv tv sv y => ValQ (fun _ w u z => MsgQ U' lo hi d w u z) lo hi w wv tv sv y) lo hi w' a (M.vals x) := hv.nil hw fun i wv tv sv y _ hy =>
      ⟨hy.1, hy.2.1.nil hw, hy.2.2.1.nil hw, hy.2.2.2.nil hw fun j a b z _ hz => MsgQ.nil hU d w w' a b z hz hw⟩
    exact ⟨⟨_, _, rfl, (hU w w' _ _ hu).1, hV⟩, ⟨_, _, rfl, (hU w w' _ _ hu).2, hV⟩⟩
theorem uany_nil (lo hi : Nat) (w w' : World) (v : Value) (l : List (List UInt8)) (h : UAny lo hi w v l) : UAny lo hi w' v l ∧ UAny lo hi w' (.slice none 0 0) l := ⟨h, _, _, _, rfl⟩
theorem unil_nil (lo hi : Nat) (w w' : World) (v : Value) (l : List (List UInt8)) (h : UNil lo hi w v l) : UNil lo hi w' v l ∧ UNil lo hi w' (.slice none 0 0) l := ⟨h, rfl⟩
/-! Worlds that agree where it lies. -/
theorem own_agree {lo hi k n : Nat} {T : TypeId} {w w' : World} {v : Value} {xs : List Value} (h : w.ownsRow lo T k v n xs) (hh : ∀ b, v.ownBlock = some b → b < hi) (hw : ∀ b, lo ≤ b → b < hi → w'.heap[b]? = w.heap[b]?) : w'.ownsRow lo T k v n xs := by
  refine ⟨h.1, ?_⟩
  rcases h.2 with h2 | ⟨g, cap, cur, rfl, hb, hg, hnc, hcm, hcs, ht⟩
  · exact .inl h2
  · exact .inr ⟨g, cap, cur, rfl, hb, (hw g hb (hh g rfl)).trans hg, hnc, hcm, hcs, ht⟩
theorem WordsQ.agree {lo hi : Nat} {w w' : World} {v : Value} {l : List Nat} (h : WordsQ lo hi w v l) (hw : ∀ b, lo ≤ b → b < hi → w'.heap[b]? = w.heap[b]?) : WordsQ lo hi w' v l := ⟨own_agree h.1 h.2.1 hw, h.2⟩
theorem StrsQ.agree {lo hi : Nat} {w w' : World} {v : Value} {l : List (List UInt8)} (h : StrsQ lo hi w v l) (hw : ∀ b, lo ≤ b → b < hi → w'.heap[b]? = w.heap[b]?) : StrsQ lo hi w' v l := ⟨own_agree h.1 h.2.1 hw, h.2⟩
theorem SubsQ.agree {α : Type} {P P' : Nat → World → Value → α → Prop} {lo hi : Nat} {w w' : World} {v : Value} {l : List α} (h : SubsQ P lo hi w v l) (hw : ∀ b, lo ≤ b → b < hi → w'.heap[b]? = w.heap[b]?)
    (hP : ∀ i a b x, l[i]? = some x → P i w (.agg #[a, b]) x → P' i w' (.agg #[a, b]) x) : SubsQ P' lo hi w' v l := by
  refine ⟨h.1, ?_⟩
  rcases h.2 with h2 | ⟨g, cap, cur, hv, hb, hg, hnc, hcm, hcs, hall⟩
  · exact .inl h2
  · refine .inr ⟨g, cap, cur, hv, hb, (hw g hb.1 hb.2).trans hg, hnc, hcm, hcs, fun i x hx => ?_⟩
    obtain ⟨c1, c2, e1, e2, hp⟩ := hall i x hx
    exact ⟨c1, c2, e1, e2, hP i c1 c2 x hx hp⟩
theorem ValsQ.agree {α : Type} {P P' : Nat → World → Value → Value → Value → Val α → Prop} {lo hi : Nat} {w w' : World} {v : Value} {l : List (Val α)} (h : ValsQ P lo hi w v l) (hw : ∀ b, lo ≤ b → b < hi → w'.heap[b]? = w.heap[b]?)
    (hP : ∀ i wv tv sv x, l[i]? = some x → P i w wv tv sv x → P' i w' wv tv sv x) : ValsQ P' lo hi w' v l := by
  refine ⟨h.1, ?_⟩
  rcases h.2 with h2 | ⟨g, cap, cur, hv, hb, hg, hnc, hcm, hcs, hall⟩
  · exact .inl h2
  · refine .inr ⟨g, cap, cur, hv, hb, (hw g hb.1 hb.2).trans hg, hnc, hcm, hcs, fun i x hx => ?_⟩
    obtain ⟨wv, tv, sv, e0, e1, e2, e3, hp⟩ := hall i x hx
    exact ⟨wv, tv, sv, e0, e1, e2, e3, hP i wv tv sv x hx hp⟩
theorem MsgQ.agree {U : Nat → Nat → World → Value → List (List UInt8) → Prop} {lo hi : Nat} {w w' : World} (hw : ∀ b, lo ≤ b → b < hi → w'.heap[b]? = w.heap[b]?) (hU : ∀ v l, U lo hi w v l → U lo hi w' v l) : ∀ (d : Nat) (v : Value) (x : M d), MsgQ U lo hi d w v x → MsgQ U lo hi d w' v x
  | 0, _, _, h => h.elim
  | d + 1, v, x, h => by
    obtain ⟨vv, uv, e, hu, hv⟩ := h
    exact ⟨vv, uv, e, hU _ _ hu, hv.agree hw fun i wv tv sv y _ hy => ⟨hy.1, hy.2.1.agree hw, hy.2.2.1.agree hw, hy.2.2.2.agree hw fun j a b z _ hz => MsgQ.agree hw hU d _ z hz⟩⟩
/-! As it reads. -/
theorem chunk_flat {α : Type} (k : Nat) (L : List α) : ∀ n, n * k ≤ L.length → ((List.range n).map fun i => (L.drop (i * k)).take k).flatten = L.take (n * k)
  | 0, _ => by simp
  | n + 1, h => by
    have h1 := chunk_flat k L n (by rw [Nat.succ_mul] at h; omega)
    rw [List.range_succ, List.map_append, List.flatten_append, h1, Nat.succ_mul, List.take_add]
    simp
theorem rows_chunk {α : Type} {P : World → List Value → α → Prop} {k : Nat} {w : World} {g cap : Nat} {T : TypeId} {cur : Array Value} {l : List α} (hl : l.length ≤ 140737488355328) (hg : w.heap[g]? = some (.cells cur T (0, 0))) (hnc : l.length ≤ cap) (hcm : cap ≤ maxLen) (hcs : cur.size = cap * k)
    (hP : ∀ (i : Nat) (x : α), l[i]? = some x → P w ((cur.toList.drop (i * k)).take k) x) : RowsAt P k w (.slice (some ⟨g, 0, none⟩) l.length cap) l := by
  have hle : l.length * k ≤ cur.toList.length := by have : cur.toList.length = cur.size := rfl; rw [this, hcs]; exact Nat.mul_le_mul_right k hnc
  refine ⟨(List.range l.length).map fun i => (cur.toList.drop (i * k)).take k, by simp, fun r hr => ?_, ?_, fun i r x hr hx => ?_⟩
  · obtain ⟨i, hi, rfl⟩ := List.mem_map.1 hr
    have hi := List.mem_range.1 hi
    rw [List.length_take, List.length_drop]
    have : (i + 1) * k ≤ l.length * k := Nat.mul_le_mul_right k hi
    rw [Nat.succ_mul] at this
    omega
  · rw [chunk_flat k _ _ hle]
    refine ⟨by rw [List.length_take]; omega, hl, _, _, rfl, hnc, by unfold maxLen at hcm; omega, by simp, fun j u hu => ⟨g, 0, rfl, ?_⟩⟩
    rw [Nat.zero_add]
    unfold World.cell?
    rw [hg]
    rw [List.getElem?_take] at hu
    split at hu
    · simpa using hu
    · cases hu
  · have hi := (List.getElem?_eq_some_iff.1 hx).1
    rw [List.getElem?_map, List.getElem?_range hi] at hr
    cases hr
    exact hP i x hx
theorem chunk2 {cur : Array Value} {i : Nat} {a b : Value} (h1 : cur[i * 2]? = some a) (h2 : cur[i * 2 + 1]? = some b) : (cur.toList.drop (i * 2)).take 2 = [a, b] := by
  apply List.ext_getElem?
  intro j
  match j with
  | 0 => simpa [List.getElem?_take] using h1
  | 1 => simpa [List.getElem?_take] using h2
  | j + 2 => simp [List.getElem?_take]; omega
theorem chunk4 {cur : Array Value} {i : Nat} {a b c d : Value} (h0 : cur[i * 4]? = some a) (h1 : cur[i * 4 + 1]? = some b) (h2 : cur[i * 4 + 2]? = some c) (h3 : cur[i * 4 + 3]? = some d) : (cur.toList.drop (i * 4)).take 4 = [a, b, c, d] := by
  apply List.ext_getElem?
  intro j
  match j with
  | 0 => simpa [List.getElem?_take] using h0
  | 1 => simpa [List.getElem?_take] using h1
  | 2 => simpa [List.getElem?_take] using h2
  | 3 => simpa [List.getElem?_take] using h3
  | j + 4 => simp [List.getElem?_take]; omega
theorem rows_none {α : Type} (P : World → List Value → α → Prop) (k : Nat) (w : World) : RowsAt P k w (.slice none 0 0) [] :=
  ⟨[], rfl, by simp, ⟨by simp, by simp, none, 0, rfl, Nat.le_refl _, by omega, fun _ => rfl, fun j u hu => by simp at hu⟩, fun i r x h => by simp at h⟩
theorem rows_map {α β : Type} {P : World → List Value → α → Prop} {Q : World → List Value → β → Prop} {k : Nat} {w : World} {v : Value} {l : List α} (f : α → β) (h : RowsAt P k w v l) (hPQ : ∀ r x, P w r x → Q w r (f x)) : RowsAt Q k w v (l.map f) := by
  obtain ⟨rows, h1, h2, h3, h4⟩ := h
  refine ⟨rows, by simpa using h1, h2, by simpa using h3, fun i r x hr hx => ?_⟩
  rw [List.getElem?_map] at hx
  cases hl : l[i]? with
  | none => rw [hl] at hx; cases hx
  | some y => rw [hl] at hx; cases hx; exact hPQ _ _ (h4 i r y hr hl)
theorem SubsQ.rows {α : Type} {P : Nat → World → Value → α → Prop} {R : World → List Value → α → Prop} {lo hi : Nat} {w : World} {v : Value} {l : List α} (h : SubsQ P lo hi w v l) (hP : ∀ i a b x, P i w (.agg #[a, b]) x → R w [a, b] x) : RowsAt R 2 w v l := by
  rcases h.2 with ⟨rfl, rfl⟩ | ⟨g, cap, cur, rfl, hb, hg, hnc, hcm, hcs, hall⟩
  · exact rows_none _ _ _
  · refine rows_chunk h.1 hg hnc hcm hcs fun i x hx => ?_
    obtain ⟨c1, c2, e1, e2, hp⟩ := hall i x hx
    rw [chunk2 e1 e2]
    exact hP i c1 c2 x hp
theorem ValsQ.rows {α : Type} {P : Nat → World → Value → Value → Value → Val α → Prop} {R : World → List Value → Val α → Prop} {lo hi : Nat} {w : World} {v : Value} {l : List (Val α)} (h : ValsQ P lo hi w v l) (hP : ∀ i a b c x, P i w a b c x → R w [.int .i64 x.num, a, b, c] x) : RowsAt R 4 w v l := by
  rcases h.2 with ⟨rfl, rfl⟩ | ⟨g, cap, cur, rfl, hb, hg, hnc, hcm, hcs, hall⟩
  · exact rows_none _ _ _
  · refine rows_chunk h.1 hg hnc hcm hcs fun i x hx => ?_
    obtain ⟨wv, tv, sv, e0, e1, e2, e3, hp⟩ := hall i x hx
    rw [chunk4 e0 e1 e2 e3]
    exact hP i wv tv sv x hp
theorem WordsQ.at {lo hi : Nat} {w : World} {v : Value} {l : List Nat} (h : WordsQ lo hi w v l) : WordsAt w v l := ⟨row_seg h.1 (by have := h.2.2.1; omega), h.2.2.2⟩
theorem StrsQ.at {lo hi : Nat} {w : World} {v : Value} {l : List (List UInt8)} (h : StrsQ lo hi w v l) : StrsAt w v l := ⟨row_seg h.1 (by have := h.2.2.1; omega), h.2.2.2⟩
theorem MsgQ.plain {lo hi : Nat} : ∀ (d : Nat) (w : World) (v : Value) (x : M d), MsgQ UNil lo hi d w v x → MsgAt d w v (plainM d x)
  | 0, _, _, _, h => h.elim
  | d + 1, w, v, x, h => by
    obtain ⟨vv, uv, rfl, rfl, hv⟩ := h
    refine ⟨vv, _, rfl, ?_, strs_none w⟩
    show ValsAt (MsgAt d) w vv ((M.vals x).map _)
    refine rows_map (P := fun w r (y : Val (M d)) => ∃ wv tv sv, r = [.int .i64 y.num, wv, tv, sv] ∧ ValQ (fun _ w u z => MsgQ UNil lo hi d w u z) lo hi w wv tv sv y) _ (hv.rows fun i a b c x hx => ⟨a, b, c, rfl, hx⟩) ?_
    rintro r y ⟨wv, tv, sv, rfl, h1, h2, h3, h4⟩
    refine ⟨wv, tv, sv, rfl, h1, h2.at, h3.at, ?_⟩
    show SubsAt (MsgAt d) w sv (y.subs.map (plainM d))
    refine rows_map (P := fun w r (z : M d) => MsgQ UNil lo hi d w (.agg r.toArray) z) _ (h4.rows fun i a b z hz => hz) fun r z hz => ?_
    exact MsgQ.plain d w _ z hz
/-! From what a list under way holds. -/
theorem rows_cells {α : Type} {P : World → List Value → α → Prop} {T : TypeId} {k base lo : Nat} {w w' : World} {v : Value} {l : List α} (h : RowsOwn P T k 0 base w v l) (hlb : lo ≤ base) (hw : ∀ b, b < w.heap.size → base ≤ b → w'.heap[b]? = w.heap[b]?) :
    (v = .slice none 0 0 ∧ l = []) ∨ ∃ g cap cur, v = .slice (some ⟨g, 0, none⟩) l.length cap ∧ (lo ≤ g ∧ g < w'.heap.size) ∧ w'.heap[g]? = some (.cells cur T (0, 0)) ∧ l.length ≤ cap ∧ cap ≤ maxLen ∧ cur.size = cap * k ∧
      ∀ (i : Nat) (x : α), l[i]? = some x → ∃ r, r.length = k ∧ (∀ j, j < k → cur[i * k + j]? = r[j]?) ∧ P w' r x := by
  obtain ⟨rows, h1, h2, h3, h4⟩ := h
  rcases h3.2 with ⟨rfl, h0⟩ | ⟨g, cap, cur, hv, hb, hg, hnc, hcm, hcs, ht⟩
  · exact .inl ⟨rfl, List.length_eq_zero_iff.1 h0⟩
  · have hglt := (Array.getElem?_eq_some_iff.1 hg).1
    have hg' := (hw g hglt hb).trans hg
    refine .inr ⟨g, cap, cur, hv, ⟨by omega, (Array.getElem?_eq_some_iff.1 hg').1⟩, hg', hnc, hcm, hcs, fun i x hx => ?_⟩
    have hi := (List.getElem?_eq_some_iff.1 hx).1
    have hr : rows[i]? = some (rows[i]'(by omega)) := List.getElem?_eq_getElem (by omega)
    generalize rows[i]'(by omega) = r at hr
    refine ⟨r, h2 r (List.mem_of_getElem? hr), fun j hj => ?_, h4 w' (fun b hlt _ hc => hw b hlt (by omega)) i r x hr hx⟩
    have e := flatten_get rows i j r h2 hr hj
    rw [← ht, List.getElem?_take] at e
    have hlt : i * k + j < l.length * k := by
      have : (i + 1) * k ≤ l.length * k := Nat.mul_le_mul_right k hi
      rw [Nat.succ_mul] at this
      omega
    rw [if_pos hlt] at e
    rw [← e]; simp
theorem subs_q {α : Type} {P : Nat → World → Value → α → Prop} {base lo : Nat} {w w' : World} {v : Value} {l : List α} (h : RowsOwn (fun w r x => P 0 w (.agg r.toArray) x) 27 2 0 base w v l) (hl : l.length ≤ 140737488355328) (hlb : lo ≤ base) (hw : ∀ b, b < w.heap.size → base ≤ b → w'.heap[b]? = w.heap[b]?) :
    SubsQ (fun _ => P 0) lo w'.heap.size w' v l := by
  refine ⟨hl, ?_⟩
  rcases rows_cells h hlb hw with h | ⟨g, cap, cur, hv, hb, hg, hnc, hcm, hcs, hall⟩
  · exact .inl h
  · refine .inr ⟨g, cap, cur, hv, hb, hg, hnc, hcm, hcs, fun i x hx => ?_⟩
    obtain ⟨r, hr, hc, hP⟩ := hall i x hx
    match r, hr with
    | [c1, c2], _ => exact ⟨c1, c2, by simpa using hc 0 (by decide), by simpa using hc 1 (by decide), hP⟩
theorem vals_q {α : Type} {P : World → Value → Value → Value → Val α → Prop} {base lo : Nat} {w w' : World} {v : Value} {l : List (Val α)} (h : RowsOwn (fun w r x => ∃ wv tv sv, r = [.int .i64 x.num, wv, tv, sv] ∧ P w wv tv sv x) 67 4 0 base w v l) (hl : l.length ≤ 140737488355328) (hlb : lo ≤ base) (hw : ∀ b, b < w.heap.size → base ≤ b → w'.heap[b]? = w.heap[b]?) :
    ValsQ (fun _ => P) lo w'.heap.size w' v l := by
  refine ⟨hl, ?_⟩
  rcases rows_cells h hlb hw with h | ⟨g, cap, cur, hv, hb, hg, hnc, hcm, hcs, hall⟩
  · exact .inl h
  · refine .inr ⟨g, cap, cur, hv, hb, hg, hnc, hcm, hcs, fun i x hx => ?_⟩
    obtain ⟨r, hr, hc, wv, tv, sv, rfl, hP⟩ := hall i x hx
    exact ⟨wv, tv, sv, by simpa using hc 0 (by decide), by simpa using hc 1 (by decide), by simpa using hc 2 (by decide), by simpa using hc 3 (by decide), hP⟩
end Go.Proofs.YtaefpjecalnbcaaGreat
