/- darninglaw14.Of, OfValue: a copy of any meaning, that reads the same in each world that agrees on what was there at the start and on what the call has laid. The canonical words of a number's kind: bits.Low32, Sign32, Wide32, darningref01.Wide, Sign32, kind.Canon, darningref06.Canon: kcanon. Plain law: the bytes of words, records and meanings, and which meanings are right. No program in sight. No condition. Plain laws: the values of a meaning by their numbers (getV, putV, delV); two meanings joined (joinM). No condition. -/
import Derived.Test.YtaefpjecalnbcaaGreatZ09
import Derived.Test.YtaefpjecalnbcaaGreatZ10
import Derived.Test.YtaefpjecalnbcaaGreatZ11
import Derived.Deep.RegionLaw
namespace Go.Proofs.YtaefpjecalnbcaaGreat
open Go.RowKit Go.Shelf
def OfOk (w0 : World) (d : Nat) : Prop := ∀ (w : World) (v : Value) (x : M d), MsgAt d w0 v x → Below w0.heap.size w0 w → mwt d x ≤ 1099511627776 →
  Calls Tryz.prog 10 #[v] w fun e w' => ∃ v', e = .returned v' ∧ Below w.heap.size w w' ∧ Apart w0.heap.size w.heap.size w' fun w2 => MsgAt d w2 v' x
def SubP (d : Nat) (w : World) (r : List Value) (x : M d) : Prop := MsgAt d w (.agg r.toArray) x
def ValP' (d : Nat) (w : World) (r : List Value) (x : Val (M d)) : Prop := ValAt (MsgAt d) w (.agg r.toArray) x
theorem info_rmsg : (Tryz.prog.info? 35).map (fun i => (i.zero, i.size, i.bytes)) = some (some (.agg #[.slice none 0 0, .slice none 0 0]), 2, 48) := by kernel_rfl
theorem info_rval : (Tryz.prog.info? 71).map (fun i => (i.zero, i.size, i.bytes)) = some (some (.agg #[.int .i64 0, .slice none 0 0, .slice none 0 0, .slice none 0 0]), 4, 80) := by kernel_rfl
/-- agreement carries the cells of the start -/
theorem keep_apart {n base : Nat} {w0 w' w2 : World} (hn : n = w0.heap.size) (hb : Below n w0 w') (h : ∀ b, b < w'.heap.size → (b < n ∨ base ≤ b) → w2.heap[b]? = w'.heap[b]?) : ∀ p u, w0.cell? p = some u → w2.cell? p = some u := by
  intro p u hu
  have hp : p.block < w0.heap.size := World.block_lt_of_cell? w0 p hu
  have h1 := hb.size
  rw [World.cell?_of_block (h p.block (by omega) (.inl (by omega))), World.cell?_of_block (hb.block p.block (by omega))]
  exact hu
theorem news3 (w : World) (c1 c2 c3 : List Value) (T1 T2 T3 : TypeId) :
    Blk (((w.alloc (.cells c1.toArray T1)).alloc (.cells c2.toArray T2)).alloc (.cells c3.toArray T3)) w.heap.size c1 T1 ∧
    Blk (((w.alloc (.cells c1.toArray T1)).alloc (.cells c2.toArray T2)).alloc (.cells c3.toArray T3)) (w.heap.size + 1) c2 T2 ∧
    Blk (((w.alloc (.cells c1.toArray T1)).alloc (.cells c2.toArray T2)).alloc (.cells c3.toArray T3)) (w.heap.size + 1 + 1) c3 T3 ∧
    (((w.alloc (.cells c1.toArray T1)).alloc (.cells c2.toArray T2)).alloc (.cells c3.toArray T3)).heap.size = w.heap.size + 1 + 1 + 1 ∧
    Below w.heap.size w (((w.alloc (.cells c1.toArray T1)).alloc (.cells c2.toArray T2)).alloc (.cells c3.toArray T3)) := by
  have e : ∀ (w : World) (o : Obj), (w.alloc o).heap.size = w.heap.size + 1 := fun w o => by simp
  refine ⟨((Blk.new w c1 T1).alloc _).alloc _, ?_, ?_, by rw [e, e, e], (((Below.refl _ _).alloc (Nat.le_refl _) _).alloc (by rw [e]; omega) _).alloc (by rw [e, e]; omega) _⟩
  · have := (Blk.new (w.alloc (.cells c1.toArray T1)) c2 T2).alloc (.cells c3.toArray T3)
    rw [e] at this
    exact this
  · have := Blk.new ((w.alloc (.cells c1.toArray T1)).alloc (.cells c2.toArray T2)) c3 T3
    rw [e, e] at this
    exact this
theorem MsgAt.form : ∀ {d : Nat} {w : World} {v : Value} {x : M d}, MsgAt d w v x → ∃ a1 n1 c1 a2 n2 c2, v = .agg #[.slice a1 n1 c1, .slice a2 n2 c2]
  | 0, _, _, _, h => h.elim
  | d + 1, _, _, _, h => by
    obtain ⟨vv, uv, rfl, hV, hU⟩ := h
    obtain ⟨-, va, vc, rfl, -, -⟩ := hV.open
    obtain ⟨-, ua, uc, rfl, -, -⟩ := hU.open
    exact ⟨_, _, _, _, _, _, rfl⟩
theorem mwt_pos : ∀ {d : Nat} (x : M d), 1 ≤ mwt d x
  | 0, x => x.elim
  | d + 1, x => by show 1 ≤ 1 + _ + _; omega
theorem sub_count {d' : Nat} : ∀ (l : List (M d')) (d : Nat), d = d' → l.length ≤ (l.map (mwt d')).sum
  | [], _, _ => by simp
  | x :: t, d, h => by
    have := sub_count t d h
    have := mwt_pos x
    rw [List.map_cons, List.sum_cons, List.length_cons]
    omega
set_option maxRecDepth 100000 in
set_option maxHeartbeats 4000000 in
theorem law14_OfValue_of {w0 : World} {d : Nat} (ih : OfOk w0 d) {w : World} {v : Value} {x : Val (M d)} (h : ValAt (MsgAt d) w0 v x) (hb : Below w0.heap.size w0 w) (hw : vwt (mwt d) x ≤ 1099511627776) :
    Calls Tryz.prog 26 #[v] w fun e w' => ∃ v', e = .returned v' ∧ Below w.heap.size w w' ∧ Apart w0.heap.size w.heap.size w' fun w2 => ValAt (MsgAt d) w2 v' x := by
  obtain ⟨wv, tv, sv, rfl, hnum, hW, hT, hS⟩ := h
  have HFIN : Hid (∀ w2, (∀ p u, w0.cell? p = some u → w2.cell? p = some u) → ∀ so, SubsAt (MsgAt d) w2 so x.subs → ValAt (MsgAt d) w2 (.agg #[.int .i64 x.num, wv, tv, so]) x) :=
    fun w2 hk so hso => ⟨wv, tv, so, rfl, hnum, hW.keep hk, hT.keep hk, hso⟩
  obtain ⟨hwl, wa, wc, rfl, -, -⟩ := hW.open
  obtain ⟨htl, ta, tc, rfl, -, -⟩ := hT.open
  obtain ⟨hsl, sa, sc, rfl, -, hsa⟩ := hS.open
  have HW := hid hw
  have HSA := hid hsa
  unfold OfOk at ih
  have HIH := hid ih
  have HB := hid hb
  generalize x.words.length = wn at *
  generalize x.texts.length = tn at *
  obtain ⟨sn, HSN⟩ : ∃ n, Hid (n = x.subs.length) := ⟨_, rfl⟩
  rw [← HSN.out] at hsl ⊢
  generalize x.num = num at *
  clear hsa ih hW hT hS hw hb
  go_enter Tryz.func26, Tryz.ntmps26
  go_wp2_with fail
  obtain ⟨B, HBB⟩ : ∃ B, Hid (B = w.heap.size) := ⟨_, rfl⟩
  have h3 := news3 w [.int .i64 num, .slice wa wn wc, .slice ta tn tc, .slice sa sn sc] [.int .i64 0, .slice none 0 0, .slice none 0 0, .slice none 0 0] [.int .i64 num, .slice wa wn wc, .slice ta tn tc, .slice none 0 0] 67 71 71
  generalize hW1 : ((w.alloc (.cells #[.int .i64 num, .slice wa wn wc, .slice ta tn tc, .slice sa sn sc] 67)).alloc (.cells #[.int .i64 0, .slice none 0 0, .slice none 0 0, .slice none 0 0] 71)).alloc (.cells #[.int .i64 num, .slice wa wn wc, .slice ta tn tc, .slice none 0 0] 71) = W1 at h3 ⊢
  clear hW1
  rw [← HBB.out] at h3 ⊢
  obtain ⟨hx1, hr1, ho1, hz1, hb1⟩ := h3
  have HX1 := hid hx1
  have HR1 := hid hr1
  have HO1 := hid ho1
  have HZ1 := hid hz1
  have HB1 := hid hb1
  clear hx1 hr1 ho1 hz1 hb1
  have HN0 : Hid (w0.heap.size ≤ B) := by rw [HBB.out]; exact HB.out.size
  have HBB0 : Hid (Below w0.heap.size w0 w) := HB
  go_loopw [4] (fun v4 wr => ∃ (i : Nat) (oa : Option Addr) (oc : Nat), v4 = .int .i64 i ∧ i ≤ sn ∧ Hid (Below B w wr ∧ B + 1 + 1 < wr.heap.size ∧ Blk wr B [.int .i64 num, .slice wa wn wc, .slice ta tn tc, .slice sa sn sc] 67 ∧ Blk wr (B + 1) [.int .i64 0, .slice none 0 0, .slice none 0 0, .slice none 0 0] 71 ∧ Blk wr (B + 1 + 1) [.int .i64 num, .slice wa wn wc, .slice ta tn tc, .slice oa i oc] 71 ∧ RowsOwn (SubP d) 35 2 w0.heap.size (B + 1 + 1 + 1) wr (.slice oa i oc) (x.subs.take i))) (fun v4 _ => sn - (intOf v4).toNat)
  case atStart =>
    exact ⟨0, none, 0, rfl, by omega, HB1.out, by rw [HZ1.out]; omega, HX1.out, HR1.out, HO1.out, RowsOwn.nil _ _ _ _ _ _⟩
  case round =>
    obtain ⟨i, oa, oc, rfl, hi, HI⟩ := hrel
    have c1 := HI.out.2.2.1.cell 3 _ rfl
    have hbl1 : B < wr.heap.size := HI.out.2.2.1.lt
    by_cases hlt : i < sn
    · have hmi : x.subs[i]? = some (x.subs[i]'(by rw [← HSN.out]; exact hlt)) := List.getElem?_eq_getElem _
      generalize x.subs[i]'(by rw [← HSN.out]; exact hlt) = m at hmi
      have hsa := HSA.out
      obtain ⟨b, o, v1, v2, ha, g0, g1, hM⟩ := hsa i m hmi
      clear hsa
      have hb0 : Below w0.heap.size w0 wr := HB.out.trans (HI.out.1.mono HN0.out)
      have hBne : B + 1 + 1 ≠ B := by omega
      have HBL0 : Hid (b < B) := Nat.lt_of_lt_of_le (World.block_lt_of_cell? w0 _ g0) HN0.out
      have hkr := below_keeps hb0
      replace g0 := hkr _ _ g0
      replace g1 := hkr _ _ g1
      have HM := hid hM
      have HB0 := hid hb0
      have HMB : Hid (mwt d m ≤ 1099511627776) := by
        have h1 := mem_sum_le (mwt d) x.subs m (List.mem_of_getElem? hmi)
        have h2 := HW.out
        unfold vwt at h2
        show _ ≤ _; omega
      have hix := index_run Tryz.underlying65 size_msg ha i hlt (cap := sc)
      have hbl : b < wr.heap.size := World.block_lt_of_cell? wr _ g0
      have c2 := HI.out.2.2.2.2.1.cell 3 _ rfl
      have hfz := HI.out.2.2.2.2.1.free 3
      have hbl2 := HI.out.2.1
      have hbne : B + 1 + 1 ≠ b := by have := HBL0.out; omega
      clear ha hkr hM hb0
      have e0 : wr.drew.cell? ⟨B + 1 + 1, 3, none⟩ = some (.slice oa i oc) := c2
      have HC0 : Hid (wr.drew.cell? ⟨B, 3, none⟩ = some (.slice sa sn sc) ∧ wr.drew.cell? ⟨b, o + i * 2, none⟩ = some v1 ∧ wr.drew.cell? ⟨b, o + i * 2 + 1, none⟩ = some v2) := ⟨c1, g0, g1⟩
      have k0 := HC0.out
      have HN3 : Hid (w0.heap.size ≤ B + 1 + 1 + 1) := by have := HN0.out; show _ ≤ _; omega
      have HTL : Hid ((x.subs.take i).length = i) := by rw [Hid, List.length_take, ← HSN.out]; omega
      have HLI : Hid (i ≤ 1099511627776) := by
        have h1 := sub_count x.subs d rfl
        have h2 := HW.out
        unfold vwt at h2
        rw [← HSN.out] at h1
        show _ ≤ _; omega
      go_wp2_with fail
      have HTA : Hid (x.subs.take (i + 1) = x.subs.take i ++ [m]) := by rw [Hid, List.take_add_one, hmi]; rfl
      have HQ : Hid (∀ (w5 : World) (a5 : Option Addr) (c5 : Nat), Below (B + 1 + 1 + 1) wr w5 → RowsOwn (SubP d) 35 2 w0.heap.size (B + 1 + 1 + 1) w5 (.slice a5 (i + 1) c5) (x.subs.take i ++ [m]) →
          ∀ w6, w6 = w5.setCell ⟨B + 1 + 1, 3, none⟩ (.slice a5 (i + 1) c5) → (Below B w w6 ∧ B + 1 + 1 < w6.heap.size ∧ Blk w6 B [.int .i64 num, .slice wa wn wc, .slice ta tn tc, .slice sa sn sc] 67 ∧ Blk w6 (B + 1) [.int .i64 0, .slice none 0 0, .slice none 0 0, .slice none 0 0] 71 ∧ Blk w6 (B + 1 + 1) [.int .i64 num, .slice wa wn wc, .slice ta tn tc, .slice a5 (i + 1) c5] 71 ∧ RowsOwn (SubP d) 35 2 w0.heap.size (B + 1 + 1 + 1) w6 (.slice a5 (i + 1) c5) (x.subs.take (i + 1)))) := by
        rintro w5 a5 c5 h1 h2 w6 rfl
        refine ⟨(HI.out.1.trans (h1.mono (by omega))).setCell (by show B ≤ B + 1 + 1; omega) _, by have := h1.size; simp; omega, ?_, ?_, ?_, ?_⟩
        · exact Blk.set_other ((h1.block B (by omega)).trans HI.out.2.2.1) _ _ (by show B ≠ B + 1 + 1; omega)
        · exact Blk.set_other ((h1.block (B + 1) (by omega)).trans HI.out.2.2.2.1) _ _ (by show B + 1 ≠ B + 1 + 1; omega)
        · exact Blk.set ((h1.block (B + 1 + 1) (by omega)).trans HI.out.2.2.2.2.1) 3 _
        · rw [HTA.out]
          refine h2.later (fun b' _ hc => Below.heap_setCell w5 _ _ b' ?_) (by simp)
          show b' ≠ B + 1 + 1
          have := HN0.out
          omega
      have k01 := k0.1
      have k02 := k0.2.1
      have k03 := k0.2.2
      go_region_law (first | (go_simp; go_at_call 10; (with_reducible refine (HIH.out wr.drew _ m HM.out HB0.out.drew HMB.out).mono ?_); rintro e w1 ⟨vm, rfl, hbm, hap⟩; obtain ⟨a1, n1, cc1, a2, n2, cc2, rfl⟩ := hap.here.form; have hk1 : ∀ p u, wr.drew.cell? p = some u → w1.cell? p = some u := below_keeps hbm; have e1 : w1.cell? ⟨B + 1 + 1, 3, none⟩ = some (.slice oa i oc) := hk1 _ _ e0; have k1 : w1.cell? ⟨B, 3, none⟩ = some (.slice sa sn sc) ∧ w1.cell? ⟨b, o + i * 2, none⟩ = some v1 ∧ w1.cell? ⟨b, o + i * 2 + 1, none⟩ = some v2 := ⟨hk1 _ _ k0.1, hk1 _ _ k0.2.1, hk1 _ _ k0.2.2⟩; obtain ⟨a5, c5, w5, hr5, hO5, hB4, hB5⟩ := RowsOwn.step HI.out.2.2.2.2.2 ((Below.refl wr.heap.size wr).drew.trans hbm) (by decide) HN3.out HI.out.2.1 HTL.out 43 _ 48 Tryz.underlying43 info_rmsg rfl #[.slice a1 n1 cc1, .slice a2 n2 cc2] rfl (by intro u hu; simp at hu; rcases hu with rfl | rfl <;> rfl) m hap HLI.out (by decide); have e5 : w5.cell? ⟨B + 1 + 1, 3, none⟩ = some (.slice oa i oc) := (hB5.cell (p := ⟨B + 1 + 1, 3, none⟩) (by show B + 1 + 1 < B + 1 + 1 + 1; omega)).trans c2; have k3 : w5.cell? ⟨B, 3, none⟩ = some (.slice sa sn sc) ∧ w5.cell? ⟨b, o + i * 2, none⟩ = some v1 ∧ w5.cell? ⟨b, o + i * 2 + 1, none⟩ = some v2 := ⟨(hB5.cell (p := ⟨B, 3, none⟩) (by show B < B + 1 + 1 + 1; omega)).trans c1, (hB5.cell (p := ⟨b, o + i * 2, none⟩) (by show b < B + 1 + 1 + 1; have := HBL0.out; omega)).trans g0, (hB5.cell (p := ⟨b, o + i * 2 + 1, none⟩) (by show b < B + 1 + 1 + 1; have := HBL0.out; omega)).trans g1⟩; have z3 : w5.frozen? ⟨B + 1 + 1, 3, none⟩ = false := (hB5.frozen (p := ⟨B + 1 + 1, 3, none⟩) (by show B + 1 + 1 < B + 1 + 1 + 1; omega)).trans hfz; have e4 := (hB4.cell (p := ⟨B + 1 + 1, 3, none⟩) (by show B + 1 + 1 < B + 1 + 1 + 1; omega)).trans c2; have HR2 := hid hr5; have HO5 := hid hO5; have HB4 := hid hB4; have HB5 := hid hB5; clear hr5 hO5 hB4 hB5 hk1) | (refine step_append_eq rfl (.tmp 20) (.tmp 27) _ rfl _ _ rfl rfl HR2.out ?_))
      all_goals
        go_wp2_with fail
        go_roundw
        case rel => exact ⟨i + 1, _, _, by go_num, hlt, HQ.out _ _ _ HB5.out HO5.out _ rfl⟩
        case measure => simp [intOf]; omega
    · obtain rfl : i = sn := by omega
      have hO := HI.out.2.2.2.2.1
      have hR := HI.out.2.2.2.1
      have b0 := hO.cell 0 _ rfl
      have b1 := hO.cell 1 _ rfl
      have b2 := hO.cell 2 _ rfl
      have b3 := hO.cell 3 _ rfl
      have r0 := hR.cell 0 _ rfl
      have r1 := hR.cell 1 _ rfl
      have r2 := hR.cell 2 _ rfl
      have r3 := hR.cell 3 _ rfl
      have f0 := hR.free 0
      have f1 := hR.free 1
      have f2 := hR.free 2
      have f3 := hR.free 3
      have hlr := hR.lt
      have hlo := hO.lt
      have HLO := hid hlo
      clear hO hR
      go_wp2_with fail
      refine bodyPost_ret (v := .agg #[.int .i64 num, .slice wa wn wc, .slice ta tn tc, .slice oa i oc]) ?_ rfl ⟨_, rfl, ?_, ?_⟩
      · simp [results, Tryz.results26, go_sem, r0, r1, r2, r3]
      · have hBw : w.heap.size ≤ B + 1 := by rw [← HBB.out]; omega
        (repeat (first | with_reducible exact Below.refl _ _ | with_reducible refine Below.setCell ?_ (by first | omega | (simp; omega) | (simp; done)) _ | with_reducible refine Below.alloc ?_ (by first | omega | (simp; omega) | (simp; done)) _ | with_reducible refine below_drewN ?_ _ | with_reducible refine Below.drew ?_))
        rw [← HBB.out]
        exact HI.out.1
      · intro w2 hw2
        have hag : ∀ b', b' < wr.heap.size → (b' < w0.heap.size ∨ B + 1 + 1 + 1 ≤ b') → w2.heap[b']? = wr.heap[b']? := by
          intro b' hlt' hc
          have hne : b' ≠ B + 1 := by have := HN0.out; omega
          refine (hw2 b' (by simpa using hlt') (hc.imp id fun h => by rw [← HBB.out]; omega)).trans ?_
          rw [Below.heap_setCell _ _ _ b' hne, Below.heap_setCell _ _ _ b' hne, Below.heap_setCell _ _ _ b' hne, Below.heap_setCell _ _ _ b' hne]
        have hsub := HI.out.2.2.2.2.2.at (by rw [List.length_take]; omega) hag
        rw [HSN.out, List.take_length] at hsub
        refine HFIN.out w2 (keep_apart rfl (HBB0.out.trans (HI.out.1.mono HN0.out)) hag) _ ?_
        rw [HSN.out]
        exact hsub
end Go.Proofs.YtaefpjecalnbcaaGreat
namespace Go.Proofs.YtaefpjecalnbcaaGreat
open Go.RowKit
def s32 (x : Nat) : Int := if x % 4294967296 < 2147483648 then ((x % 4294967296 : Nat) : Int) else ((x % 4294967296 : Nat) : Int) - 4294967296
def w32 (x : Nat) : Nat := if x % 4294967296 < 2147483648 then x % 4294967296 else x % 4294967296 + 18446744069414584320
def kcanon (k : Int) (x : Nat) : Nat := if k = 1 ∨ k = 8 then w32 x else if k = 7 then (if 0 < x then 1 else 0) else if k = 3 ∨ k = 5 ∨ k = 9 ∨ k = 10 ∨ k = 11 then x % 4294967296 else x
theorem w32_lt (x : Nat) : w32 x < 2 ^ 64 := by unfold w32; split <;> omega
theorem kcanon_lt (k : Int) {x : Nat} (h : x < 2 ^ 64) : kcanon k x < 2 ^ 64 := by
  unfold kcanon
  have := w32_lt x
  split
  · exact this
  · split
    · split <;> omega
    · split <;> omega
set_option maxRecDepth 100000 in
set_option maxHeartbeats 4000000 in
theorem bits_Low32 (x : Nat) (w : World) :
    Calls Tryz.prog 140 #[.int .u64 x] w fun e w' => e = .returned (.int .u32 ((x % 4294967296 : Nat) : Int)) ∧ w = w' := by
  go_enter Tryz.func140, Tryz.ntmps140
  go_wp2
  go_ret
  exact ⟨ret1 (int_eq (by omega)), rfl⟩
set_option maxRecDepth 100000 in
set_option maxHeartbeats 4000000 in
theorem bits_Sign32 (x : Nat) (w : World) :
    Calls Tryz.prog 138 #[.int .u64 x] w fun e w' => e = .returned (.int .i32 (s32 x)) ∧ w = w' := by
  have h : IntKind.i32.wrap ((x : Int) % 4294967296) = s32 x := by
    unfold s32
    simp [IntKind.wrap, IntKind.bits, IntKind.signed]
    split <;> split <;> omega
  go_enter Tryz.func138, Tryz.ntmps138
  go_wp2
  go_ret
  exact ⟨ret1 (int_eq (by first | exact h | rw [← h])), rfl⟩
set_option maxRecDepth 100000 in
set_option maxHeartbeats 4000000 in
theorem bits_Wide32 (x : Nat) (w : World) :
    Calls Tryz.prog 137 #[.int .i32 (s32 x)] w fun e w' => e = .returned (.int .u64 (w32 x)) ∧ w = w' := by
  have h : (s32 x) % 18446744073709551616 = (w32 x : Int) := by
    unfold s32 w32
    split <;> omega
  have h2 : -2147483648 ≤ s32 x ∧ s32 x < 2147483648 := by
    unfold s32
    split <;> omega
  generalize s32 x = z at *
  go_enter Tryz.func137, Tryz.ntmps137
  go_wp2
  go_ret
  exact ⟨ret1 (int_eq (by first | exact h | (rw [← h]; omega))), rfl⟩
set_option maxRecDepth 100000 in
set_option maxHeartbeats 4000000 in
theorem ref01_Sign32 (x : Nat) (w : World) :
    Calls Tryz.prog 123 #[.int .u64 x] w fun e w' => e = .returned (.int .i64 (s32 x)) ∧ w = w' := by
  obtain ⟨m, hm⟩ : ∃ m : Int, (x : Int) % 4294967296 = m := ⟨_, rfl⟩
  have hm0 : 0 ≤ m ∧ m < 4294967296 := by omega
  have hcv : IntKind.i64.wrap m = m := IntWalk.i64_in _ (by omega)
  by_cases h : m < 2147483648
  · have HS : Hid (m = s32 x) := by unfold s32; rw [if_pos (by omega)]; rw [Hid]; omega
    go_enter Tryz.func123, Tryz.ntmps123
    go_wp2
    go_ret
    exact ⟨ret1 (int_eq HS.out), rfl⟩
  · have HS : Hid (m - 4294967296 = s32 x) := by unfold s32; rw [if_neg (by omega)]; rw [Hid]; omega
    go_enter Tryz.func123, Tryz.ntmps123
    go_wp2
    go_ret
    exact ⟨ret1 (int_eq HS.out), rfl⟩
set_option maxRecDepth 100000 in
set_option maxHeartbeats 4000000 in
theorem ref01_Wide (x : Nat) (w : World) :
    Calls Tryz.prog 122 #[.int .i64 (s32 x)] w fun e w' => e = .returned (.int .u64 (w32 x)) ∧ w = w' := by
  by_cases h : x % 4294967296 < 2147483648
  · have h1 : s32 x = ((x % 4294967296 : Nat) : Int) := by unfold s32; rw [if_pos h]
    have h2 : w32 x = x % 4294967296 := by unfold w32; rw [if_pos h]
    rw [h1, h2]
    generalize x % 4294967296 = m at *
    clear h1 h2
    go_enter Tryz.func122, Tryz.ntmps122
    go_wp2
    go_ret
    exact ⟨ret1 (int_eq (by omega)), rfl⟩
  · have h1 : s32 x = ((x % 4294967296 : Nat) : Int) - 4294967296 := by unfold s32; rw [if_neg h]
    have h2 : w32 x = x % 4294967296 + 18446744069414584320 := by unfold w32; rw [if_neg h]
    have h3 : s32 x < 0 := by omega
    have h4 : -2147483648 ≤ s32 x := by omega
    have h5 : ((w32 x : Nat) : Int) = 18446744073709551615 - (-(s32 x + 1)) := by rw [h1, h2]; omega
    generalize s32 x = z at *
    rw [← Int.ofNat_inj] at h2
    generalize w32 x = y at *
    clear h1 h2 h
    go_enter Tryz.func122, Tryz.ntmps122
    go_wp2
    go_ret
    exact ⟨ret1 (int_eq (by omega)), rfl⟩
end Go.Proofs.YtaefpjecalnbcaaGreat
namespace Go.Proofs.YtaefpjecalnbcaaGreat
open Go.RowKit
/-- Fits a value a field? R: is a meaning one of a message? -/
def fitsB {α : Type} (R : Int → α → Bool) (f : Fld) (x : Val α) : Bool :=
  if x.words.length + x.texts.length + x.subs.length = 0 ∨ 1 < x.words.length + x.texts.length + x.subs.length ∧ f.rep = false then false
  else if knumber f.kind = true then decide (x.texts.length = 0 ∧ x.subs.length = 0) && x.words.all fun w => decide (kcanon f.kind w = w)
  else if f.kind = 17 then decide (x.words.length = 0 ∧ x.texts.length = 0) && x.subs.all (R f.of)
  else if f.kind = 15 then decide (x.words.length = 0 ∧ x.subs.length = 0) && x.texts.all fun t => decide (ufirst t = t.length)
  else decide (f.kind = 16) && decide (x.words.length = 0 ∧ x.subs.length = 0)
/-- an unknown record of a message? -/
def strangeB (fs : List Fld) (t : List UInt8) : Bool := decide ((rnext t 0).2 = 0 ∧ (rnext t 0).1.to = t.length) && decide (fieldAt fs (rnext t 0).1.number < 0)
def valsB {α : Type} (F : Fld → Val α → Bool) (fs : List Fld) : List (Val α) → Int → Bool
  | [], _ => true
  | x :: r, last => if fieldAt fs x.num < 0 ∨ x.num ≤ last ∨ F (fs.getD (fieldAt fs x.num).toNat .zero) x = false then false else valsB F fs r x.num
def rightB (s : List Mes) : (d : Nat) → Int → M d → Bool
  | 0, _, _ => false
  | d + 1, root, x => if root < 0 ∨ (s.length : Int) ≤ root then false else
      valsB (fitsB (rightB s d)) (s.getD root.toNat .zero).fields (M.vals x) 0 && (M.unk x).all (strangeB (s.getD root.toNat .zero).fields)
end Go.Proofs.YtaefpjecalnbcaaGreat
namespace Go.Proofs.YtaefpjecalnbcaaGreat
open Go.RowKit
def getV {α : Type} (l : List (Val α)) (n : Int) : Option (Val α) := l.find? fun v => decide (v.num = n)
def RiseV {α : Type} (l : List (Val α)) : Prop := l.Pairwise fun a b => a.num < b.num
/-- ahead of the first whose number is not smaller; one of the same number goes -/
def putV {α : Type} (v : Val α) : List (Val α) → List (Val α)
  | [] => [v]
  | x :: r => if x.num < v.num then x :: putV v r else if x.num = v.num then v :: r else v :: x :: r
theorem getV_nil {α : Type} (n : Int) : getV ([] : List (Val α)) n = none := rfl
theorem getV_cons {α : Type} (x : Val α) (r : List (Val α)) (n : Int) : getV (x :: r) n = if x.num = n then some x else getV r n := by
  unfold getV
  rw [List.find?_cons]
  by_cases h : x.num = n
  · simp [h]
  · simp [h]
theorem getV_num {α : Type} {l : List (Val α)} {n : Int} {v : Val α} (h : getV l n = some v) : v.num = n ∧ v ∈ l := by
  have h1 := List.find?_some h
  exact ⟨by simpa using h1, List.mem_of_find?_eq_some h⟩
theorem RiseV.nodup {α : Type} {l : List (Val α)} (h : RiseV l) : (l.map (·.num)).Nodup := by
  unfold RiseV at h
  induction h with
  | nil => simp
  | cons h1 _ ih =>
    rw [List.map_cons, List.nodup_cons]
    refine ⟨fun hm => ?_, ih⟩
    obtain ⟨y, hy, e⟩ := List.mem_map.1 hm
    have := h1 y hy
    omega
theorem RiseV.tail {α : Type} {x : Val α} {r : List (Val α)} (h : RiseV (x :: r)) : RiseV r ∧ ∀ y ∈ r, x.num < y.num := by
  unfold RiseV at *
  rw [List.pairwise_cons] at h
  exact ⟨h.2, h.1⟩
theorem getV_mem {α : Type} {l : List (Val α)} (h : RiseV l) {v : Val α} (hv : v ∈ l) : getV l v.num = some v := by
  induction l with
  | nil => simp at hv
  | cons x r ih =>
    obtain ⟨h1, h2⟩ := h.tail
    rw [getV_cons]
    rcases List.mem_cons.1 hv with rfl | hv
    · rw [if_pos rfl]
    · rw [if_neg (by have := h2 v hv; omega)]
      exact ih h1 hv
theorem getV_low {α : Type} {l : List (Val α)} {n : Int} (h : ∀ y ∈ l, n < y.num) : getV l n = none := by
  unfold getV
  rw [List.find?_eq_none]
  intro y hy
  have := h y hy
  simp; omega
theorem putV_mem {α : Type} {v y : Val α} : ∀ {l : List (Val α)}, y ∈ putV v l → y = v ∨ y ∈ l
  | [], h => by simp [putV] at h; exact .inl h
  | x :: r, h => by
    unfold putV at h
    split at h
    · rcases List.mem_cons.1 h with e | h
      · exact .inr (by simp [e])
      · rcases putV_mem h with e | h
        · exact .inl e
        · exact .inr (by simp [h])
    · split at h
      · rcases List.mem_cons.1 h with e | h
        · exact .inl e
        · exact .inr (by simp [h])
      · rcases List.mem_cons.1 h with e | h
        · exact .inl e
        · exact .inr h
theorem putV_rise {α : Type} {v : Val α} : ∀ {l : List (Val α)}, RiseV l → RiseV (putV v l)
  | [], _ => by simp [putV, RiseV]
  | x :: r, h => by
    obtain ⟨h1, h2⟩ := h.tail
    unfold putV
    split
    · rename_i hlt
      refine List.pairwise_cons.2 ⟨fun y hy => ?_, putV_rise h1⟩
      rcases putV_mem hy with e | hy
      · rw [e]; exact hlt
      · exact h2 y hy
    · split
      · rename_i e
        exact List.pairwise_cons.2 ⟨fun y hy => by have := h2 y hy; omega, h1⟩
      · refine List.pairwise_cons.2 ⟨fun y hy => ?_, h⟩
        rcases List.mem_cons.1 hy with e | hy
        · rw [e]; omega
        · have := h2 y hy; omega
theorem putV_get {α : Type} {v : Val α} : ∀ {l : List (Val α)}, RiseV l → ∀ n, getV (putV v l) n = if v.num = n then some v else getV l n
  | [], _, n => by simp [putV, getV_cons]
  | x :: r, h, n => by
    obtain ⟨h1, h2⟩ := h.tail
    unfold putV
    split
    · rename_i hlt
      rw [getV_cons, putV_get h1, getV_cons]
      by_cases e : x.num = n
      · rw [if_pos e, if_neg (by omega), if_pos e]
      · rw [if_neg e, if_neg e]
    · split
      · rename_i e
        rw [getV_cons, getV_cons]
        by_cases e2 : v.num = n
        · rw [if_pos e2, if_pos e2]
        · rw [if_neg e2, if_neg e2, if_neg (by omega)]
      · rw [getV_cons]
/-- two values of a field, joined -/
def bothV {α : Type} (J : Int → α → α → α) (f : Fld) (w v : Val α) : Val α :=
  if f.rep = true then ⟨v.num, w.words ++ v.words, w.texts ++ v.texts, w.subs ++ v.subs⟩
  else if f.kind = 17 then ⟨v.num, [], [], (w.subs.zip v.subs).take 1 |>.map fun p => J f.of p.1 p.2⟩ else v
theorem bothV_num {α : Type} (J : Int → α → α → α) (f : Fld) (w v : Val α) : (bothV J f w v).num = v.num := by
  unfold bothV
  split
  · rfl
  · split <;> rfl
/-- the value that v becomes beside those of a -/
def withV {α : Type} (g : Val α → Val α → Val α) (a : List (Val α)) (v : Val α) : Val α := match getV a v.num with | some w => g w v | none => v
theorem withV_num {α : Type} {g : Val α → Val α → Val α} (hg : ∀ w v, (g w v).num = v.num) (a : List (Val α)) (v : Val α) : (withV g a v).num = v.num := by
  unfold withV
  split
  · exact hg _ _
  · rfl
def joinV {α : Type} (g : Val α → Val α → Val α) (a b : List (Val α)) : List (Val α) := b.foldl (fun out v => putV (withV g a v) out) a
def joinM (s : List Mes) : (d : Nat) → Int → M d → M d → M d
  | 0, _, x, _ => x
  | d + 1, root, x, y => (⟨joinV (fun w v => bothV (joinM s d) ((s.getD root.toNat .zero).fields.getD (fieldAt (s.getD root.toNat .zero).fields v.num).toNat .zero) w v) (M.vals x) (M.vals y), M.unk x ++ M.unk y⟩ : Msgd (M d))
theorem fold_rise {α : Type} (k : Val α → Val α) : ∀ (b a : List (Val α)), RiseV a → RiseV (b.foldl (fun out v => putV (k v) out) a)
  | [], _, h => h
  | _x :: r, _a, h => fold_rise k r _ (putV_rise h)
theorem fold_get {α : Type} {k : Val α → Val α} (hk : ∀ v, (k v).num = v.num) : ∀ (b a : List (Val α)), RiseV a → RiseV b → ∀ n, getV (b.foldl (fun out v => putV (k v) out) a) n = match getV b n with | some v => some (k v) | none => getV a n
  | [], a, _, _, n => rfl
  | x :: r, a, ha, hb, n => by
    obtain ⟨b1, b2⟩ := hb.tail
    rw [List.foldl_cons, fold_get hk r _ (putV_rise ha) b1, getV_cons, putV_get ha, hk]
    by_cases e : x.num = n
    · subst e
      rw [getV_low b2, if_pos rfl, if_pos rfl]
    · rw [if_neg e, if_neg e]
theorem joinV_rise {α : Type} (g : Val α → Val α → Val α) {a b : List (Val α)} (ha : RiseV a) : RiseV (joinV g a b) := fold_rise _ _ _ ha
theorem joinV_get {α : Type} {g : Val α → Val α → Val α} (hg : ∀ w v, (g w v).num = v.num) {a b : List (Val α)} (ha : RiseV a) (hb : RiseV b) (n : Int) :
    getV (joinV g a b) n = match getV b n with | some v => some (withV g a v) | none => getV a n := fold_get (withV_num hg a) b a ha hb n
end Go.Proofs.YtaefpjecalnbcaaGreat
