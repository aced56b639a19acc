/- The iterator of run.values: for every caller that keeps its word between two rounds: the values come one by one, up to the first that is not there. -/
import Derived.Test.YtgephhmkaonahaaSpecRun
import Derived.RangeFuncFrom
import Derived.WalkKit
import Derived.OwnWalkIn
import Derived.TacticsInMore
import Derived.RegionIn
import Derived.LoopNIn
import Derived.LoopIn
import Derived.Shelf.Abstract
namespace Go.Proofs.Ytgephhmkaonahaa
open Go.RowKit Go.Shelf
attribute [local go_sem] Oper.semAt_some

theorem Blk.put {W : World} {b r : Nat} {cs : List Value} {T : TypeId} (h : Blk W b cs T) (o : Obj) (hne : b ≠ r) : Blk (W.putObj r o) b cs T :=
  (World.putObj_heap_other hne).trans h

theorem below_put {H : Nat} (W : World) (l : Nat) (o : Obj) (h : H ≤ l) : Below H W (W.putObj l o) :=
  ⟨rfl, rfl, rfl, by simp [World.putObj], fun b hb => World.putObj_heap_other (by omega)⟩

/-- Two results in boxes of their own are stored, then the block of the rounds' deferred calls is shut. -/
theorem two_results {w W : World} {H B0 B1 BD : Nat} {u0 u1 : Value} {T0 T1 : TypeId} (r0 : Blk W B0 [u0] T0) (r1 : Blk W B1 [u1] T1) (hD : W.heap[BD]? = some (.deferred (some [])))
    (h01 : B0 ≠ B1) (h0 : H ≤ B0) (h1 : H ≤ B1) (hHD : H ≤ BD) (hB : Below H w W) (x y : Value) :
    ((W.setCell ⟨B0, 0, none⟩ x).setCell ⟨B1, 0, none⟩ y).heap[BD]? = some (.deferred (some [])) ∧
    (((W.setCell ⟨B0, 0, none⟩ x).setCell ⟨B1, 0, none⟩ y).putObj BD (.deferred none)).cell? ⟨B0, 0, none⟩ = some x ∧
    (((W.setCell ⟨B0, 0, none⟩ x).setCell ⟨B1, 0, none⟩ y).putObj BD (.deferred none)).cell? ⟨B1, 0, none⟩ = some y ∧
    Below H w (((W.setCell ⟨B0, 0, none⟩ x).setCell ⟨B1, 0, none⟩ y).putObj BD (.deferred none)) := by
  have n0 : BD ≠ B0 := by rintro rfl; unfold Blk at r0; rw [r0] at hD; cases hD
  have n1 : BD ≠ B1 := by rintro rfl; unfold Blk at r1; rw [r1] at hD; cases hD
  have d1 : (W.setCell ⟨B0, 0, none⟩ x).heap[BD]? = some (.deferred (some [])) := (Below.heap_setCell W _ _ _ n0).trans hD
  have d2 : ((W.setCell ⟨B0, 0, none⟩ x).setCell ⟨B1, 0, none⟩ y).heap[BD]? = some (.deferred (some [])) := (Below.heap_setCell _ _ _ _ n1).trans d1
  have s0 : Blk (W.setCell ⟨B0, 0, none⟩ x) B0 [x] T0 := r0.set 0 x
  have s1 : Blk (W.setCell ⟨B0, 0, none⟩ x) B1 [u1] T1 := r1.set_other _ _ (Ne.symm h01)
  have t0 : Blk ((W.setCell ⟨B0, 0, none⟩ x).setCell ⟨B1, 0, none⟩ y) B0 [x] T0 := s0.set_other _ _ h01
  have t1 : Blk ((W.setCell ⟨B0, 0, none⟩ x).setCell ⟨B1, 0, none⟩ y) B1 [y] T1 := s1.set 0 y
  refine ⟨d2, (t0.put _ (Ne.symm n0)).cell 0 _ rfl, (t1.put _ (Ne.symm n1)).cell 0 _ rfl, ?_⟩
  have b2 : Below H w ((W.setCell ⟨B0, 0, none⟩ x).setCell ⟨B1, 0, none⟩ y) := (hB.setCell h0 _).setCell h1 _
  exact b2.trans (below_put _ _ _ hHD)
/-- Results that a round has stored already. -/
theorem two_results0 {w W : World} {H B0 B1 BD : Nat} {u0 u1 : Value} {T0 T1 : TypeId} (r0 : Blk W B0 [u0] T0) (r1 : Blk W B1 [u1] T1) (hD : W.heap[BD]? = some (.deferred (some [])))
    (hHD : H ≤ BD) (hB : Below H w W) :
    (W.putObj BD (.deferred none)).cell? ⟨B0, 0, none⟩ = some u0 ∧ (W.putObj BD (.deferred none)).cell? ⟨B1, 0, none⟩ = some u1 ∧ Below H w (W.putObj BD (.deferred none)) := by
  have n0 : BD ≠ B0 := by rintro rfl; unfold Blk at r0; rw [r0] at hD; cases hD
  have n1 : BD ≠ B1 := by rintro rfl; unfold Blk at r1; rw [r1] at hD; cases hD
  exact ⟨(r0.put _ (Ne.symm n0)).cell 0 _ rfl, (r1.put _ (Ne.symm n1)).cell 0 _ rfl, hB.trans (below_put _ _ _ hHD)⟩

def slLen : Option Value → Nat
  | some (.slice _ n _) => n
  | _ => 0

/-- Where the values stop: behind all, at one that is not there; or earlier, by the caller's will. -/
def RunStops (wire : Nat) (l : List UInt8) (pre : List (List UInt8)) (x : List UInt8) (e : Nat) : Prop :=
  e ≠ 0 ∧ pre = rpieces wire l ∧ e = (runCount wire l).2 ∨ e = 0 ∧ ∃ r, rpieces wire l = pre ++ x :: r

theorem kind_Wire_num (k : Int) (h : knumber k = true) (w : World) :
    Calls Try.prog 91 #[.int .i64 k] w fun e w' => e = .returned (.tuple #[.int .i64 (kwire k), .int .u8 0]) ∧ Below w.heap.size w w' := by
  have h2 : kright k = true := by unfold knumber at h; unfold kright; simp at h ⊢; omega
  have := kind_Wire k w
  rw [if_pos h2] at this
  exact this

set_option maxRecDepth 100000 in
set_option maxHeartbeats 4000000 in
theorem run_values1 (n : Nat) (hn : 1 ≤ n) (l kb bb : Nat) (k : Int) (hk : knumber k = true) {w : World} {v : Value} {ls : List UInt8} (hv : Bytes w v ls)
    (J : List (List UInt8) → Value → World → Prop) (Jx : List (List UInt8) → List UInt8 → Nat → World → Prop)
    (h1 : ∀ pre bv W, J pre bv W → W.cell? ⟨kb, 0, none⟩ = some (.int .i64 k) ∧ W.cell? ⟨bb, 0, none⟩ = some bv ∧ W.frozen? ⟨bb, 0, none⟩ = false ∧ Below w.heap.size w W)
    (h2 : ∀ pre bv W W', J pre bv W → Below W.heap.size W W' → J pre bv W')
    (h3 : ∀ pre bv bv' W, J pre bv W → J pre bv' (W.setCell ⟨bb, 0, none⟩ bv'))
    (hY : ∀ pre bv W a m c x e, pre.length ≤ ls.length → J pre bv W → Bytes w (.slice a m c) x → YieldAt Fence.wide (n - 1) Try.prog l #[.agg #[.slice a m c, .int .u8 ((e : Nat) : Int)]] W fun e' W' =>
      (e = 0 ∧ e' = .returned (.bool true) ∧ J (pre ++ [x]) bv W') ∨ (e = 0 ∧ e' = .returned (.bool false) ∧ Jx pre x e W') ∨ (e ≠ 0 ∧ (∃ b, e' = .returned (.bool b)) ∧ Jx pre x e W'))
    (W : World) (h0 : J [] v W) :
    CallsIn Fence.wide n Try.prog 203 #[.func (.yield l) #[] #[], .pointer (some ⟨kb, 0, none⟩), .pointer (some ⟨bb, 0, none⟩)] W fun e W' => (∃ v, e = .returned v) ∧
      (((runCount (kwire k) ls).2 = 0 ∧ ∃ bv, J (rpieces (kwire k) ls) bv W') ∨ ∃ pre x e, RunStops (kwire k) ls pre x e ∧ Jx pre x e W') := by
  refine callsIn_of_wp Try.func203 rfl trivial ?_ rfl
  simp only [Try.ntmps203, List.size_toArray, List.length_cons, List.length_nil, Nat.reduceAdd, Nat.reduceSub, Array.replicate_succ, Array.replicate_zero, List.push_toArray, List.append_toArray, List.nil_append, List.cons_append]
  obtain ⟨c0, -, -, -⟩ := h1 _ _ _ h0
  have HK := hid hk
  clear hk
  gi_wp2_with ((first | (refine ⟨trivial, ?_⟩; gi_at_call 82; refine (callsIn_wide.2 (kind_Number k _)).mono ?_; rintro e w1 ⟨rfl, hb1⟩; rw [HK.out]; have h01 := h2 _ _ _ _ h0 hb1; obtain ⟨c1, -, -, -⟩ := h1 _ _ _ h01; clear c0) | (refine ⟨trivial, ?_⟩; gi_at_call 91; refine (callsIn_wide.2 (kind_Wire_num k HK.out _)).mono ?_; rintro e w2 ⟨rfl, hb2⟩)))
  have h02 := h2 _ _ _ _ h01 hb2
  clear c1 h01 hb1 hb2 h0
  gi_loopw [6] (fun _ wr => ∃ pre rest bv, J pre bv wr ∧ Hid (Bytes w bv rest ∧ rpieces (kwire k) ls = pre ++ rpieces (kwire k) rest ∧ (runCount (kwire k) ls).2 = (runCount (kwire k) rest).2)) (fun _ wr => slLen (wr.cell? ⟨bb, 0, none⟩))
  case atStart => exact ⟨[], ls, v, h02, hv, rfl, rfl⟩
  case round =>
    obtain ⟨pre, rest, bv, hJ, HR⟩ := hrel
    obtain ⟨ck, cb, fb, hbel⟩ := h1 _ _ _ hJ
    obtain ⟨hlen, a, cap, rfl, -, -, -, -⟩ := HR.out.1.open
    have HB := hid hbel
    clear hbel
    obtain ⟨rl, HRL⟩ : ∃ rl, Hid (rl = rest.length) := ⟨_, rfl⟩
    rw [← HRL.out] at hlen HR cb hJ
    have hpl0 : pre.length ≤ ls.length := by
      have h5 := rpieces_len (kwire k) _ ls (Nat.le_refl _)
      rw [HR.out.2.1, List.length_append] at h5; omega
    by_cases hr : rest = []
    · obtain rfl : rl = 0 := by rw [HRL.out, hr]; rfl
      have HRN := hid hr
      clear hr
      gi_wp2
      go_end0
      refine ⟨⟨_, rfl⟩, .inl ⟨?_, .slice a 0 cap, ?_⟩⟩
      · rw [HR.out.2.2, HRN.out]; rfl
      · rw [HR.out.2.1, HRN.out, rpieces_nil, List.append_nil]; exact hJ
    · have hpos : 0 < rl := by rw [HRL.out]; exact List.length_pos_iff.2 hr
      have HRN := hid hr
      clear hr
      have hbw : Bytes wr (.slice a rl cap) rest := HR.out.1.keep (below_keeps HB.out)
      rcases runSize_cases (kwire k) rest with ⟨m, e, g1, g2, g3⟩ | ⟨c, e, hc⟩
      · rw [← HRL.out] at g3
        obtain ⟨pv, hps, hpb⟩ := HR.out.1.h HRL.out m g3
        obtain ⟨hpl, pa, pc, rfl, -, -, -, -⟩ := hpb.open
        obtain ⟨lv, hls, hlb⟩ := HR.out.1.l HRL.out m g3
        obtain ⟨hll, la, lc, rfl, -, -, -, -⟩ := hlb.open
        have hpl' : (rest.take m).length = m := by rw [List.length_take, ← HRL.out]; omega
        rw [hpl'] at hps hpb hpl
        have hll' : (rest.drop m).length = rl - m := by rw [List.length_drop, ← HRL.out]
        rw [hll'] at hls hlb hll
        have HPB := hid hpb
        have HLB := hid hlb
        clear hpl' hll' hpb hlb
        have HCB := hid cb
        obtain ⟨fn, tmps, assign, body, hy, hRd⟩ := hY pre _ wr _ _ _ (rest.take m) 0 hpl0 hJ HPB.out
        rw [show ((0 : Nat) : Int) = 0 from rfl] at hy
        clear hpl0
        have HE := hid e
        clear e
        have hn1 : 1 ≤ n := hn
        gi_wp2_with (refine ⟨trivial, ?_⟩; gi_at_call 204; refine (callsIn_wide.2 (run_size hbw (kwire k))).mono ?_; rintro e w' ⟨rfl, rfl⟩; rw [HE.out])
        refine hRd.mono ?_
        rintro e' W' (⟨-, rfl, hJ'⟩ | ⟨-, rfl, hX⟩ | ⟨h, -, -⟩)
        · obtain ⟨ck', cb', fb', hbel'⟩ := h1 _ _ _ hJ'
          clear hbel' ck ck' cb fb hy hRd
          gi_wp2
          have HST := hid (rpieces_step (kwire k) rest HRN.out m HE.out)
          have HCT := hid (runCount_step (kwire k) rest HRN.out m HE.out)
          go_roundw
          case rel =>
            refine ⟨pre ++ [rest.take m], rest.drop m, _, h3 _ _ _ _ hJ', HLB.out, ?_, ?_⟩
            · rw [HR.out.2.1, HST.out]; simp
            · rw [HR.out.2.2, HCT.out]
              by_cases h0 : (runCount (kwire k) (rest.drop m)).2 = 0 <;> simp [h0]
          case measure =>
            rw [World.cell?_setCell_same' _ _ _ (by rw [cb']; rfl), HCB.out]
            show rl - m < rl
            omega
        · gi_wp2
          refine bodyPost_ret (results_none rfl _ _ _) rfl ?_
          exact ⟨⟨_, rfl⟩, .inr ⟨pre, rest.take m, 0, .inr ⟨rfl, _, by rw [HR.out.2.1, rpieces_step (kwire k) rest HRN.out m HE.out]⟩, hX⟩⟩
        · exact absurd rfl h
      · obtain ⟨pv, hps, hpb⟩ := HR.out.1.h HRL.out 0 (by omega)
        obtain ⟨hpl, pa, pc, rfl, -, -, -, -⟩ := hpb.open
        rw [List.take_zero] at hps hpb hpl
        simp only [List.length_nil, Int.natCast_zero] at hps hpb
        have HPB := hid hpb
        clear hpb
        have hc0 : c ≠ 0 := by omega
        obtain ⟨fn, tmps, assign, body, hy, hRd⟩ := hY pre _ wr _ _ _ [] c hpl0 hJ HPB.out
        have e1 : ((c : Int) != 0) = true := by simp; omega
        clear hpl0
        have HE := hid e
        have HC := hid hc
        have HC0 := hid hc0
        clear e hc hc0
        gi_wp2_with (refine ⟨trivial, ?_⟩; gi_at_call 204; refine (callsIn_wide.2 (run_size hbw (kwire k))).mono ?_; rintro e w' ⟨rfl, rfl⟩; rw [HE.out])
        refine hRd.mono ?_
        rintro e' W' (⟨h, -, -⟩ | ⟨h, -, -⟩ | ⟨-, ⟨b, rfl⟩, hX⟩)
        · exact absurd h HC0.out
        · exact absurd h HC0.out
        · have HX := hid hX
          clear hX
          cases b
          all_goals
            gi_wp2
            refine bodyPost_ret (results_none rfl _ _ _) rfl ?_
            exact ⟨⟨_, rfl⟩, .inr ⟨pre, [], c, .inl ⟨HC0.out, by rw [HR.out.2.1, rpieces_bad (kwire k) rest c HC0.out (by rw [HE.out]), List.append_nil], by rw [HR.out.2.2, runCount_bad (kwire k) rest HRN.out c HC0.out (by rw [HE.out])]⟩, HX.out⟩⟩

end Go.Proofs.Ytgephhmkaonahaa
