/- The frames of a stream: plain law; the iterator frames.frames$1, whose rounds are these frames. -/
import Derived.Test.YtgephhmkaonahaaFirst
import Derived.Test.YtgephhmkaonahaaPut
namespace Go.Proofs.Ytgephhmkaonahaa
open Go.RowKit Go.Shelf
attribute [local go_sem] Oper.semAt_some

/-- A frame: its number, its place, where its bytes begin and end, the code -/
structure Ev where
  i : Nat
  at' : Nat
  ff : Nat
  tt : Nat
  c : Nat
/-- from, to, code -/
def fstep (l : List UInt8) (p : Nat) : Nat × Nat × Nat :=
  if (vread (l.drop p)).2.2 ≠ 0 then (0, 0, (vread (l.drop p)).2.2) else
  if l.length - p - (vread (l.drop p)).2.1 < (vread (l.drop p)).1 then (0, 0, 3) else (p + (vread (l.drop p)).2.1, p + (vread (l.drop p)).2.1 + (vread (l.drop p)).1, 0)

theorem fstep_cases (l : List UInt8) (p : Nat) (hp : p ≤ l.length) :
    (∃ c, vread (l.drop p) = (0, 0, c) ∧ (c = 3 ∨ c = 4) ∧ fstep l p = (0, 0, c)) ∨
    (∃ x n, vread (l.drop p) = (x, n, 0) ∧ x < 2 ^ 64 ∧ 0 < n ∧ p + n ≤ l.length ∧ l.length - p - n < x ∧ fstep l p = (0, 0, 3)) ∨
    (∃ x n, vread (l.drop p) = (x, n, 0) ∧ 0 < n ∧ p + n + x ≤ l.length ∧ fstep l p = (p + n, p + n + x, 0)) := by
  unfold fstep
  rcases vread_cases (l.drop p) with ⟨x, n, e, h1, h2, h3, h4⟩ | ⟨c, e, hc⟩
  · rw [List.length_drop] at h3
    rw [e]
    by_cases h : l.length - p - n < x
    · exact .inr (.inl ⟨x, n, rfl, by omega, h1, by omega, h, by simp [h]⟩)
    · exact .inr (.inr ⟨x, n, rfl, h1, by omega, by simp [h]⟩)
  · refine .inl ⟨c, e, hc, ?_⟩
    rw [e]
    have : c ≠ 0 := by omega
    simp [this]

def evGo (l : List UInt8) : Nat → Nat → Nat → List Ev
  | 0, _, _ => []
  | k + 1, p, i => if l.length ≤ p then [] else
    if (fstep l p).2.2 ≠ 0 then [⟨i, p, 0, 0, (fstep l p).2.2⟩] else ⟨i, p, (fstep l p).1, (fstep l p).2.1, 0⟩ :: evGo l k (fstep l p).2.1 (i + 1)
def evs (l : List UInt8) (p i : Nat) : List Ev := evGo l l.length p i

theorem evGo_fuel (l : List UInt8) : ∀ (k m p i : Nat), l.length ≤ k + p → l.length ≤ m + p → evGo l k p i = evGo l m p i
  | 0, 0, _, _, _, _ => rfl
  | 0, m + 1, p, i, h, _ => by rw [evGo, evGo, if_pos (by omega)]
  | k + 1, 0, p, i, _, h => by rw [evGo, evGo, if_pos (by omega)]
  | k + 1, m + 1, p, i, h1, h2 => by
    rw [evGo, evGo]
    by_cases hp : l.length ≤ p
    · rw [if_pos hp, if_pos hp]
    rw [if_neg hp, if_neg hp]
    rcases fstep_cases l p (by omega) with ⟨c, -, hc, e⟩ | ⟨x, n, -, -, -, -, -, e⟩ | ⟨x, n, -, hn, hle, e⟩
    · rw [e]; have : c ≠ 0 := by omega
      simp [this]
    · rw [e]; simp
    · rw [e]
      simp only [ne_eq, not_true_eq_false, if_false]
      rw [evGo_fuel l k m (p + n + x) (i + 1) (by omega) (by omega)]
theorem evs_end (l : List UInt8) (p i : Nat) (h : l.length ≤ p) : evs l p i = [] := by
  unfold evs
  cases hl : l.length with
  | zero => rfl
  | succ k => rw [evGo, if_pos (by omega)]
theorem evs_bad (l : List UInt8) (p i c : Nat) (h : p < l.length) (hc : c ≠ 0) (e : fstep l p = (0, 0, c)) : evs l p i = [⟨i, p, 0, 0, c⟩] := by
  unfold evs
  obtain ⟨k, hk⟩ : ∃ k, l.length = k + 1 := ⟨l.length - 1, by omega⟩
  rw [hk, evGo, if_neg (by omega), e]
  simp [hc]
theorem evs_good (l : List UInt8) (p i f t : Nat) (h : p < l.length) (hf : p < t) (e : fstep l p = (f, t, 0)) : evs l p i = ⟨i, p, f, t, 0⟩ :: evs l t (i + 1) := by
  unfold evs
  obtain ⟨k, hk⟩ : ∃ k, l.length = k + 1 := ⟨l.length - 1, by omega⟩
  conv => lhs; rw [hk, evGo, if_neg (by omega), e]
  simp only [ne_eq, not_true_eq_false, if_false]
  rw [evGo_fuel l k l.length t (i + 1) (by omega) (by omega)]
theorem evs_len (l : List UInt8) : ∀ (k p i : Nat), l.length ≤ k + p → (evs l p i).length + p ≤ l.length ∨ (evs l p i).length = 0
  | 0, p, i, h => .inr (by rw [evs_end l p i (by omega)]; rfl)
  | k + 1, p, i, h => by
    by_cases hp : l.length ≤ p
    · exact .inr (by rw [evs_end l p i hp]; rfl)
    · left
      rcases fstep_cases l p (by omega) with ⟨c, -, hc, e⟩ | ⟨x, n, -, -, -, -, -, e⟩ | ⟨x, n, -, hn, hle, e⟩
      · rw [evs_bad l p i c (by omega) (by omega) e]; simp; omega
      · rw [evs_bad l p i 3 (by omega) (by omega) e]; simp; omega
      · rw [evs_good l p i _ _ (by omega) (by omega) e]
        rcases evs_len l k (p + n + x) (i + 1) (by omega) with h5 | h5
        · simp; omega
        · simp; omega

/-- what yield is handed -/
def Ev.val (a : Option Addr) (ln cap : Nat) (e : Ev) : Value := .agg #[if e.c = 0 then sliced a (min e.ff (min e.tt ln)) (min e.tt ln) cap 1 else .slice none 0 0, .int .i64 e.at', .int .u8 e.c]
def Ev.enc (a : Option Addr) (ln cap : Nat) (e : Ev) : Array Value := #[.int .i64 e.i, e.val a ln cap]

def Keeps2 (n₀ Bs : Nat) (W W' : World) : Prop := Below n₀ W W' ∧ W'.heap[Bs]? = W.heap[Bs]?

set_option maxRecDepth 100000 in
set_option maxHeartbeats 4000000 in
theorem frames_frames {w : World} (n : Nat) (va : Option Addr) (vn vc : Nat) :
    CallsIn Fence.wide n Try.prog 37 #[.slice va vn vc] w fun e w' => e = .returned (.func (.func 73) #[] #[.pointer (some ⟨w.heap.size, 0, none⟩)]) ∧ w' = w.alloc (.cells #[.slice va vn vc] 22) := by
  refine callsIn_of_wp Try.func37 rfl trivial ?_ rfl
  simp only [Try.ntmps37, List.size_toArray, List.length_cons, List.length_nil, Nat.reduceAdd, Nat.reduceSub, Array.replicate_succ, Array.replicate_zero, List.push_toArray, List.append_toArray, List.nil_append, List.cons_append]
  gi_wp2
  go_ret
  exact ⟨rfl, rfl⟩

set_option maxRecDepth 100000 in
set_option maxHeartbeats 4000000 in
theorem frames_1 (n : Nat) (hn : 1 ≤ n) (lr Bs : Nat) {w : World} {a : Option Addr} {ln cap : Nat} {l : List UInt8} (hv : Bytes w (.slice a ln cap) l) (hln : ln = l.length)
    (J Jx : List Ev → World → Prop)
    (hY : ∀ pre (x : Ev) W, J pre W → pre.length < l.length → YieldAt Fence.wide (n - 1) Try.prog lr (x.enc a ln cap) W fun e W' =>
      (e = .returned (.bool true) ∧ J (pre ++ [x]) W' ∧ Keeps2 w.heap.size Bs W W') ∨ (e = .returned (.bool false) ∧ Jx (pre ++ [x]) W'))
    (W : World) (hW : Below w.heap.size w W) (hBs : Blk W Bs [.slice a ln cap] 22) (hBw : w.heap.size ≤ Bs) (h0 : J [] W) :
    CallsIn Fence.wide n Try.prog 73 #[.func (.yield lr) #[] #[], .pointer (some ⟨Bs, 0, none⟩)] W fun e W' => (∃ v, e = .returned v) ∧
      ((∃ xs, xs = evs l 0 0 ∧ J xs W') ∨ (∃ pre, pre <+: evs l 0 0 ∧ Jx pre W')) := by
  refine callsIn_of_wp Try.func73 rfl trivial ?_ rfl
  simp only [Try.ntmps73, List.size_toArray, List.length_cons, List.length_nil, Nat.reduceAdd, Nat.reduceSub, Array.replicate_succ, Array.replicate_zero, List.push_toArray, List.append_toArray, List.nil_append, List.cons_append]
  have HL := hid hln
  clear hln
  have hlen := hv.open.1
  rw [← HL.out] at hlen
  have HBW := hid hBw
  have HBs := hid hBs
  have HWB := hid hW
  have HV := hid hv
  clear hBs hW hv hBw
  gi_wp2
  gi_loopw [3, 4] (fun v3 v4 wr => ∃ (p i : Nat) (pre : List Ev), p ≤ ln ∧ v3 = .int .i64 p ∧ v4 = .int .i64 i ∧ Hid (i ≤ p) ∧ Hid (evs l 0 0 = pre ++ evs l p i) ∧ J pre wr ∧ Hid (Below w.heap.size w wr ∧ Blk wr Bs [.slice a ln cap] 22)) (fun v3 _ _ => ln - (intOf v3).toNat)
  case atStart => exact ⟨0, 0, [], by omega, rfl, rfl, Nat.le_refl _, rfl, h0, HWB.out, HBs.out⟩
  case round =>
    obtain ⟨p, i, pre, hp, rfl, rfl, HI, HE, hJ, HB⟩ := hrel
    have cb := HB.out.2.cell 0 _ rfl
    by_cases hlt : p < ln
    · have hpl : p < l.length := by have := HL.out; omega
      have hprel : pre.length < l.length := by
        rcases evs_len l l.length 0 0 (by omega) with h | h
        · have h5 := h
          rw [HE.out, List.length_append] at h5
          have : 0 < (evs l p i).length := by
            rcases fstep_cases l p (by omega) with ⟨c, -, hc, e⟩ | ⟨x, n, -, -, -, -, -, e⟩ | ⟨x, n, -, hn, hle, e⟩
            · rw [evs_bad l p i c (by omega) (by omega) e]; simp
            · rw [evs_bad l p i 3 (by omega) (by omega) e]; simp
            · rw [evs_good l p i _ _ (by omega) (by omega) e]; simp
          omega
        · rw [HE.out, List.length_append] at h
          omega
      obtain ⟨lv, hls, hlb⟩ := HV.out.l HL.out p hp
      obtain ⟨-, la, lc, rfl, -, -, -, -⟩ := hlb.open
      have hlb2 : Bytes wr (.slice la (l.drop p).length lc) (l.drop p) := hlb.keep (below_keeps HB.out.1)
      rw [show (l.drop p).length = ln - p by rw [List.length_drop, ← HL.out]] at hls hlb2
      have HLB := hid hlb2
      clear hlb hlb2
      have bad : ∀ c, (c = 3 ∨ c = 4) → fstep l p = (0, 0, c) → ∃ fn tmps assign body, (Instr.yield lr #[.int .i64 i, .agg #[.slice none 0 0, .int .i64 p, .int .u8 c]]).run Try.prog wr = .ok (.round lr fn tmps assign body) wr ∧ RoundIn Fence.wide (n - 1) Try.prog lr fn tmps assign body wr fun e W' =>
          (∃ b, e = .returned (.bool b)) ∧ ((∃ xs, xs = evs l 0 0 ∧ J xs W') ∨ (∃ pre, pre <+: evs l 0 0 ∧ Jx pre W')) := by
        intro c hc he
        have hev := evs_bad l p i c hpl (by omega) he
        obtain ⟨fn, tmps, assign, body, hy, hR⟩ := hY pre ⟨i, p, 0, 0, c⟩ wr hJ hprel
        have hc0 : c ≠ 0 := by omega
        simp only [Ev.enc, Ev.val, if_neg hc0] at hy
        refine ⟨fn, tmps, assign, body, hy, hR.mono ?_⟩
        rintro e W' (⟨rfl, hJ', -⟩ | ⟨rfl, hJ'⟩)
        · exact ⟨⟨_, rfl⟩, .inl ⟨_, by rw [HE.out, hev], hJ'⟩⟩
        · exact ⟨⟨_, rfl⟩, .inr ⟨_, by rw [HE.out, hev]; exact List.prefix_refl _, hJ'⟩⟩
      rcases fstep_cases l p (by omega) with ⟨c, hv, hc, e⟩ | ⟨x, m, hv, hx64, hm, hpm, hlong, e⟩ | ⟨x, m, hv, hm, hle, e⟩
      · obtain ⟨fn, tmps, assign, body, hy, hRd⟩ := bad c hc e
        have HVR := hid hv
        have ec : ((c : Int) == 0) = false := by simp; omega
        have ec2 : ((c : Int) != 0) = true := by simp; omega
        clear bad hv hc e
        gi_wp2_with (refine ⟨trivial, ?_⟩; gi_at_call 74; refine (callsIn_wide.2 (varint_Read HLB.out)).mono ?_; rintro e w' ⟨rfl, rfl⟩; rw [HVR.out])
        refine hRd.mono ?_
        rintro e' W' ⟨⟨b, rfl⟩, hX⟩
        have HXX := hid hX
        clear hX
        gi_wp2
        refine bodyPost_ret (results_none rfl _ _ _) rfl ?_
        exact ⟨⟨_, rfl⟩, HXX.out⟩
      · obtain ⟨fn, tmps, assign, body, hy, hRd⟩ := bad 3 (.inl rfl) e
        rw [show ((3 : Nat) : Int) = 3 from rfl] at hy
        rw [← HL.out] at hpm hlong
        have HVR := hid hv
        have wl : IntKind.u64.wrap ((ln : Int) - (p : Int) - (m : Int)) = ln - p - m := IntWalk.u64_in _ (by have := HL.out; omega)
        have hlong' : ((ln : Int) - (p : Int) - (m : Int)) < x := by have := HL.out; omega
        clear bad hv e
        gi_wp2_with (refine ⟨trivial, ?_⟩; gi_at_call 74; refine (callsIn_wide.2 (varint_Read HLB.out)).mono ?_; rintro e w' ⟨rfl, rfl⟩; rw [HVR.out])
        refine hRd.mono ?_
        rintro e' W' ⟨⟨b, rfl⟩, hX⟩
        have HXX := hid hX
        clear hX
        gi_wp2
        refine bodyPost_ret (results_none rfl _ _ _) rfl ?_
        exact ⟨⟨_, rfl⟩, HXX.out⟩
      · have hev := evs_good l p i _ _ hpl (by omega) e
        obtain ⟨fn, tmps, assign, body, hy, hRd⟩ := hY pre ⟨i, p, p + m, p + m + x, 0⟩ wr hJ hprel
        rw [← HL.out] at hle
        simp only [Ev.enc, Ev.val, if_true] at hy
        rw [Nat.min_eq_left hle, Nat.min_eq_left (Nat.le_add_right _ _)] at hy
        have HVR := hid hv
        have HEV := hid hev
        have wl : IntKind.u64.wrap ((ln : Int) - (p : Int) - (m : Int)) = ln - p - m := IntWalk.u64_in _ (by have := HL.out; omega)
        have wx : IntKind.i64.wrap (x : Int) = x := IntWalk.i64_in _ (by have := HL.out; omega)
        have hlong' : ¬ ((ln : Int) - (p : Int) - (m : Int)) < x := by have := HL.out; omega
        have hcap : ln ≤ cap := by obtain ⟨_, _, a', c', e', h3, _⟩ := HV.out; cases e'; exact h3
        have hsl := slice_lh_run under_bytes size_u8 a ln cap (p + m) (p + m + x) (by omega) (by have := HL.out; omega)
        obtain ⟨sa, sc, HSV⟩ : ∃ sa sc, Hid (sliced a (p + m) (p + m + x) cap 1 = .slice sa x sc) := ⟨_, _, by show Value.slice _ (p + m + x - (p + m)) _ = _; rw [Nat.add_sub_cancel_left]⟩
        rw [HSV.out] at hy hsl
        simp only [Int.natCast_add, Int.natCast_zero] at hsl hy
        clear bad hv e hev
        gi_wp2_with (refine ⟨trivial, ?_⟩; gi_at_call 74; refine (callsIn_wide.2 (varint_Read HLB.out)).mono ?_; rintro e w' ⟨rfl, rfl⟩; rw [HVR.out])
        refine hRd.mono ?_
        rintro e' W' (⟨rfl, hJ', hk⟩ | ⟨rfl, hJ'⟩)
        · have HK := hid hk
          have hbk2 : Blk W' Bs [.slice a ln cap] 22 := hk.2.trans HB.out.2
          have cb2 := hbk2.cell 0 _ rfl
          clear hbk2
          have HI' : Hid (i + 1 ≤ p + m + x) := by have := HI.out; show _ ≤ _; omega
          have HE' : Hid (evs l 0 0 = (pre ++ [⟨i, p, p + m, p + m + x, 0⟩]) ++ evs l (p + m + x) (i + 1)) := by rw [Hid, HE.out, HEV.out]; simp
          have wi : (i : Int) ≤ 140737488355328 := by have := HI.out; omega
          clear hk hy hRd
          gi_wp2
          go_roundw
          case rel => exact ⟨p + m + x, i + 1, _, hle, by go_num, by go_num, HI', HE', hJ', HB.out.1.trans HK.out.1, HK.out.2.trans HB.out.2⟩
          case measure => simp [intOf]; omega
        · have HXX := hid hJ'
          clear hJ'
          gi_wp2
          refine bodyPost_ret (results_none rfl _ _ _) rfl ?_
          exact ⟨⟨_, rfl⟩, .inr ⟨_, by rw [HE.out, HEV.out]; exact ⟨evs l (p + m + x) (i + 1), by simp⟩, HXX.out⟩⟩
    · obtain rfl : p = ln := by omega
      gi_wp2
      go_end0
      exact ⟨⟨_, rfl⟩, .inl ⟨pre, by rw [HE.out, evs_end l _ i (by rw [HL.out]; exact Nat.le_refl _), List.append_nil], hJ⟩⟩

theorem keeps2_t {n₀ Bs : Nat} {A B C : World} (h : Keeps2 n₀ Bs A B) (k : Keeps2 n₀ Bs B C) : Keeps2 n₀ Bs A C := ⟨h.1.trans k.1, k.2.trans h.2⟩

theorem frames_stops (n : Nat) (hn : 1 ≤ n) (Bs : Nat) {w : World} {a : Option Addr} {ln cap : Nat} {l : List UInt8} (hv : Bytes w (.slice a ln cap) l) (hln : ln = l.length)
    {w1 : World} (h1 : Below w.heap.size w w1) (hBs : Blk w1 Bs [.slice a ln cap] 22) (hBw : w.heap.size ≤ Bs) :
    SeqStopsK Fence.wide n Try.prog 73 #[.pointer (some ⟨Bs, 0, none⟩)] (Ev.enc a ln cap) (Keeps2 w.heap.size Bs) (fun xs => xs = evs l 0 0) (fun pre => pre <+: evs l 0 0) l.length w1 := by
  intro lr J Jx W hW hJ hJx hY h0
  exact frames_1 n hn lr Bs hv hln J Jx hY W (h1.trans (hW.mono h1.size)) (hBs.below hW) hBw h0

end Go.Proofs.Ytgephhmkaonahaa
