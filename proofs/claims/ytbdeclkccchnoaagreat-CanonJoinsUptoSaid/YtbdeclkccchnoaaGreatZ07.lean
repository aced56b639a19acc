/- Parts of a proof: texts of the author, merged. No condition of their own. -/
import Derived.Test.YtbdeclkccchnoaaGreatZ01
import Derived.Test.YtbdeclkccchnoaaGreatZ05
import Derived.Maps.AppendAt
import Derived.OwnWalk
import Derived.OwnWalkIn
import Derived.RangeFuncFrom
import Derived.WalkKit
import Derived.TacticsInMore
import Derived.RegionIn
import Derived.LoopNIn
import Derived.LoopIn
import Derived.Shelf.Abstract
import Derived.Deep.RegionWith
namespace Go.Proofs.YtbdeclkccchnoaaGreat
open Go.RowKit
theorem run_append_of_nil {P : Program} (w : World) (base : Nat) (t ty e : TypeId) (i : TypeInfo) (size : Nat) (ht : P.underlying t = some (.slice e)) (hi : P.info? e = some i)
    (v : Value) (n : Nat) (xs : List Value) (hown : w.ownsRow base e size v n xs) (c : Nat) : (Builtin.append_ #[t, t] ty #[v, .slice none 0 c]).run P w = .ok v w := by
  rcases hown.2 with ⟨rfl, rfl⟩ | ⟨g, cap, cur, rfl, _, _, hnc, _⟩
  · simp [Builtin.append_, run_underlying ht, sizeOf, typeInfo, hi, Builtin.lenOf, Builtin.firstCells]
  · simp [Builtin.append_, run_underlying ht, sizeOf, typeInfo, hi, Builtin.lenOf, Builtin.firstCells, hnc, storeCells]
theorem seg_append {P : Program} (w : World) (base : Nat) (t ty e : TypeId) (z : Value) (size bytes : Nat) (ht : P.underlying t = some (.slice e)) (hinfo : (P.info? e).map (fun i => (i.zero, i.size, i.bytes)) = some (some z, size, bytes))
    (hzs : z.cells.size = size) (hsz : 0 < size) (v x : Value) (n m : Nat) (xs news : List Value) (hown : w.ownsRow base e size v n xs) (hx : Seg w x size m news) (h1 : ∀ u ∈ news, u.oneCell' = true)
    (h63 : n + m ≤ 140737488355328) (hbytes : (n + m) * bytes ≤ 140737488355328) (hbase : base ≤ w.heap.size) :
    ∃ v' w', (Builtin.append_ #[t, t] ty #[v, x]).run P w = .ok v' w' ∧ w'.ownsRow base e size v' (n + m) (xs ++ news) ∧ w.grownBy w' v.ownBlock ∧ (v'.ownBlock = v.ownBlock ∨ v'.ownBlock = some w.heap.size) := by
  obtain ⟨i, hi, hz, hsize, hby⟩ := info_parts hinfo
  obtain ⟨hl, hm, a, cap, rfl, hmc, hcap, hnil, hc⟩ := hx
  cases a with
  | none =>
    have hm0 : m = 0 := by have := hnil rfl; omega
    subst hm0
    have hn : news = [] := List.eq_nil_of_length_eq_zero (by simpa using hl)
    subst hn
    exact ⟨v, w, run_append_of_nil w base t ty e i size ht hi v n xs hown cap, by simpa using hown, World.grownBy.refl w _, .inl rfl⟩
  | some ad =>
    have hcells : ∀ j u, news[j]? = some u → w.cell? (ad.add j) = some u := fun j u hu => by
      obtain ⟨b, o, e', h⟩ := hc j u hu
      cases e'
      rw [addr_add]; exact h
    obtain ⟨v', w', hrun, h2, h3, -, h5⟩ := run_append_own_at (P := P) w base t ty e i z size bytes ht hi hz hsize hby hzs hsz v n xs hown ad m cap news hl hcells h1 (by unfold maxLen; omega) hbytes hbase
    exact ⟨v', w', hrun, h2, h3, h5⟩
theorem wp_append_eq {P : Program} {w : World} {o : Oper} {a : Act} {K : Act → World → Prop} {Q : Exit → Act → World → Prop} (s x : Operand) (t : TypeId)
    (ho : o.op = .call { callee := .builtin .append, args := #[s, x], argTypes := #[t, t] }) (v xv : Value) (hs : a.eval s = v) (hx : a.eval x = xv) {v' : Value} {w' : World}
    (hr : (Builtin.append_ #[t, t] o.type #[v, xv]).run P w = .ok v' w') (h : K (a.put o.dst v') w') : o.wp P a w K Q := by
  unfold Oper.wp execOp
  simp only [ho, resolve, invoke, builtin, Sem.run_bind, Sem.run_pure, Result.andThen_ok, List.map_toArray, List.map_cons, List.map_nil, hs, hx, hr]
  exact h
theorem wpList_append_eq {P : Program} {w : World} {ops : Array Oper} {rest : List Oper} {o : Oper} {a : Act} {Q : Exit → Act → World → Prop} (hgd : o.guard = none) (s x : Operand) (t : TypeId)
    (ho : o.op = .call { callee := .builtin .append, args := #[s, x], argTypes := #[t, t] }) (v xv : Value) (hs : a.eval s = v) (hx : a.eval x = xv) {v' : Value} {w' : World}
    (hr : (Builtin.append_ #[t, t] o.type #[v, xv]).run P w = .ok v' w') (h : wpList P ops Q rest (a.put o.dst v') w') : wpList P ops Q (o :: rest) a w :=
  wpList_plain hgd fun _ hK => wp_append_eq s x t ho v xv hs hx hr (hK _ _ h)
theorem step_append_eq {P : Program} {w : World} {ops : Array Oper} {o : Oper} {a : Act} {K : Act → World → Prop} {Q : Exit → Act → World → Prop} {E : Prop} (hgd : o.guard = none) (s x : Operand) (t : TypeId)
    (ho : o.op = .call { callee := .builtin .append, args := #[s, x], argTypes := #[t, t] }) (v xv : Value) (hs : a.eval s = v) (hx : a.eval x = xv) {v' : Value} {w' : World}
    (hr : (Builtin.append_ #[t, t] o.type #[v, xv]).run P w = .ok v' w') (h : K (a.put o.dst v') w') :
    if Region.wanted o (yielded ops a.tmps) = true then Oper.wp P o a w K Q else E := by
  have hw : Region.wanted o (yielded ops a.tmps) = true := by simp [Region.wanted, hgd]
  rw [if_pos hw]
  exact wp_append_eq s x t ho v xv hs hx hr h
theorem info_u8 : (Tryz.prog.info? 5).map (fun i => (i.zero, i.size, i.bytes)) = some (some (.int .u8 0), 1, 1) := by kernel_rfl
def Own (w : World) (base : Nat) (v : Value) (l : List UInt8) : Prop := w.ownsRow base 5 1 v l.length (l.map byteV)
theorem own_nil (w : World) (base : Nat) : Own w base (.slice none 0 0) [] := World.ownsRow_nil _ _ _ _
theorem row_seg {w : World} {base size n : Nat} {e : TypeId} {v : Value} {xs : List Value} (h : w.ownsRow base e size v n xs) (hn : n ≤ 140737488355328) : Seg w v size n xs := by
  refine ⟨h.1, hn, ?_⟩
  rcases h.2 with ⟨rfl, rfl⟩ | ⟨g, cap, cur, rfl, hb, hg, hnc, hcm, hcs, ht⟩
  · exact ⟨none, 0, rfl, Nat.le_refl _, by omega, fun _ => rfl, fun j u hu => by
      have := h.1
      simp at this
      subst this
      simp at hu⟩
  · refine ⟨some ⟨g, 0, none⟩, cap, rfl, hnc, hcm, by simp, fun j u hu => ⟨g, 0, rfl, ?_⟩⟩
    have := h.cells (g := g) rfl j u hu
    rwa [addr_add] at this
theorem Own.bytes {w : World} {base : Nat} {v : Value} {l : List UInt8} (h : Own w base v l) (hn : l.length ≤ 140737488355328) : Bytes w v l := row_seg h hn
theorem own_append {w : World} {base : Nat} {v x : Value} {l m : List UInt8} (h : Own w base v l) (hx : Bytes w x m) (hlen : l.length + m.length ≤ 140737488355328) (hbase : base ≤ w.heap.size) :
    ∃ v' w', (Builtin.append_ #[32, 32] 32 #[v, x]).run Tryz.prog w = .ok v' w' ∧ Own w' base v' (l ++ m) ∧ w.grownBy w' v.ownBlock ∧ (v'.ownBlock = v.ownBlock ∨ v'.ownBlock = some w.heap.size) := by
  obtain ⟨v', w', h1, h2, h3, h4⟩ := seg_append (P := Tryz.prog) w base 32 32 5 (.int .u8 0) 1 1 under_bytes info_u8 rfl (by decide) v x l.length m.length _ _ h hx (by
    intro u hu
    obtain ⟨c, -, rfl⟩ := List.mem_map.1 hu
    rfl) hlen (by omega) hbase
  exact ⟨v', w', h1, by unfold Own; rw [List.length_append, List.map_append]; exact h2, h3, h4⟩
theorem Own.below_of {w w' : World} {base : Nat} {v : Value} {l : List UInt8} (h : Own w base v l) (hb : Below w.heap.size w w') : Own w' base v l :=
  World.ownsRow.kept (row := none) h (below_grown hb none) (by cases hv : v.ownBlock with | none => exact .inl rfl | some k => exact .inr (by simp))
theorem own_grown {w w0 w' : World} {v : Value} {l : List UInt8} (h : Own w w0.heap.size v l) (hB : Below w0.heap.size w0 w) (hg : w.grownBy w' v.ownBlock) : Below w0.heap.size w0 w' :=
  hB.grown hg hB.size (fun q e => (World.ownsRow.lt h q e).1)
theorem bytes_one (w : World) (T : TypeId) (c : UInt8) (z : Int) (hz : z = c.toNat) : Bytes (w.alloc (.cells #[.int .u8 z] T)) (.slice (some ⟨w.heap.size, 0, none⟩) 1 1) [c] :=
  bytes_new w T #[.int .u8 z] [c] (by simp [byteV, hz]) (by simp)
set_option maxRecDepth 100000 in
set_option maxHeartbeats 4000000 in
theorem clone_bytes {w : World} {v : Value} {l : List UInt8} (h : Bytes w v l) :
    Calls Tryz.prog 99 #[v] w fun e w' => ∃ v', e = .returned v' ∧ Own w' w.heap.size v' l ∧ Below w.heap.size w w' := by
  have H := hid h
  obtain ⟨hlen, a, cap, rfl, -, -, hnil, -⟩ := h.open
  obtain ⟨n, HN⟩ : ∃ n, Hid (n = l.length) := ⟨_, rfl⟩
  rw [← HN.out] at hlen H ⊢
  clear h
  cases a with
  | none =>
    have := hnil rfl
    go_enter Tryz.func99, Tryz.ntmps99
    have eqn := fun W a n c n' c' => Lib.run_eql_slice_nil (P := Tryz.prog) W 32 _ a n c n' c' under_bytes
    go_wp2
    go_ret
    refine ⟨_, rfl, ?_, Below.refl _ _⟩
    obtain rfl : l = [] := List.eq_nil_of_length_eq_zero (by have := HN.out; have := H.out.2.2; obtain ⟨a', c', e, h1, -⟩ := this; cases e; omega)
    exact own_nil _ _
  | some ad =>
    have hO : Own (w.alloc (.cells #[] 5)) w.heap.size (.slice (some ⟨w.heap.size, 0, none⟩) 0 0) [] := by
      exact World.ownsRow_made (base := w.heap.size) (e := 5) (size := 1) w #[] 0 (Nat.le_refl _) (by unfold maxLen; omega) rfl
    obtain ⟨v', w', hr, hO', hg, -⟩ := own_append hO (H.out.below ((Below.refl _ _).alloc (Nat.le_refl _) _)) (by rw [← HN.out]; simp; omega) (by simp)
    have hg' : Below w.heap.size w w' := ((Below.refl w.heap.size w).alloc (Nat.le_refl _) (.cells #[] 5)).grown hg (by simp) (by intro q e; simp [Value.ownBlock] at e; omega)
    have HO := hid hO'
    have HG := hid hg'
    clear hO' hg' hg hO
    go_enter Tryz.func99, Tryz.ntmps99
    have eqn := fun W a n c n' c' => Lib.run_eql_slice_nil (P := Tryz.prog) W 32 _ a n c n' c' under_bytes
    go_wp2_with (at_builtin; refine wpList_append_eq rfl _ _ _ rfl _ _ rfl rfl hr ?_)
    go_ret
    exact ⟨_, rfl, HO.out, HG.out⟩
end Go.Proofs.YtbdeclkccchnoaaGreat
namespace Go.Proofs.YtbdeclkccchnoaaGreat
open Go.RowKit Go.Shelf
attribute [local go_sem] Oper.semAt_some
def slLen : Option Value → Nat
  | some (.slice _ n _) => n
  | _ => 0
def RunStops (wire : Nat) (l : List UInt8) (pre : List (List UInt8)) (x : List UInt8) (e : Nat) : Prop :=
  e ≠ 0 ∧ pre = rpieces wire l ∧ e = (runCount wire l).2 ∨ e = 0 ∧ ∃ r, rpieces wire l = pre ++ x :: r
theorem kind_Wire_num (k : Int) (h : knumber k = true) (w : World) :
    Calls Tryz.prog 53 #[.int .i64 k] w fun e w' => e = .returned (.tuple #[.int .i64 (kwire k), .int .u8 0]) ∧ Below w.heap.size w w' := by
  have h2 : kright k = true := by unfold knumber at h; unfold kright; simp at h ⊢; omega
  have := kind_Wire k w
  rw [if_pos h2] at this
  exact this
set_option maxRecDepth 100000 in
set_option maxHeartbeats 4000000 in
theorem run_values1 (n : Nat) (hn : 1 ≤ n) (l kb bb : Nat) (k : Int) (hk : knumber k = true) {w : World} {v : Value} {ls : List UInt8} (hv : Bytes w v ls)
    (J : List (List UInt8) → Value → World → Prop) (Jx : List (List UInt8) → List UInt8 → Nat → World → Prop)
    (h1 : ∀ pre bv W, J pre bv W → W.cell? ⟨kb, 0, none⟩ = some (.int .i64 k) ∧ W.cell? ⟨bb, 0, none⟩ = some bv ∧ W.frozen? ⟨bb, 0, none⟩ = false ∧ Below w.heap.size w W)
    (h2 : ∀ pre bv W W', J pre bv W → Below W.heap.size W W' → J pre bv W')
    (h3 : ∀ pre bv bv' W, J pre bv W → J pre bv' (W.setCell ⟨bb, 0, none⟩ bv'))
    (hY : ∀ pre bv W a m c x e, pre.length ≤ ls.length → J pre bv W → Bytes w (.slice a m c) x → YieldAt Fence.wide (n - 1) Tryz.prog l #[.agg #[.slice a m c, .int .u8 ((e : Nat) : Int)]] W fun e' W' =>
      (e = 0 ∧ e' = .returned (.bool true) ∧ J (pre ++ [x]) bv W') ∨ (e = 0 ∧ e' = .returned (.bool false) ∧ Jx pre x e W') ∨ (e ≠ 0 ∧ (∃ b, e' = .returned (.bool b)) ∧ Jx pre x e W'))
    (W : World) (h0 : J [] v W) :
    CallsIn Fence.wide n Tryz.prog 121 #[.func (.yield l) #[] #[], .pointer (some ⟨kb, 0, none⟩), .pointer (some ⟨bb, 0, none⟩)] W fun e W' => (∃ v, e = .returned v) ∧
      (((runCount (kwire k) ls).2 = 0 ∧ ∃ bv, J (rpieces (kwire k) ls) bv W') ∨ ∃ pre x e, RunStops (kwire k) ls pre x e ∧ Jx pre x e W') := by
  refine callsIn_of_wp Tryz.func121 rfl trivial ?_ rfl
  simp only [Tryz.ntmps121, List.size_toArray, List.length_cons, List.length_nil, Nat.reduceAdd, Nat.reduceSub, Array.replicate_succ, Array.replicate_zero, List.push_toArray, List.append_toArray, List.nil_append, List.cons_append]
  obtain ⟨c0, -, -, -⟩ := h1 _ _ _ h0
  have HK := hid hk
  clear hk
  gi_wp2_with ((first | (refine ⟨trivial, ?_⟩; gi_at_call 54; refine (callsIn_wide.2 (kind_Number k _)).mono ?_; rintro e w1 ⟨rfl, hb1⟩; rw [HK.out]; have h01 := h2 _ _ _ _ h0 hb1; obtain ⟨c1, -, -, -⟩ := h1 _ _ _ h01; clear c0) | (refine ⟨trivial, ?_⟩; gi_at_call 53; refine (callsIn_wide.2 (kind_Wire_num k HK.out _)).mono ?_; rintro e w2 ⟨rfl, hb2⟩)))
  have h02 := h2 _ _ _ _ h01 hb2
  clear c1 h01 hb1 hb2 h0
  gi_loopw [6] (fun _ wr => ∃ pre rest bv, J pre bv wr ∧ Hid (Bytes w bv rest ∧ rpieces (kwire k) ls = pre ++ rpieces (kwire k) rest ∧ (runCount (kwire k) ls).2 = (runCount (kwire k) rest).2)) (fun _ wr => slLen (wr.cell? ⟨bb, 0, none⟩))
  case atStart => exact ⟨[], ls, v, h02, hv, rfl, rfl⟩
  case round =>
    obtain ⟨pre, rest, bv, hJ, HR⟩ := hrel
    obtain ⟨ck, cb, fb, hbel⟩ := h1 _ _ _ hJ
    obtain ⟨hlen, a, cap, rfl, -, -, -, -⟩ := HR.out.1.open
    have HB := hid hbel
    clear hbel
    obtain ⟨rl, HRL⟩ : ∃ rl, Hid (rl = rest.length) := ⟨_, rfl⟩
    rw [← HRL.out] at hlen HR cb hJ
    have hpl0 : pre.length ≤ ls.length := by
      have h5 := rpieces_len (kwire k) _ ls (Nat.le_refl _)
      rw [HR.out.2.1, List.length_append] at h5; omega
    by_cases hr : rest = []
    · obtain rfl : rl = 0 := by rw [HRL.out, hr]; rfl
      have HRN := hid hr
      clear hr
      gi_wp2
      go_end0
      refine ⟨⟨_, rfl⟩, .inl ⟨?_, .slice a 0 cap, ?_⟩⟩
      · rw [HR.out.2.2, HRN.out]; rfl
      · rw [HR.out.2.1, HRN.out, rpieces_nil, List.append_nil]; exact hJ
    · have hpos : 0 < rl := by rw [HRL.out]; exact List.length_pos_iff.2 hr
      have HRN := hid hr
      clear hr
      have hbw : Bytes wr (.slice a rl cap) rest := HR.out.1.keep (below_keeps HB.out)
      rcases runSize_cases (kwire k) rest with ⟨m, e, g1, g2, g3⟩ | ⟨c, e, hc⟩
      · rw [← HRL.out] at g3
        obtain ⟨pv, hps, hpb⟩ := HR.out.1.h HRL.out m g3
        obtain ⟨hpl, pa, pc, rfl, -, -, -, -⟩ := hpb.open
        obtain ⟨lv, hls, hlb⟩ := HR.out.1.l HRL.out m g3
        obtain ⟨hll, la, lc, rfl, -, -, -, -⟩ := hlb.open
        have hpl' : (rest.take m).length = m := by rw [List.length_take, ← HRL.out]; omega
        rw [hpl'] at hps hpb hpl
        have hll' : (rest.drop m).length = rl - m := by rw [List.length_drop, ← HRL.out]
        rw [hll'] at hls hlb hll
        have HPB := hid hpb
        have HLB := hid hlb
        clear hpl' hll' hpb hlb
        have HCB := hid cb
        obtain ⟨fn, tmps, assign, body, hy, hRd⟩ := hY pre _ wr _ _ _ (rest.take m) 0 hpl0 hJ HPB.out
        rw [show ((0 : Nat) : Int) = 0 from rfl] at hy
        clear hpl0
        have HE := hid e
        clear e
        have hn1 : 1 ≤ n := hn
        gi_wp2_with (refine ⟨trivial, ?_⟩; gi_at_call 122; refine (callsIn_wide.2 (run_size hbw (kwire k))).mono ?_; rintro e w' ⟨rfl, rfl⟩; rw [HE.out])
        refine hRd.mono ?_
        rintro e' W' (⟨-, rfl, hJ'⟩ | ⟨-, rfl, hX⟩ | ⟨h, -, -⟩)
        · obtain ⟨ck', cb', fb', hbel'⟩ := h1 _ _ _ hJ'
          clear hbel' ck ck' cb fb hy hRd
          gi_wp2
          have HST := hid (rpieces_step (kwire k) rest HRN.out m HE.out)
          have HCT := hid (runCount_step (kwire k) rest HRN.out m HE.out)
          go_roundw
          case rel =>
            refine ⟨pre ++ [rest.take m], rest.drop m, _, h3 _ _ _ _ hJ', HLB.out, ?_, ?_⟩
            · rw [HR.out.2.1, HST.out]; simp
            · rw [HR.out.2.2, HCT.out]
              by_cases h0 : (runCount (kwire k) (rest.drop m)).2 = 0 <;> simp [h0]
          case measure =>
            rw [World.cell?_setCell_same' _ _ _ (by rw [cb']; rfl), HCB.out]
            show rl - m < rl
            omega
        · gi_wp2
          refine bodyPost_ret (results_none rfl _ _ _) rfl ?_
          exact ⟨⟨_, rfl⟩, .inr ⟨pre, rest.take m, 0, .inr ⟨rfl, _, by rw [HR.out.2.1, rpieces_step (kwire k) rest HRN.out m HE.out]⟩, hX⟩⟩
        · exact absurd rfl h
      · obtain ⟨pv, hps, hpb⟩ := HR.out.1.h HRL.out 0 (by omega)
        obtain ⟨hpl, pa, pc, rfl, -, -, -, -⟩ := hpb.open
        rw [List.take_zero] at hps hpb hpl
        simp only [List.length_nil, Int.natCast_zero] at hps hpb
        have HPB := hid hpb
        clear hpb
        have hc0 : c ≠ 0 := by omega
        obtain ⟨fn, tmps, assign, body, hy, hRd⟩ := hY pre _ wr _ _ _ [] c hpl0 hJ HPB.out
        have e1 : ((c : Int) != 0) = true := by simp; omega
        clear hpl0
        have HE := hid e
        have HC := hid hc
        have HC0 := hid hc0
        clear e hc hc0
        gi_wp2_with (refine ⟨trivial, ?_⟩; gi_at_call 122; refine (callsIn_wide.2 (run_size hbw (kwire k))).mono ?_; rintro e w' ⟨rfl, rfl⟩; rw [HE.out])
        refine hRd.mono ?_
        rintro e' W' (⟨h, -, -⟩ | ⟨h, -, -⟩ | ⟨-, ⟨b, rfl⟩, hX⟩)
        · exact absurd h HC0.out
        · exact absurd h HC0.out
        · have HX := hid hX
          clear hX
          cases b
          all_goals
            gi_wp2
            refine bodyPost_ret (results_none rfl _ _ _) rfl ?_
            exact ⟨⟨_, rfl⟩, .inr ⟨pre, [], c, .inl ⟨HC0.out, by rw [HR.out.2.1, rpieces_bad (kwire k) rest c HC0.out (by rw [HE.out]), List.append_nil], by rw [HR.out.2.2, runCount_bad (kwire k) rest HRN.out c HC0.out (by rw [HE.out])]⟩, HX.out⟩⟩
end Go.Proofs.YtbdeclkccchnoaaGreat
namespace Go.Proofs.YtbdeclkccchnoaaGreat
open Go.RowKit Go.Shelf
attribute [local go_sem] Oper.semAt_some
theorem rf_named {F : Fence} {n : Nat} {P : Program} {g : Operand} {ps : Array Tmp} {assign body : Code} {Q : Exit → Act → World → Prop} {a : Act} {w : World}
    (h : ∀ ac bd, Hid (ac = assign) → Hid (bd = body) → (Code.rangeFunc g ps ac bd).wpIn F n P Q a w) : (Code.rangeFunc g ps assign body).wpIn F n P Q a w :=
  h _ _ rfl rfl
def cRec (fn : FuncId) (H : Nat) (k : Int) (a : Option Addr) (ln cap : Nat) (ac bd : Code) (st : LoopState) (pend : Option Code) : Loop :=
  { state := st, pending := pend, fn, tmps := #[.int .i64 k, .slice a ln cap, undef, undef, .pointer (some ⟨H, 0, none⟩), .pointer (some ⟨H + 1, 0, none⟩), .pointer (some ⟨H + 1 + 1, 0, none⟩), undef, .int .i64 k, .slice a ln cap,
      .func (.func 121) #[] #[.pointer (some ⟨H + 1 + 1 + 1, 0, none⟩), .pointer (some ⟨H + 1 + 1 + 1 + 1, 0, none⟩)], undef, undef, undef, undef, undef, undef, undef, undef, undef],
    params := #[11], assign := ac, body := bd, defers := H + 1 + 1 + 1 + 1 + 1 }
structure CA (w : World) (k : Int) (rec : Loop) (cnt code : Nat) (bv : Value) (W : World) : Prop where
  r0 : Blk W w.heap.size [.int .i64 0] 3
  r1 : Blk W (w.heap.size + 1) [.int .u8 code] 33
  nb : Blk W (w.heap.size + 1 + 1) [.int .i64 cnt] 3
  kb : Blk W (w.heap.size + 1 + 1 + 1) [.int .i64 k] 3
  bb : Blk W (w.heap.size + 1 + 1 + 1 + 1) [bv] 32
  D : W.heap[w.heap.size + 1 + 1 + 1 + 1 + 1]? = some (.deferred (some []))
  L : W.heap[w.heap.size + 1 + 1 + 1 + 1 + 1 + 1]? = some (.loop rec)
  B : Below w.heap.size w W
theorem CA.below {w : World} {k : Int} {rec : Loop} {cnt code : Nat} {bv : Value} {W W' : World} (h : CA w k rec cnt code bv W) (hb : Below W.heap.size W W') : CA w k rec cnt code bv W' :=
  ⟨h.r0.below hb, h.r1.below hb, h.nb.below hb, h.kb.below hb, h.bb.below hb, (hb.block _ (Array.getElem?_eq_some_iff.1 h.D).1).trans h.D, (hb.block _ (Array.getElem?_eq_some_iff.1 h.L).1).trans h.L, h.B.trans (hb.mono h.B.size)⟩
theorem CA.put {w : World} {k : Int} {rec : Loop} {cnt code : Nat} {bv : Value} {W : World} (h : CA w k rec cnt code bv W) (rec' : Loop) :
    CA w k rec' cnt code bv (W.putObj (w.heap.size + 1 + 1 + 1 + 1 + 1 + 1) (.loop rec')) :=
  ⟨h.r0.put _ (by omega), h.r1.put _ (by omega), h.nb.put _ (by omega), h.kb.put _ (by omega), h.bb.put _ (by omega), (World.putObj_heap_other (by omega)).trans h.D,
    World.putObj_heap_same (Array.getElem?_eq_some_iff.1 h.L).1, belowK_b (Nat.le_refl _) W _ _ _ (by omega) h.L rfl rfl |> fun hb => h.B.trans hb⟩
theorem CA.alloc {w : World} {k : Int} {rec : Loop} {cnt code : Nat} {bv : Value} {W : World} (h : CA w k rec cnt code bv W) (o : Obj) : CA w k rec cnt code bv (W.alloc o) :=
  ⟨h.r0.alloc _, h.r1.alloc _, h.nb.alloc _, h.kb.alloc _, h.bb.alloc _, (Below.heap_alloc W o _ (Array.getElem?_eq_some_iff.1 h.D).1).trans h.D, (Below.heap_alloc W o _ (Array.getElem?_eq_some_iff.1 h.L).1).trans h.L, h.B.alloc h.B.size _⟩
theorem CA.drew {w : World} {k : Int} {rec : Loop} {cnt code : Nat} {bv : Value} {W : World} (h : CA w k rec cnt code bv W) : CA w k rec cnt code bv W.drew :=
  ⟨h.r0, h.r1, h.nb, h.kb, h.bb, h.D, h.L, h.B.drew⟩
theorem CA.setN {w : World} {k : Int} {rec : Loop} {cnt code : Nat} {bv : Value} {W : World} (h : CA w k rec cnt code bv W) (c : Nat) : CA w k rec c code bv (W.setCell ⟨w.heap.size + 1 + 1, 0, none⟩ (.int .i64 c)) :=
  ⟨h.r0.set_other _ _ (by first | (simp; done) | (simp; omega)), h.r1.set_other _ _ (by simp), by simpa using h.nb.set 0 (.int .i64 c), h.kb.set_other _ _ (by simp), h.bb.set_other _ _ (by first | (simp; done) | (simp; omega)), (Below.heap_setCell W _ _ _ (by first | (simp; done) | (simp; omega))).trans h.D, (Below.heap_setCell W _ _ _ (by first | (simp; done) | (simp; omega))).trans h.L, h.B.setCell (by first | (simp; done) | (simp; omega)) _⟩
theorem CA.setB {w : World} {k : Int} {rec : Loop} {cnt code : Nat} {bv : Value} {W : World} (h : CA w k rec cnt code bv W) (c : Value) : CA w k rec cnt code c (W.setCell ⟨w.heap.size + 1 + 1 + 1 + 1, 0, none⟩ c) :=
  ⟨h.r0.set_other _ _ (by first | (simp; done) | (simp; omega)), h.r1.set_other _ _ (by first | (simp; done) | (simp; omega)), h.nb.set_other _ _ (by first | (simp; done) | (simp; omega)), h.kb.set_other _ _ (by simp), by simpa using h.bb.set 0 c, (Below.heap_setCell W _ _ _ (by simp)).trans h.D, (Below.heap_setCell W _ _ _ (by first | (simp; done) | (simp; omega))).trans h.L, h.B.setCell (by first | (simp; done) | (simp; omega)) _⟩
theorem CA.setR {w : World} {k : Int} {rec : Loop} {cnt code : Nat} {bv : Value} {W : World} (h : CA w k rec cnt code bv W) (c : Nat) : CA w k rec cnt c bv ((W.setCell ⟨w.heap.size, 0, none⟩ (.int .i64 0)).setCell ⟨w.heap.size + 1, 0, none⟩ (.int .u8 c)) :=
  ⟨(by simpa using h.r0.set 0 (.int .i64 0) : Blk (W.setCell ⟨w.heap.size, 0, none⟩ (.int .i64 0)) _ _ _).set_other _ _ (by simp), by simpa using (h.r1.set_other ⟨w.heap.size, 0, none⟩ (.int .i64 0) (by simp)).set 0 (.int .u8 c),
    (h.nb.set_other _ _ (by first | (simp; done) | (simp; omega))).set_other _ _ (by simp), (h.kb.set_other _ _ (by first | (simp; done) | (simp; omega))).set_other _ _ (by first | (simp; done) | (simp; omega)), (h.bb.set_other _ _ (by first | (simp; done) | (simp; omega))).set_other _ _ (by first | (simp; done) | (simp; omega)),
    (Below.heap_setCell _ _ _ _ (by first | (simp; done) | (simp; omega))).trans ((Below.heap_setCell W _ _ _ (by first | (simp; done) | (simp; omega))).trans h.D), (Below.heap_setCell _ _ _ _ (by first | (simp; done) | (simp; omega))).trans ((Below.heap_setCell W _ _ _ (by first | (simp; done) | (simp; omega))).trans h.L), (h.B.setCell (by simp) _).setCell (by simp) _⟩
set_option maxRecDepth 100000 in
set_option maxHeartbeats 4000000 in
theorem run_values {w : World} (n : Nat) (k : Int) (va : Option Addr) (vn vc : Nat) :
    CallsIn Fence.wide n Tryz.prog 100 #[.int .i64 k, .slice va vn vc] w fun e w' => e = .returned (.func (.func 121) #[] #[.pointer (some ⟨w.heap.size, 0, none⟩), .pointer (some ⟨w.heap.size + 1, 0, none⟩)]) ∧ w' = (w.alloc (.cells #[.int .i64 k] 3)).alloc (.cells #[.slice va vn vc] 32) := by
  refine callsIn_of_wp Tryz.func100 rfl trivial ?_ rfl
  simp only [Tryz.ntmps100, List.size_toArray, List.length_cons, List.length_nil, Nat.reduceAdd, Nat.reduceSub, Array.replicate_succ, Array.replicate_zero, List.push_toArray, List.append_toArray, List.nil_append, List.cons_append]
  gi_wp2
  go_ret
  exact ⟨rfl, rfl⟩
set_option maxRecDepth 100000 in
set_option maxHeartbeats 4000000 in
theorem run_Count {w : World} {v : Value} {l : List UInt8} (h : Bytes w v l) (k : Int) (hk : knumber k = true) :
    Calls Tryz.prog 117 #[.int .i64 k, v] w fun e w' => e = .returned (.tuple #[.int .i64 (runCount (kwire k) l).1, .int .u8 (runCount (kwire k) l).2]) ∧ Below w.heap.size w w' := by
  refine (callsIn_wide (n := 4)).1 ?_
  have hv := hid h
  obtain ⟨hlen, a, cap, rfl, -, -, -, hcell⟩ := h.open
  clear hcell
  obtain ⟨ln, HN⟩ : ∃ ln, Hid (ln = l.length) := ⟨_, rfl⟩
  rw [← HN.out] at hlen h ⊢
  refine callsIn_of_wp_marks Tryz.func117 rfl trivial ?_ rfl
  simp only [Tryz.ntmps117, List.size_toArray, List.length_cons, List.length_nil, Nat.reduceAdd, Nat.reduceSub, Array.replicate_succ, Array.replicate_zero, List.push_toArray, List.append_toArray, List.nil_append, List.cons_append]
  have hn1 : 1 ≤ 4 := by omega
  gi_wp2_with (refine ⟨trivial, ?_⟩; gi_at_call 100; refine (run_values 3 _ _ _ _).mono ?_; rintro e w' ⟨rfl, rfl⟩)
  refine rf_named ?_
  intro ac bd HAC HBD
  refine wpIn_rangeFunc ?_
  intro fn hfn
  obtain ⟨W0, HW0⟩ : ∃ W0, Hid (W0 = ((((w.alloc (.cells #[.int .i64 0] 3)).alloc (.cells #[.int .u8 0] 33)).alloc (.cells #[.int .i64 0] 3)).alloc (.cells #[.int .i64 k] 3)).alloc (.cells #[.slice a ln cap] 32)) := ⟨_, rfl⟩
  rw [← HW0.out]
  obtain ⟨W1, HW1⟩ : ∃ W1, Hid (W1 = (W0.alloc (.deferred (some []))).alloc (.loop (cRec fn w.heap.size k a ln cap ac bd .ready none))) := ⟨_, rfl⟩
  have hs0 : W0.heap.size = w.heap.size + 1 + 1 + 1 + 1 + 1 := by rw [HW0.out]; simp
  have hM : CA w k (cRec fn w.heap.size k a ln cap ac bd .ready none) 0 0 (.slice a ln cap) W1 := by
    have e0 := Blk.new w [.int .i64 0] 3
    have e1 := Blk.new (w.alloc (.cells #[.int .i64 0] 3)) [.int .u8 0] 33
    have e2 := Blk.new ((w.alloc (.cells #[.int .i64 0] 3)).alloc (.cells #[.int .u8 0] 33)) [.int .i64 0] 3
    have e3 := Blk.new (((w.alloc (.cells #[.int .i64 0] 3)).alloc (.cells #[.int .u8 0] 33)).alloc (.cells #[.int .i64 0] 3)) [.int .i64 k] 3
    have e4 := Blk.new ((((w.alloc (.cells #[.int .i64 0] 3)).alloc (.cells #[.int .u8 0] 33)).alloc (.cells #[.int .i64 0] 3)).alloc (.cells #[.int .i64 k] 3)) [.slice a ln cap] 32
    have e5 := heap_alloc_new W0 (.deferred (some []))
    have e6 := heap_alloc_new (W0.alloc (.deferred (some []))) (.loop (cRec fn w.heap.size k a ln cap ac bd .ready none))
    simp only [World.size_alloc] at e1 e2 e3 e4 e6
    rw [hs0] at e5 e6
    rw [HW1.out]
    refine ⟨?_, ?_, ?_, ?_, ?_, ?_, e6, ?_⟩
    · exact Blk.alloc (Blk.alloc (by rw [HW0.out]; exact (((e0.alloc _).alloc _).alloc _).alloc _) _) _
    · exact Blk.alloc (Blk.alloc (by rw [HW0.out]; exact ((e1.alloc _).alloc _).alloc _) _) _
    · exact Blk.alloc (Blk.alloc (by rw [HW0.out]; exact (e2.alloc _).alloc _) _) _
    · exact Blk.alloc (Blk.alloc (by rw [HW0.out]; exact e3.alloc _) _) _
    · exact Blk.alloc (Blk.alloc (by rw [HW0.out]; exact e4) _) _
    · exact (Below.heap_alloc _ _ _ (by simp; omega)).trans e5
    · have : Below w.heap.size w W0 := by
        rw [HW0.out]
        (repeat (first | with_reducible exact Below.refl _ _ | with_reducible refine Below.setCell ?_ (by first | omega | (simp; omega) | (simp; done)) _ | with_reducible refine Below.alloc ?_ (by first | omega | (simp; omega) | (simp; done)) _ | with_reducible refine below_drewN ?_ _ | with_reducible refine Below.drew ?_))
      exact (this.alloc (by omega) _).alloc (by simp; omega) _
  have hround : ∀ (cnt e : Nat) (bv : Value) (sa : Option Addr) (sn sc : Nat) (W : World), cnt ≤ 140737488355328 → CA w k (cRec fn w.heap.size k a ln cap ac bd .ready none) cnt 0 bv W →
      YieldAt Fence.wide (4 - 1 - 1) Tryz.prog (w.heap.size + 1 + 1 + 1 + 1 + 1 + 1) #[.agg #[.slice sa sn sc, .int .u8 e]] W fun e' W' =>
        (e = 0 ∧ e' = .returned (.bool true) ∧ CA w k (cRec fn w.heap.size k a ln cap ac bd .ready none) (cnt + 1) 0 bv W') ∨
        (e ≠ 0 ∧ e' = .returned (.bool false) ∧ CA w k (cRec fn w.heap.size k a ln cap ac bd .done (some .ret)) cnt e bv W') := by
    intro cnt e bv sa sn sc W hcnt hC
    refine ⟨fn, _, ac, bd, by simpa [cRec] using run_yield (P := Tryz.prog) (args := #[.agg #[.slice sa sn sc, .int .u8 e]]) hC.L rfl, roundIn_of_wpIn hfn ?_⟩
    have hlt := (Array.getElem?_eq_some_iff.1 hC.L).1
    obtain ⟨rr, HRR⟩ : ∃ rr, Hid (rr = cRec fn w.heap.size k a ln cap ac bd .ready none) := ⟨_, rfl⟩
    obtain ⟨rd, HRD⟩ : ∃ rd, Hid (rd = cRec fn w.heap.size k a ln cap ac bd .done (some .ret)) := ⟨_, rfl⟩
    rw [← HRR.out, ← HRD.out]
    rw [← HRR.out] at hC
    rw [HAC.out]
    gi_wp2
    have hC1 := hC.alloc (.cells #[.slice sa sn sc, .int .u8 e] 179)
    have hV1 := Blk.new W [.slice sa sn sc, .int .u8 e] 179
    refine ⟨_, run_beginRound hC1.L (by rw [HRR.out]; rfl), ?_⟩
    have hC2 := hC1.put { rr with state := .busy }
    have hV2 := hV1.put (.loop { rr with state := .busy }) (r := w.heap.size + 1 + 1 + 1 + 1 + 1 + 1) (by omega)
    obtain ⟨W2, HW2⟩ : ∃ W2, Hid (W2 = (W.alloc (.cells #[.slice sa sn sc, .int .u8 e] 179)).putObj (w.heap.size + 1 + 1 + 1 + 1 + 1 + 1) (.loop { rr with state := .busy })) := ⟨_, rfl⟩
    rw [← HW2.out] at hC2 hV2 ⊢
    rw [HBD.out]
    have v1 := hV2.cell 1 _ rfl
    have n0 := hC2.nb.cell 0 _ rfl
    have nz := hC2.nb.free
    have z0 := hC2.r0.free
    have z1 := hC2.r1.free
    have q0 := hC2.r0.cell 0 _ rfl
    have q1 := hC2.r1.cell 0 _ rfl
    by_cases he : e = 0
    · subst he
      gi_wp2
      have hC3 := hC2.setN (cnt + 1)
      have hC4 := hC3.put rr
      have hrd : ({ ({ rr with state := .busy } : Loop) with state := .ready, pending := none } : Loop) = rr := by rw [HRR.out]; rfl
      have hend := run_endRound (P := Tryz.prog) none hC3.L
      exact ⟨_, _, hend, rfl, by simpa [hrd] using hC4⟩
    · have e1 : ((e : Int) != 0) = true := by simp; omega
      have e2 : ((e : Int) == 0) = false := by simp; omega
      have HE := hid he
      clear he
      gi_wp2
      gi_region
      all_goals gi_wp2
      all_goals
        have hC3 : CA w k { rr with state := .busy } cnt e bv ((W2.setCell ⟨w.heap.size, 0, none⟩ (.int .i64 0)).setCell ⟨w.heap.size + 1, 0, none⟩ (.int .u8 e)).drew := (hC2.setR e).drew
        have hC4 := hC3.put rd
        have hrd : ({ ({ rr with state := .busy } : Loop) with state := .done, pending := some .ret } : Loop) = rd := by rw [HRR.out, HRD.out]; rfl
        exact ⟨_, _, run_endRound (P := Tryz.prog) (some .ret) hC3.L, .inr ⟨HE.out, rfl, by simpa [hrd] using hC4⟩⟩
  refine ⟨W0.heap.size + 1, [{ target := .collected W0.heap.size, args := #[] }], W1, { target := .fn (.func 121) #[.pointer (some ⟨w.heap.size + 1 + 1 + 1, 0, none⟩), .pointer (some ⟨w.heap.size + 1 + 1 + 1 + 1, 0, none⟩)], args := #[.func (.yield (W0.heap.size + 1)) #[] #[]] }, W1, 121,
    #[.func (.yield (W0.heap.size + 1)) #[] #[], .pointer (some ⟨w.heap.size + 1 + 1 + 1, 0, none⟩), .pointer (some ⟨w.heap.size + 1 + 1 + 1 + 1, 0, none⟩)], W1, ?_, ?_, ?_, ?_, fun _ => hn1, ?_⟩
  · rw [HW1.out, cRec, ← hs0]; exact run_enterLoop_outer _ _ _ _ _
  · simp [resolve, go_sem]
  · intro f' hf'; trivial
  · simp [invoke, go_sem]
  · refine CallsIn.mono (R := fun e W' => (∃ v, e = .returned v) ∧ (((runCount (kwire k) l).2 = 0 ∧ ∃ bv, CA w k (cRec fn w.heap.size k a ln cap ac bd .ready none) (rpieces (kwire k) l).length 0 bv W') ∨
        ∃ pre x e, RunStops (kwire k) l pre x e ∧ (e ≠ 0 ∧ ∃ bv, CA w k (cRec fn w.heap.size k a ln cap ac bd .done (some .ret)) pre.length e bv W'))) ?_ ?_
    · rw [hs0]
      refine run_values1 (4 - 1) (by omega) _ _ _ k hk h (fun pre bv W => CA w k (cRec fn w.heap.size k a ln cap ac bd .ready none) pre.length 0 bv W) (fun pre x e W => e ≠ 0 ∧ ∃ bv, CA w k (cRec fn w.heap.size k a ln cap ac bd .done (some .ret)) pre.length e bv W)
        (fun pre bv W hC => ⟨hC.kb.cell 0 _ rfl, hC.bb.cell 0 _ rfl, hC.bb.free 0, hC.B⟩) (fun pre bv W W' hC hb => hC.below hb) (fun pre bv bv' W hC => hC.setB bv') ?_ W1 hM
      intro pre bv W sa sn sc x e hpl hC hx
      have := hround pre.length e bv sa sn sc W (by have := HN.out; omega) hC
      obtain ⟨fn', tm, as', bo, hy, hR⟩ := this
      refine ⟨fn', tm, as', bo, hy, hR.mono ?_⟩
      rintro e' W' (⟨h1, h2, h3⟩ | ⟨h1, h2, h3⟩)
      · exact .inl ⟨h1, h2, by simpa using h3⟩
      · exact .inr (.inr ⟨h1, ⟨_, h2⟩, h1, _, h3⟩)
    · rintro e W' ⟨⟨v, rfl⟩, ⟨h0, bv, hC⟩ | ⟨pre, x, e, hS, h0, bv, hC⟩⟩
      · have hE := run_endLoop (P := Tryz.prog) hC.L (by simp [cRec])
        have hC2 := hC.put { (cRec fn w.heap.size k a ln cap ac bd .ready none) with state := .exhausted }
        obtain ⟨W3, HW3⟩ : ∃ W3, Hid (W3 = W'.putObj (w.heap.size + 1 + 1 + 1 + 1 + 1 + 1) (.loop { (cRec fn w.heap.size k a ln cap ac bd .ready none) with state := .exhausted })) := ⟨_, rfl⟩
        rw [← HW3.out] at hC2 hE
        refine ⟨none, W3, by rw [hs0]; exact hE, ?_⟩
        simp only
        have HD := hid hC2.D
        rw [hs0]
        have c0 := hC2.r0.cell 0 _ rfl
        have c1 := hC2.r1.cell 0 _ rfl
        have f0 := hC2.r0.free 0
        have f1 := hC2.r1.free 0
        have cn := hC2.nb.cell 0 _ rfl
        gi_wp2
        obtain ⟨e1, e2, e3, e4⟩ := two_results hC2.r0 hC2.r1 HD.out (by omega) (Nat.le_refl _) (by omega) (by omega) hC2.B (.int .i64 ((rpieces (kwire k) l).length : Int)) (.int .u8 0)
        refine ⟨by simp, .inl ⟨_, _, rfl, run_takeDeferred (P := Tryz.prog) e1, ?_⟩⟩
        refine ⟨_, by simp [results, Tryz.f117, go_sem, e2, e3]; rfl, ?_, e4⟩
        rw [runCount_len (kwire k) _ l (Nat.le_refl _), if_pos h0]
      · have hE := run_endLoop (P := Tryz.prog) hC.L (by simp [cRec])
        have hC2 := hC.put { (cRec fn w.heap.size k a ln cap ac bd .done (some .ret)) with state := .exhausted }
        obtain ⟨W3, HW3⟩ : ∃ W3, Hid (W3 = W'.putObj (w.heap.size + 1 + 1 + 1 + 1 + 1 + 1) (.loop { (cRec fn w.heap.size k a ln cap ac bd .done (some .ret)) with state := .exhausted })) := ⟨_, rfl⟩
        rw [← HW3.out] at hC2 hE
        refine ⟨some .ret, W3, by rw [hs0]; exact hE, ?_⟩
        simp only
        rw [hs0]
        gi_wp2
        obtain ⟨e2, e3, e4⟩ := two_results0 hC2.r0 hC2.r1 hC2.D (by omega) hC2.B
        refine ⟨by simp, .inl ⟨_, _, rfl, run_takeDeferred (P := Tryz.prog) hC2.D, ?_⟩⟩
        refine ⟨_, by simp [results, Tryz.f117, go_sem, e2, e3]; rfl, ?_, e4⟩
        have he : e = (runCount (kwire k) l).2 := by
          rcases hS with ⟨_, _, h⟩ | ⟨h, _⟩
          · exact h
          · exact absurd h h0
        rw [runCount_len (kwire k) _ l (Nat.le_refl _), ← he, if_neg h0]; rfl
end Go.Proofs.YtbdeclkccchnoaaGreat
namespace Go.Proofs.YtbdeclkccchnoaaGreat
open Go.RowKit
theorem u8_and192 : ∀ c : Fin 256, bits .and .u8 (c.val : Int) 192 = ((c.val / 64 * 64 : Nat) : Int) := by decide +kernel
theorem u8_andNot192 : ∀ c : Fin 256, bits .andNot .u8 (c.val : Int) 192 = ((c.val % 64 : Nat) : Int) := by decide +kernel
set_option maxRecDepth 100000 in
theorem utf_head (c : Nat) (hc : c < 256) (w : World) :
    Calls Tryz.prog 148 #[.int .u8 c] w fun e w' => e = .returned (.tuple #[.int .i64 (uhead c).1, .int .i32 (uhead c).2]) ∧ w = w' := by
  rcases uhead_cases c with ⟨h, e⟩ | ⟨h, h', e⟩ | ⟨h, h', e⟩ | ⟨h, h', e⟩ | ⟨h, e⟩
  · rw [e]; clear e
    go_enter Tryz.func148, Tryz.ntmps148
    go_wp2
    go_ret2
    exact ⟨rfl, rfl⟩
  · rw [e]; clear e
    have a1 := u8_and31 (x := (c : Int)) (by omega) (by omega)
    go_enter Tryz.func148, Tryz.ntmps148
    go_wp2
    go_ret2
    exact ⟨ret2 rfl (int_eq (by omega)), rfl⟩
  · rw [e]; clear e
    have a1 := u8_and15 (x := (c : Int)) (by omega) (by omega)
    go_enter Tryz.func148, Tryz.ntmps148
    go_wp2
    go_ret2
    exact ⟨ret2 rfl (int_eq (by omega)), rfl⟩
  · rw [e]; clear e
    have a1 := u8_and7 (x := (c : Int)) (by omega) (by omega)
    go_enter Tryz.func148, Tryz.ntmps148
    go_wp2
    go_ret2
    exact ⟨ret2 rfl (int_eq (by omega)), rfl⟩
  · rw [e]; clear e
    rcases h with h | h
    all_goals
      go_enter Tryz.func148, Tryz.ntmps148
      go_wp2
      go_ret2
      exact ⟨rfl, rfl⟩
set_option maxRecDepth 100000 in
theorem utf_least (n : Nat) (hn : n ≤ 4) (w : World) :
    Calls Tryz.prog 149 #[.int .i64 n] w fun e w' => e = .returned (.int .i32 (uleast n)) ∧ w = w' := by
  have i0 : ∀ w, (Instr.index 234 (.agg #[.int .i32 0, .int .i32 0, .int .i32 128, .int .i32 2048, .int .i32 65536]) (.int .i64 0)).run Tryz.prog w = .ok (.int .i32 0) w := fun _ => by kernel_rfl
  have i1 : ∀ w, (Instr.index 234 (.agg #[.int .i32 0, .int .i32 0, .int .i32 128, .int .i32 2048, .int .i32 65536]) (.int .i64 1)).run Tryz.prog w = .ok (.int .i32 0) w := fun _ => by kernel_rfl
  have i2 : ∀ w, (Instr.index 234 (.agg #[.int .i32 0, .int .i32 0, .int .i32 128, .int .i32 2048, .int .i32 65536]) (.int .i64 2)).run Tryz.prog w = .ok (.int .i32 128) w := fun _ => by kernel_rfl
  have i3 : ∀ w, (Instr.index 234 (.agg #[.int .i32 0, .int .i32 0, .int .i32 128, .int .i32 2048, .int .i32 65536]) (.int .i64 3)).run Tryz.prog w = .ok (.int .i32 2048) w := fun _ => by kernel_rfl
  have i4 : ∀ w, (Instr.index 234 (.agg #[.int .i32 0, .int .i32 0, .int .i32 128, .int .i32 2048, .int .i32 65536]) (.int .i64 4)).run Tryz.prog w = .ok (.int .i32 65536) w := fun _ => by kernel_rfl
  rcases (show n = 0 ∨ n = 1 ∨ n = 2 ∨ n = 3 ∨ n = 4 by omega) with rfl | rfl | rfl | rfl | rfl
  all_goals
    go_enter Tryz.func149, Tryz.ntmps149
    go_wp2
    go_ret
    exact ⟨rfl, rfl⟩
theorem uhead_bd (c : Nat) : (uhead c).2 < 128 := by
  rcases uhead_cases c with ⟨h, e⟩ | ⟨h, h', e⟩ | ⟨h, h', e⟩ | ⟨h, h', e⟩ | ⟨h, e⟩ <;> rw [e] <;> simp <;> omega
set_option maxRecDepth 100000 in
theorem utf_next {w : World} {v : Value} {l : List UInt8} (h : Bytes w v l) :
    Calls Tryz.prog 141 #[v] w fun e w' => e = .returned (.int .i64 (unext l)) ∧ w = w' := by
  obtain ⟨hlen, a, cap, rfl, -, -, -, hcell⟩ := h.open
  obtain ⟨n, HN⟩ : ∃ n, Hid (n = l.length) := ⟨_, rfl⟩
  rw [← HN.out] at hcell hlen h ⊢
  by_cases h0 : n = 0
  · subst h0
    have hu : Hid (unext l = 0) := by
      obtain rfl : l = [] := List.eq_nil_of_length_eq_zero HN.out.symm
      rfl
    go_enter Tryz.func141, Tryz.ntmps141
    go_wp2
    go_ret
    rw [hu.out]
    exact ⟨rfl, rfl⟩
  · have hz : ((n : Int) == 0) = false := by simp; omega
    have hpos : 0 < n := by omega
    obtain ⟨b, o, ha, hc0⟩ := hcell 0 hpos
    have hix := index_0 under_bytes size_u8 ha hpos (cap := cap)
    have HAA := hid ha
    obtain ⟨c, HC⟩ : ∃ c, Hid (c = (l.getD 0 0).toNat) := ⟨_, rfl⟩
    have hcb : c < 256 := by rw [HC.out]; exact (l.getD 0 0).toNat_lt
    rw [← HC.out] at hc0
    obtain ⟨m, r, HM, hm, hr⟩ : ∃ m r, Hid (uhead c = (m, r)) ∧ m ≤ 4 ∧ r < 128 := ⟨_, _, rfl, uhead_le c, uhead_bd c⟩
    have H0 := hid h0
    clear ha hcell h0
    simp only [Nat.add_zero] at hc0
    by_cases hm0 : m = 0 ∨ n < m
    · have hu : Hid (unext l = 0) := by
        cases l with
        | nil => rfl
        | cons c' t =>
          simp at HC
          have e := HC.out
          simp only [Hid, unext, ← e, HM.out]
          rw [if_pos (by rw [← HN.out]; exact hm0)]
      have hm0' : ((m : Int) == 0) = decide (m = 0) := by
        by_cases e : m = 0
        · subst e; rfl
        · simp [e]
      rcases hm0 with e | e
      · subst e
        clear hm0'
        go_enter Tryz.func141, Tryz.ntmps141
        go_wp2_with (go_at_call 148; refine (utf_head _ (by omega) _).mono ?_; rintro e w' ⟨rfl, rfl⟩; rw [HM.out])
        go_ret
        rw [hu.out]
        exact ⟨rfl, rfl⟩
      · clear hm0'
        have hm1 : ((m : Int) == 0) = false := by simp; omega
        go_enter Tryz.func141, Tryz.ntmps141
        go_wp2_with (go_at_call 148; refine (utf_head _ (by omega) _).mono ?_; rintro e w' ⟨rfl, rfl⟩; rw [HM.out])
        go_ret
        rw [hu.out]
        exact ⟨rfl, rfl⟩
    · have hm1 : ((m : Int) == 0) = false := by simp; omega
      have hmpos : 1 ≤ m := by omega
      have hmn : m ≤ n := by omega
      have hu : Hid (unext l = match ucont (m - 1) r (l.drop 1) with | none => 0 | some r => if ubad m r then 0 else m) := by
        cases l with
        | nil => simp at HN; have := HN.out; omega
        | cons c' t =>
          simp at HC
          have e := HC.out
          simp only [Hid, unext, ← e, HM.out]
          rw [if_neg (by rw [← HN.out]; exact hm0)]
          rfl
      have HM0 := hid hm0
      clear hm0
      obtain ⟨a', cap', hsl, hcs, -⟩ := h.cut HN.out 1 m hmpos hmn
      simp only [Int.natCast_one] at hsl
      have HCS := hid hcs
      clear hcs
      obtain ⟨q, HQ⟩ : ∃ q, Hid (q = m - 1) := ⟨_, rfl⟩
      rw [← HQ.out] at hsl
      have hq3 : q ≤ 3 := by rw [HQ.out]; omega
      go_enter Tryz.func141, Tryz.ntmps141
      go_wp2_with (go_at_call 148; refine (utf_head _ (by omega) _).mono ?_; rintro e w' ⟨rfl, rfl⟩; rw [HM.out])
      go_loop [4, 29] (fun v4 v29 => ∃ k x : Nat, k ≤ q ∧ x < 128 * 64 ^ k ∧ v4 = .int .i32 x ∧ v29 = .int .i64 k ∧ Hid (ucont (q - k) x (l.drop (1 + k)) = ucont q r (l.drop 1))) (fun _ v29 => q - (intOf v29).toNat)
      case atStart => exact ⟨0, r, by omega, by omega, rfl, rfl, rfl⟩
      case round =>
        obtain ⟨k, x, hk, hx, rfl, rfl, HX⟩ := hrel
        have hx2 : x < 128 * 64 ^ 3 := Nat.lt_of_lt_of_le hx (Nat.mul_le_mul_left _ (Nat.pow_le_pow_right (by omega) (by omega)))
        simp only [Nat.reducePow, Nat.reduceMul] at hx2
        by_cases hlt : k < q
        · have hcs := HCS.out
          obtain ⟨b2, o2, ha2, hc2⟩ := hcs k (by have := HQ.out; omega)
          clear hcs
          have hix2 := index_run1 under_bytes size_u8 ha2 k hlt (cap := cap')
          obtain ⟨d, HD⟩ : ∃ d, Hid (d = (l.getD (1 + k) 0).toNat) := ⟨_, rfl⟩
          have hdb : d < 256 := by rw [HD.out]; exact (l.getD (1 + k) 0).toNat_lt
          rw [← HD.out] at hc2
          have HA2 := hid ha2
          have hstep : Hid (ucont (q - k) x (l.drop (1 + k)) = if 128 ≤ d ∧ d < 192 then ucont (q - (k + 1)) (x * 64 + d % 64) (l.drop (1 + (k + 1))) else none) := by
            have e : q - k = (q - (k + 1)) + 1 := by omega
            have hkl : 1 + k < l.length := by rw [← HN.out]; have := HQ.out; omega
            rw [e, List.drop_eq_getElem_cons hkl, HD.out]
            simp only [Hid, ucont, List.getD, List.getElem?_eq_getElem hkl, Option.getD_some]
            rfl
          clear ha2
          have hx3 : x < 128 * 64 ^ 2 := Nat.lt_of_lt_of_le hx (Nat.mul_le_mul_left _ (Nat.pow_le_pow_right (by omega) (by omega)))
          simp only [Nat.reducePow, Nat.reduceMul] at hx3
          have HX0 := hid hx
          clear hx
          by_cases hct : 128 ≤ d ∧ d < 192
          · have hb1 : bits .and .u8 (d : Int) 192 = 128 := by rw [u8_and192 ⟨d, hdb⟩]; simp; omega
            have hb2 : bits .andNot .u8 (d : Int) 192 = ((d % 64 : Nat) : Int) := u8_andNot192 ⟨d, hdb⟩
            have hb3 := i32_or6 (x := (x : Int) * 64) (y := ((d % 64 : Nat) : Int)) (by omega) (by omega) (by omega) (by omega) (by omega)
            have hb4 : IntKind.i32.wrap ((d % 64 : Nat) : Int) = ((d % 64 : Nat) : Int) := by rw [IntKind.wrap_i32]; omega
            have HCT := hid hct
            clear hct
            go_wp2
            go_round
            case rel =>
              refine ⟨k + 1, x * 64 + d % 64, by omega, ?_, by first | go_num | exact int_eq (by omega), by go_num, ?_⟩
              · rw [Nat.pow_succ, ← Nat.mul_assoc]
                have := HX0.out
                omega
              · rw [← HX.out, hstep.out, if_pos HCT.out]; exact hid rfl
            case measure => simp [intOf]; omega
          · obtain ⟨y, hb1, hy⟩ : ∃ y : Nat, bits .and .u8 (d : Int) 192 = (y : Int) ∧ ((y : Int) == 128) = false := ⟨d / 64 * 64, u8_and192 ⟨d, hdb⟩, by simp; omega⟩
            have HCT := hid hct
            clear hct
            go_wp2
            go_ret
            refine ⟨ret1 (int_eq ?_), rfl⟩
            have e : unext l = 0 := by
              rw [hu.out, ← HQ.out, ← HX.out, hstep.out, if_neg HCT.out]
            rw [e]; rfl
        · obtain rfl : k = q := by omega
          have hu2 : Hid (unext l = if ubad m x then 0 else m) := by
            have := HX.out
            rw [Nat.sub_self] at this
            simp only [ucont] at this
            rw [Hid, hu.out, ← HQ.out, ← this]
          obtain ⟨lv, HLV⟩ : ∃ lv, Hid (lv = uleast m) := ⟨_, rfl⟩
          have hlv : lv ≤ 65536 := by
            rw [HLV.out]; unfold uleast; repeat' split
            all_goals omega
          have HUB : Hid (ubad m x = decide (x < lv ∨ 1114111 < x ∨ 55296 ≤ x ∧ x ≤ 57343)) := by rw [HLV.out]; rfl
          clear hx
          by_cases c1 : x < lv
          · have hv : Hid (unext l = 0) := by rw [Hid, hu2.out, HUB.out, if_pos (by simp [c1])]
            go_wp2_with (go_at_call 149; refine (utf_least _ (by omega) _).mono ?_; rintro e w' ⟨rfl, rfl⟩; rw [← HLV.out])
            go_ret
            rw [hv.out]
            exact ⟨rfl, rfl⟩
          · by_cases c2 : 1114111 < x
            · have hv : Hid (unext l = 0) := by rw [Hid, hu2.out, HUB.out, if_pos (by simp [c2])]
              go_wp2_with (go_at_call 149; refine (utf_least _ (by omega) _).mono ?_; rintro e w' ⟨rfl, rfl⟩; rw [← HLV.out])
              go_ret
              rw [hv.out]
              exact ⟨rfl, rfl⟩
            · by_cases c3 : 55296 ≤ x
              · by_cases c4 : x ≤ 57343
                · have hv : Hid (unext l = 0) := by rw [Hid, hu2.out, HUB.out, if_pos (by simp [c3, c4])]
                  go_wp2_with (go_at_call 149; refine (utf_least _ (by omega) _).mono ?_; rintro e w' ⟨rfl, rfl⟩; rw [← HLV.out])
                  go_ret
                  rw [hv.out]
                  exact ⟨rfl, rfl⟩
                · have hv : Hid (unext l = m) := by rw [Hid, hu2.out, HUB.out, if_neg (by simp; omega)]
                  go_wp2_with (go_at_call 149; refine (utf_least _ (by omega) _).mono ?_; rintro e w' ⟨rfl, rfl⟩; rw [← HLV.out])
                  go_ret
                  rw [hv.out]
                  exact ⟨rfl, rfl⟩
              · have hv : Hid (unext l = m) := by rw [Hid, hu2.out, HUB.out, if_neg (by simp; omega)]
                go_wp2_with (go_at_call 149; refine (utf_least _ (by omega) _).mono ?_; rintro e w' ⟨rfl, rfl⟩; rw [← HLV.out])
                go_ret
                rw [hv.out]
                exact ⟨rfl, rfl⟩
set_option maxRecDepth 100000 in
theorem utf_walk {w : World} {v : Value} {l : List UInt8} (h : Bytes w v l) :
    Calls Tryz.prog 125 #[v, .int .i64 l.length] w fun e w' => (∃ k : Nat, e = .returned (.tuple #[.int .i64 (ufirst l), .int .i64 k])) ∧ w = w' := by
  obtain ⟨hlen, a, cap, rfl, -, -, -, -⟩ := h.open
  obtain ⟨n, HN⟩ : ∃ n, Hid (n = l.length) := ⟨_, rfl⟩
  rw [← HN.out] at hlen h ⊢
  go_enter Tryz.func125, Tryz.ntmps125
  go_wp2
  go_loop [6, 7] (fun v6 v7 => ∃ k x : Nat, k ≤ n ∧ x ≤ k ∧ v6 = .int .i64 k ∧ v7 = .int .i64 x ∧ Hid (k + ufirst (l.drop k) = ufirst l)) (fun v6 _ => n - (intOf v6).toNat)
  case atStart => exact ⟨0, 0, by omega, by omega, rfl, rfl, by simp [Hid]⟩
  case round =>
    obtain ⟨k, x, hk, hx, rfl, rfl, HK⟩ := hrel
    obtain ⟨v', hsl, hv'⟩ := h.l HN.out k hk
    obtain ⟨m, HM⟩ : ∃ m, Hid (m = unext (l.drop k)) := ⟨_, rfl⟩
    have hm : k + m ≤ n := by
      have := (unext_le (l.drop k)).1
      rw [List.length_drop, ← HN.out, ← HM.out] at this
      omega
    have hs := ufirst_step (l.drop k)
    rw [← HM.out] at hs
    have HS := hid hs
    clear hs
    by_cases hm0 : m = 0
    · subst hm0
      go_wp2_with (go_at_call 141; refine (utf_next hv').mono ?_; rintro e w' ⟨rfl, rfl⟩; rw [← HM.out])
      refine bodyPost_ret (v := .tuple #[.int .i64 k, .int .i64 x]) (by simp [results, Tryz.results125, go_sem]) rfl ⟨⟨x, ?_⟩, rfl⟩
      have e : ufirst l = k := by rw [← HK.out, HS.out]; simp
      rw [e]
    · have hm1 : ((m : Int) == 0) = false := by simp; omega
      have HM0 := hid hm0
      have hmp : 0 < m := by omega
      clear hm0
      go_wp2_with (go_at_call 141; refine (utf_next hv').mono ?_; rintro e w' ⟨rfl, rfl⟩; rw [← HM.out])
      go_round
      case rel =>
        refine ⟨k + m, x + 1, by omega, by omega, by go_num, by go_num, ?_⟩
        rw [← HK.out, HS.out, if_neg HM0.out, List.drop_drop, Nat.add_assoc]
        exact hid rfl
      case measure => simp [intOf]; omega
set_option maxRecDepth 100000 in
theorem utf_First {w : World} {v : Value} {l : List UInt8} (h : Bytes w v l) :
    Calls Tryz.prog 111 #[v] w fun e w' => e = .returned (.int .i64 (ufirst l)) ∧ w = w' := by
  obtain ⟨hlen, a, cap, rfl, -, -, -, -⟩ := h.open
  go_enter Tryz.func111, Tryz.ntmps111
  go_wp2_with (go_at_call 125; refine (utf_walk h).mono ?_; rintro e w' ⟨⟨k, rfl⟩, rfl⟩)
  go_ret
  exact ⟨rfl, rfl⟩
set_option maxRecDepth 100000 in
theorem utf_Right {w : World} {v : Value} {l : List UInt8} (h : Bytes w v l) :
    Calls Tryz.prog 82 #[v] w fun e w' => e = .returned (.bool (decide (ufirst l = l.length))) ∧ w = w' := by
  obtain ⟨hlen, a, cap, rfl, -, -, -, -⟩ := h.open
  go_enter Tryz.func82, Tryz.ntmps82
  go_wp2_with (go_at_call 111; refine (utf_First h).mono ?_; rintro e w' ⟨rfl, rfl⟩)
  go_ret
  refine ⟨ret1 ?_, rfl⟩
  show Value.bool ((ufirst l : Int) == (l.length : Int)) = _
  congr 1
  rw [Bool.eq_iff_iff]
  simp
  omega
end Go.Proofs.YtbdeclkccchnoaaGreat
namespace Go.Proofs.YtbdeclkccchnoaaGreat
open Go.RowKit
end Go.Proofs.YtbdeclkccchnoaaGreat
namespace Go.Proofs.YtbdeclkccchnoaaGreat
open Go.RowKit
end Go.Proofs.YtbdeclkccchnoaaGreat
