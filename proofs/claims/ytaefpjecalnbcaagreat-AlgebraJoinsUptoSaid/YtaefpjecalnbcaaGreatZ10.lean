/- Parts of a proof: texts of the author, merged. No condition of their own. -/
import Derived.Test.YtaefpjecalnbcaaGreatRows
import Derived.Test.YtaefpjecalnbcaaGreatZ05
import Derived.Test.YtaefpjecalnbcaaGreatZ08
import Derived.Test.YtaefpjecalnbcaaGreatZ09
import Derived.Deep.Slices
import Derived.SizedLaws
import Derived.ProofKit
namespace Go.Proofs.YtaefpjecalnbcaaGreat
open Go.RowKit
set_option maxRecDepth 100000 in
set_option maxHeartbeats 4000000 in
theorem law07_Few {w : World} {v : Value} {s : List Mes} (hS : SchemaAt w v s) :
    Calls Tryz.prog 7 #[v] w fun e w' => (∃ b, e = .returned (.bool b)) ∧ Below w.heap.size w w' := by
  obtain ⟨hlen, a, cap, rfl, hat⟩ := hS.open
  obtain ⟨n, HN⟩ : ∃ n, Hid (n = s.length) := ⟨_, rfl⟩
  rw [← HN.out] at hat hlen ⊢
  have HAT := hid hat
  clear hat hS
  go_enter Tryz.func7, Tryz.ntmps7
  go_wp2_with fail
  go_loopw [3, 4, 5] (fun v3 v4 _ wr => ∃ (z : Int) (i : Nat), v3 = .int .i64 z ∧ i ≤ n ∧ v4 = .int .i64 i ∧ Hid (Below w.heap.size w wr)) (fun _ v4 _ _ => n - (intOf v4).toNat)
  case atStart => exact ⟨0, 0, rfl, by omega, rfl, Below.refl _ _⟩
  case round =>
    obtain ⟨z, i, rfl, hi, rfl, HB⟩ := hrel
    by_cases hlt : i < n
    · have hat := HAT.out
      obtain ⟨b, o, fv, ha, hnm, c0, c1, hfs⟩ := hat i hlt
      obtain ⟨fl, fa, fcap, rfl, hft⟩ := hfs.open
      clear hat hfs
      obtain ⟨fn, HFN⟩ : ∃ fn, Hid (fn = (s.getD i .zero).fields.length) := ⟨_, rfl⟩
      obtain ⟨nm, HNM⟩ : ∃ nm, Hid (nm = (s.getD i .zero).name) := ⟨_, rfl⟩
      rw [← HFN.out] at fl c1 hft
      rw [← HNM.out] at hnm c0
      have HFT := hid hft
      clear hft
      have hkr := below_keeps HB.out
      replace c0 := hkr _ _ c0
      replace c1 := hkr _ _ c1
      clear hkr
      have hix := index_run Tryz.underlying23 size_mes ha i hlt (cap := cap)
      have hbl : b < wr.heap.size := World.block_lt_of_cell? wr _ c0
      clear ha
      go_wp2_with fail
      go_quiet (fail)
      go_wp2_with fail
      obtain ⟨wo, HWO⟩ : ∃ wo, Hid (wo = wr.drewN nq) := ⟨_, rfl⟩
      rw [← HWO.out]
      have HBO : Hid (Below w.heap.size w wo) := by rw [HWO.out]; exact below_drewN HB.out _
      replace c1 : wo.cell? ⟨b, o + i * 2 + 1, none⟩ = some (.slice fa fn fcap) := by rw [HWO.out]; exact c1
      clear c0 hbl
      have HC1 := hid c1
      clear c1
      go_loopw [3, 5] (fun v3 v5 wq => ∃ (z : Int) (k : Nat), v3 = .int .i64 z ∧ k ≤ fn ∧ v5 = .int .i64 k ∧ Hid (Below wo.heap.size wo wq)) (fun _ v5 _ => fn - (intOf v5).toNat)
      case atStart => exact ⟨_, 0, rfl, by omega, rfl, Below.refl _ _⟩
      case round =>
        obtain ⟨z2, k, rfl, hk, rfl, HBQ⟩ := hrel
        have c1 := below_keeps HBQ.out _ _ HC1.out
        have hbl : b < wr.heap.size := World.block_lt_of_cell? wr _ c1
        by_cases hlk : k < fn
        · have hft := HFT.out
          obtain ⟨b2, o2, ha2, hok, g0, -⟩ := hft k hlk
          clear hft
          have hkr := below_keeps (HBO.out.trans (HBQ.out.mono HBO.out.size))
          replace g0 := hkr _ _ g0
          clear hkr
          obtain ⟨fx, HFX⟩ : ∃ fx, Hid (fx = (s.getD i .zero).fields.getD k .zero) := ⟨_, rfl⟩
          rw [← HFX.out] at hok g0
          have hsz := hok.name
          have hix2 := index_run Tryz.underlying60 size_fld ha2 k hlk (cap := fcap)
          have hbl2 : b2 < wr.heap.size := World.block_lt_of_cell? wr _ g0
          clear ha2 hok
          go_wp2_with fail
          go_roundw
          case rel => exact ⟨_, k + 1, rfl, hlk, by go_num, HBQ⟩
          case measure => simp [intOf]; omega
        · go_wp2_with fail
          go_roundw
          case rel => exact ⟨_, i + 1, rfl, hlt, by go_num, HBO.out.trans (HBQ.out.mono HBO.out.size)⟩
          case measure => simp [intOf]; omega
    · go_wp2_with fail
      go_ret
      exact ⟨⟨_, rfl⟩, HB.out⟩
end Go.Proofs.YtaefpjecalnbcaaGreat
namespace Go.Proofs.YtaefpjecalnbcaaGreat
open Go.RowKit Go.Shelf
end Go.Proofs.YtaefpjecalnbcaaGreat
namespace Go.Proofs.YtaefpjecalnbcaaGreat
open Go.RowKit Go.Deep
end Go.Proofs.YtaefpjecalnbcaaGreat
namespace Go.Proofs.YtaefpjecalnbcaaGreat
open Go.RowKit Go.Deep
theorem bytes_u64 : Tryz.prog.bytesOf 63 = 8 := by kernel_rfl
theorem cells_u64 : Tryz.prog.cellsOf 63 = 1 := by kernel_rfl
theorem bytes_msg : Tryz.prog.bytesOf 27 = 48 := by kernel_rfl
theorem cells_msg : Tryz.prog.cellsOf 27 = 2 := by kernel_rfl
theorem bytes_val : Tryz.prog.bytesOf 67 = 80 := by kernel_rfl
theorem cells_val : Tryz.prog.cellsOf 67 = 4 := by kernel_rfl
theorem cells_strs : Tryz.prog.cellsOf 25 = 1 := by kernel_rfl
theorem cells_words : Tryz.prog.cellsOf 64 = 1 := by kernel_rfl
theorem cells_msgs : Tryz.prog.cellsOf 65 = 1 := by kernel_rfl
theorem cells_vals : Tryz.prog.cellsOf 24 = 1 := by kernel_rfl
theorem sum_ones : ∀ n : Nat, ((List.range n).map fun _ => 1).sum = n
  | 0 => rfl
  | n + 1 => by rw [List.range_succ, List.map_append, List.sum_append, sum_ones n]; simp
theorem words_of_trod {H : Type} {enc : TypeId × Value → H} {w : World} {v : Value} {d : DataW H} {p : List MemPlace} (hv : ∃ a n c, v = .slice a n c) (h : DataW.Trod enc Tryz.prog w 0 (fun _ => true) true 64 v d p) (hL : Light Tryz.prog 64 d) :
    ∃ l, WordsAt w v l ∧ l.length + 1 ≤ Rows.uptoBulk d := by
  obtain ⟨n, fuel, css, D, Pl, hs, hel, hd⟩ := seg_of_trod2 Tryz.underlying64 cells_u64 (by rw [bytes_u64]; omega) hv h hL
  obtain ⟨c, hc⟩ := choose_lt (α := Nat) (n := n) (p := fun i c => css i = [wordV c] ∧ c < 2 ^ 64) (fun i hi => by
    obtain ⟨h1, h2, -⟩ := hel i hi
    obtain ⟨z, hz, -, wz⟩ := DataW.trod_int Tryz.underlying63 h2
    have hb : 0 ≤ z ∧ z ≤ 18446744073709551615 := by simpa [Lit.wf, IntKind.min, IntKind.max, IntKind.signed, IntKind.bits] using wz
    refine ⟨z.toNat, ?_, by omega⟩
    rw [hz]
    simp only [wordV]
    rw [show ((z.toNat : Nat) : Int) = z by omega])
  refine ⟨(List.range n).map c, ⟨?_, ?_⟩, ?_⟩
  · rw [List.length_map, List.length_range, List.map_map, ← flat_one n css (wordV ∘ c) (fun i hi => (hc i hi).1)]
    exact hs
  · intro t ht
    obtain ⟨i, hi, rfl⟩ := List.mem_map.1 ht
    exact (hc i (List.mem_range.1 hi)).2
  · have := bulk_elems (f := fun _ => 1) hd fun i _ => bulk_one _
    rw [sum_ones] at this
    simpa using this
def MsgRead {H : Type} (enc : TypeId × Value → H) (w : World) (N : Nat) : Prop := ∀ (fuel : Nat) (cs : List Value) (d : DataW H) (p : List MemPlace), DataW.trod enc Tryz.prog w 0 (fun _ => true) true fuel 27 cs = some (d, p) → Light Tryz.prog 27 d → Rows.uptoBulk d ≤ N →
  cs.length = 2 ∧ ∃ x : M N, MsgAt N w (.agg cs.toArray) x ∧ mwt N x ≤ Rows.uptoBulk d
def ValRead {H : Type} (enc : TypeId × Value → H) (w : World) (N : Nat) : Prop := ∀ (fuel : Nat) (cs : List Value) (d : DataW H) (p : List MemPlace), DataW.trod enc Tryz.prog w 0 (fun _ => true) true fuel 67 cs = some (d, p) → Light Tryz.prog 67 d → Rows.uptoBulk d ≤ N + 1 →
  cs.length = 4 ∧ ∃ x : Val (M N), ValAt (MsgAt N) w (.agg cs.toArray) x ∧ vwt (mwt N) x ≤ Rows.uptoBulk d
set_option maxRecDepth 100000 in
theorem val_read {H : Type} {enc : TypeId × Value → H} {w : World} {N : Nat} (ih : MsgRead enc w N) : ValRead enc w N := by
  intro fuel cs d p h hL hN
  obtain ⟨xs, n, -, hx, hl, hlen, hf⟩ := DataW.trod_struct Tryz.underlying67 h
  simp only [Prod.mk.injEq] at hx
  obtain ⟨rfl, -⟩ := hx
  have hsub := light_struct Tryz.underlying67 hL
  rw [cells_val] at hl
  match cs, hl, xs, hlen with
  | [c0, c1, c2, c3], _, [x0, x1, x2, x3], _ =>
    have g0 : DataW.trod enc Tryz.prog w 0 (fun _ => true) true n 3 [c0] = some x0 := by have := hf 0 _ rfl; simpa [cells_int] using this
    have g1 : DataW.trod enc Tryz.prog w 0 (fun _ => true) true n 64 [c1] = some x1 := by have := hf 1 _ rfl; simpa [cells_words] using this
    have g2 : DataW.trod enc Tryz.prog w 0 (fun _ => true) true n 25 [c2] = some x2 := by have := hf 2 _ rfl; simpa [cells_strs] using this
    have g3 : DataW.trod enc Tryz.prog w 0 (fun _ => true) true n 65 [c3] = some x3 := by have := hf 3 _ rfl; simpa [cells_msgs] using this
    obtain ⟨n0, e0, -, w0⟩ := DataW.trod_int Tryz.underlying3 g0
    obtain ⟨a1, m1, q1, rfl⟩ := trod_slice_form Tryz.underlying64 g1
    obtain ⟨a2, m2, q2, rfl⟩ := trod_slice_form Tryz.underlying25 g2
    obtain ⟨a3, m3, q3, rfl⟩ := trod_slice_form Tryz.underlying65 g3
    have hbk : Rows.uptoBulk (DataW.agg [x0.1, x1.1, x2.1, x3.1]) = Rows.uptoBulk x0.1 + (Rows.uptoBulk x1.1 + (Rows.uptoBulk x2.1 + (Rows.uptoBulk x3.1 + 0))) + 1 := by simp [Rows.uptoBulk, Rows.uptoBulkAll]
    simp only [List.map_cons, List.map_nil] at hN ⊢
    rw [hbk] at hN ⊢
    have o0 := bulk_one x0.1
    obtain ⟨ws, hws, bws⟩ := words_of_trod (d := x1.1) (p := x1.2) ⟨_, _, _, rfl⟩ ⟨n, by simpa [Value.cells] using g1⟩ (hsub 1 _ _ rfl rfl)
    obtain ⟨ts, hts, bts⟩ := strs_of_trod (d := x2.1) (p := x2.2) ⟨_, _, _, rfl⟩ ⟨n, by simpa [Value.cells] using g2⟩ (hsub 2 _ _ rfl rfl)
    obtain ⟨ss, hss, bss⟩ := rows_of_trod (d := x3.1) (p := x3.2) (fun w r x => MsgAt N w (.agg r.toArray) x) (mwt N) Tryz.underlying65 cells_msg (by rw [bytes_msg]; omega) ⟨_, _, _, rfl⟩ ⟨n, by simpa [Value.cells] using g3⟩ (hsub 3 _ _ rfl rfl) N (by omega)
      (fun fuel cs d p h hL hb => (ih fuel cs d p h hL hb).2)
    simp only [List.cons.injEq, and_true] at e0
    subst e0
    refine ⟨rfl, ⟨n0, ws, ts, ss⟩, ⟨_, _, _, rfl, i64_bd w0, hws, hts, hss⟩, ?_⟩
    show 1 + ws.length + twt ts + (ss.map (mwt N)).sum ≤ _
    omega
set_option maxRecDepth 100000 in
theorem msg_read {H : Type} {enc : TypeId × Value → H} {w : World} : ∀ N, MsgRead enc w N
  | 0 => fun _ _ d _ _ _ h => absurd (bulk_one d) (by omega)
  | N + 1 => by
    have ih := val_read (msg_read (enc := enc) (w := w) N)
    intro fuel cs d p h hL hN
    obtain ⟨xs, n, -, hx, hl, hlen, hf⟩ := DataW.trod_struct Tryz.underlying27 h
    simp only [Prod.mk.injEq] at hx
    obtain ⟨rfl, -⟩ := hx
    have hsub := light_struct Tryz.underlying27 hL
    rw [cells_msg] at hl
    match cs, hl, xs, hlen with
    | [c0, c1], _, [x0, x1], _ =>
      have g0 : DataW.trod enc Tryz.prog w 0 (fun _ => true) true n 24 [c0] = some x0 := by have := hf 0 _ rfl; simpa [cells_vals] using this
      have g1 : DataW.trod enc Tryz.prog w 0 (fun _ => true) true n 25 [c1] = some x1 := by have := hf 1 _ rfl; simpa [cells_strs] using this
      obtain ⟨a1, m1, q1, rfl⟩ := trod_slice_form Tryz.underlying24 g0
      obtain ⟨a2, m2, q2, rfl⟩ := trod_slice_form Tryz.underlying25 g1
      have hbk : Rows.uptoBulk (DataW.agg [x0.1, x1.1]) = Rows.uptoBulk x0.1 + (Rows.uptoBulk x1.1 + 0) + 1 := by simp [Rows.uptoBulk, Rows.uptoBulkAll]
      simp only [List.map_cons, List.map_nil] at hN ⊢
      rw [hbk] at hN ⊢
      have o1 := bulk_one x1.1
      obtain ⟨us, hus, bus⟩ := strs_of_trod (d := x1.1) (p := x1.2) ⟨_, _, _, rfl⟩ ⟨n, by simpa [Value.cells] using g1⟩ (hsub 1 _ _ rfl rfl)
      obtain ⟨vs, hvs, bvs⟩ := rows_of_trod (d := x0.1) (p := x0.2) (fun w r x => ValAt (MsgAt N) w (.agg r.toArray) x) (vwt (mwt N)) Tryz.underlying24 cells_val (by rw [bytes_val]; omega) ⟨_, _, _, rfl⟩ ⟨n, by simpa [Value.cells] using g0⟩ (hsub 0 _ _ rfl rfl) N (by omega)
        (fun fuel cs d p h hL hb => (ih fuel cs d p h hL (by omega)).2)
      refine ⟨rfl, (⟨vs, us⟩ : Msgd (M N)), ⟨_, _, rfl, hvs, hus⟩, ?_⟩
      show 1 + twt us + (vs.map (vwt (mwt N))).sum ≤ _
      omega
end Go.Proofs.YtaefpjecalnbcaaGreat
namespace Go.Proofs.YtaefpjecalnbcaaGreat
def ltW : List Int → List Int → Bool
  | [], [] => false
  | [], _ :: _ => true
  | _ :: _, [] => false
  | x :: a, y :: b => if x = y then ltW a b else decide (x < y)
theorem ltW_irrefl : ∀ a, ltW a a = false
  | [] => rfl
  | x :: a => by simp [ltW, ltW_irrefl a]
theorem ltW_trans : ∀ a b c, ltW a b = true → ltW b c = true → ltW a c = true
  | [], b, [] => by cases b <;> simp [ltW]
  | [], _, _ :: _ => by simp [ltW]
  | _ :: _, [], _ => by simp [ltW]
  | _ :: _, _ :: _, [] => by simp [ltW]
  | x :: a, y :: b, z :: c => by
    have ih := ltW_trans a b c
    simp only [ltW]
    by_cases h1 : x = y
    · subst h1
      by_cases h2 : x = z
      · subst h2; simpa using ih
      · simp only [if_true, if_neg h2, decide_eq_true_eq]; intro _ h; exact h
    · by_cases h2 : y = z
      · subst h2
        simp only [if_true, if_neg h1, decide_eq_true_eq]
        intro h _; exact h
      · by_cases h3 : x = z
        · subst h3
          simp only [if_neg h1, if_neg h2, decide_eq_true_eq]
          intro h h'; omega
        · simp only [if_neg h1, if_neg h2, if_neg h3, decide_eq_true_eq]
          intro h h'; omega
theorem ltW_total : ∀ a b, ltW a b = false → ltW b a = false → a = b
  | [], [] => fun _ _ => rfl
  | [], _ :: _ => by simp [ltW]
  | _ :: _, [] => by simp [ltW]
  | x :: a, y :: b => by
    have ih := ltW_total a b
    simp only [ltW]
    by_cases h1 : x = y
    · subst h1; simp only [if_true]; intro h h'; rw [ih h h']
    · simp only [if_neg h1, if_neg (fun e : y = x => h1 e.symm), decide_eq_false_iff_not]
      intro h h'; omega
def beginsW (way pre : List Int) : Bool := decide (pre.length ≤ way.length) && decide (way.take pre.length = pre)
theorem beginsW_iff (way pre : List Int) : beginsW way pre = true ↔ pre <+: way := by
  unfold beginsW
  rw [List.prefix_iff_eq_take]
  simp only [Bool.and_eq_true, decide_eq_true_eq]
  constructor
  · rintro ⟨_, h⟩; exact h.symm
  · intro h
    refine ⟨?_, h.symm⟩
    have h2 := congrArg List.length h
    simp at h2
    omega
theorem prefix_between : ∀ u v w : List Int, u <+: w → ltW v u = false → ltW w v = false → u <+: v
  | [], v, _, _, _, _ => List.nil_prefix
  | _ :: _, _, [], h, _, _ => by simp at h
  | x :: u, [], z :: w, h, h1, _ => by simp [ltW] at h1
  | x :: u, y :: v, z :: w, h, h1, h2 => by
    rw [List.cons_prefix_cons] at h
    obtain ⟨rfl, h⟩ := h
    by_cases e : x = y
    · subst e
      simp only [ltW, if_true] at h1 h2
      rw [List.cons_prefix_cons]
      exact ⟨rfl, prefix_between u v w h h1 h2⟩
    · simp only [ltW, if_neg e, if_neg (fun e' : y = x => e e'.symm), decide_eq_false_iff_not] at h1 h2
      omega
theorem ltW_prefix : ∀ u w : List Int, u <+: w → ltW w u = false
  | [], [], _ => rfl
  | [], _ :: _, _ => rfl
  | _ :: _, [], h => by simp at h
  | x :: u, z :: w, h => by
    rw [List.cons_prefix_cons] at h
    obtain ⟨rfl, h⟩ := h
    simpa [ltW] using ltW_prefix u w h
def Least (l : List (List Int)) (w : List Int) : Prop := w ∈ l ∧ w ≠ [] ∧ ∀ u ∈ l, u ≠ [] → u <+: w → u = w
def IsMask (l o : List (List Int)) : Prop := o.Pairwise (fun a b => ltW a b = true) ∧ ∀ w, w ∈ o ↔ Least l w
theorem sorted_same : ∀ {a b : List (List Int)}, a.Pairwise (fun a b => ltW a b = true) → b.Pairwise (fun a b => ltW a b = true) → (∀ w, w ∈ a ↔ w ∈ b) → a = b
  | [], [], _, _, _ => rfl
  | [], y :: b, _, _, h => absurd ((h y).2 (by simp)) (by simp)
  | x :: a, [], _, _, h => absurd ((h x).1 (by simp)) (by simp)
  | x :: a, y :: b, ha, hb, h => by
    rw [List.pairwise_cons] at ha hb
    have hxy : x = y := by
      have h1 := (h x).1 (by simp)
      have h2 := (h y).2 (by simp)
      rcases List.mem_cons.1 h1 with e | h1
      · exact e
      rcases List.mem_cons.1 h2 with e | h2
      · exact e.symm
      have h3 := ltW_trans _ _ _ (ha.1 y h2) (hb.1 x h1)
      rw [ltW_irrefl] at h3
      cases h3
    subst hxy
    have hab : ∀ w, w ∈ a ↔ w ∈ b := fun w => by
      constructor
      · intro hw
        rcases List.mem_cons.1 ((h w).1 (by simp [hw])) with e | hb'
        · subst e
          have := ha.1 w hw
          rw [ltW_irrefl] at this; cases this
        · exact hb'
      · intro hw
        rcases List.mem_cons.1 ((h w).2 (by simp [hw])) with e | hb'
        · subst e
          have := hb.1 w hw
          rw [ltW_irrefl] at this; cases this
        · exact hb'
    rw [sorted_same ha.2 hb.2 hab]
theorem IsMask.one {l a b : List (List Int)} (ha : IsMask l a) (hb : IsMask l b) : a = b :=
  sorted_same ha.1 hb.1 fun w => (ha.2 w).trans (hb.2 w).symm
def sieveW (o : List (List Int)) : List (List Int) → List (List Int)
  | [] => o
  | w :: r => sieveW (if w = [] ∨ (∃ u, o.getLast? = some u ∧ u <+: w) then o else o ++ [w]) r
def Taken (l o : List (List Int)) : Prop :=
  o.Pairwise (fun a b => ltW a b = true) ∧ (∀ w ∈ o, w ∈ l ∧ w ≠ []) ∧ (∀ w ∈ l, w ≠ [] → ∃ u ∈ o, u <+: w) ∧ ∀ u ∈ o, ∀ v ∈ o, u <+: v → u = v
theorem Taken.mask {l o : List (List Int)} (h : Taken l o) : IsMask l o := by
  obtain ⟨h1, h2, h3, h4⟩ := h
  refine ⟨h1, fun w => ⟨fun hw => ⟨(h2 w hw).1, (h2 w hw).2, fun u hu hn hp => ?_⟩, fun ⟨hw, hn, hl⟩ => ?_⟩⟩
  · obtain ⟨v, hv, hvu⟩ := h3 u hu hn
    have e := h4 v hv w hw (hvu.trans hp)
    subst e
    exact hp.eq_of_length_le hvu.length_le
  · obtain ⟨v, hv, hvw⟩ := h3 w hw hn
    have e := hl v (h2 v hv).1 (h2 v hv).2 hvw
    subst e
    exact hv
theorem last_most {o : List (List Int)} (h : o.Pairwise (fun a b => ltW a b = true)) {u v : List Int} (hu : u ∈ o) (hv : o.getLast? = some v) : u = v ∨ ltW u v = true := by
  obtain ⟨r, rfl⟩ : ∃ r, o = r ++ [v] := by
    rw [List.getLast?_eq_some_iff] at hv
    exact hv
  rcases List.mem_append.1 hu with h1 | h1
  · exact .inr ((List.pairwise_append.1 h).2.2 u h1 v (by simp))
  · exact .inl (by simpa using h1)
theorem sieve_taken : ∀ (r l o : List (List Int)), Taken l o → r.Pairwise (fun a b => ltW b a = false) → (∀ w ∈ l, ∀ v ∈ r, ltW v w = false) → Taken (l ++ r) (sieveW o r)
  | [], l, o, h, _, _ => by simpa [sieveW] using h
  | w :: r, l, o, h, hr, hl => by
    have hr' := List.pairwise_cons.1 hr
    rw [sieveW, show l ++ w :: r = (l ++ [w]) ++ r by simp]
    refine sieve_taken r (l ++ [w]) _ ?_ hr'.2 ?_
    · obtain ⟨h1, h2, h3, h4⟩ := h
      split
      · rename_i hc
        refine ⟨h1, fun v hv => ⟨by simp [(h2 v hv).1], (h2 v hv).2⟩, fun v hv hn => ?_, h4⟩
        rcases List.mem_append.1 hv with hv | hv
        · exact h3 v hv hn
        · simp at hv
          subst hv
          rcases hc with e | ⟨u, hu, hp⟩
          · exact absurd e hn
          · exact ⟨u, List.mem_of_getLast? hu, hp⟩
      · rename_i hc
        simp only [not_or, not_exists, not_and] at hc
        -- none that is taken begins w
        have hno : ∀ u ∈ o, ¬ u <+: w := by
          intro u hu hp
          have hne : o ≠ [] := fun e => by subst e; simp at hu
          have hg : o.getLast? = some (o.getLast hne) := List.getLast?_eq_some_getLast hne
          have hgm := List.getLast_mem hne
          rcases last_most h1 hu hg with e | hlt
          · exact hc.2 _ hg (e ▸ hp)
          · have hp2 : u <+: o.getLast hne := by
              refine prefix_between _ _ _ hp ?_ (hl _ (h2 _ hgm).1 w (by simp))
              cases hx : ltW (o.getLast hne) u with
              | false => rfl
              | true =>
                have := ltW_trans _ _ _ hlt hx
                rw [ltW_irrefl] at this; cases this
            have e := h4 u hu _ hgm hp2
            rw [← e, ltW_irrefl] at hlt
            cases hlt
        have hnb : ∀ u ∈ o, ltW u w = true := by
          intro u hu
          cases hx : ltW u w with
          | true => rfl
          | false =>
            have e := ltW_total u w hx (hl u (h2 u hu).1 w (by simp))
            exact absurd (e ▸ List.prefix_refl u) (hno u hu)
        refine ⟨?_, ?_, ?_, ?_⟩
        · rw [List.pairwise_append]
          exact ⟨h1, by simp, fun u hu v hv => by simp at hv; subst hv; exact hnb u hu⟩
        · intro v hv
          rcases List.mem_append.1 hv with hv | hv
          · exact ⟨by simp [(h2 v hv).1], (h2 v hv).2⟩
          · simp at hv; subst hv; exact ⟨by simp, hc.1⟩
        · intro v hv hn
          rcases List.mem_append.1 hv with hv | hv
          · obtain ⟨u, hu, hp⟩ := h3 v hv hn
            exact ⟨u, by simp [hu], hp⟩
          · simp at hv; subst hv; exact ⟨v, by simp, List.prefix_refl v⟩
        · intro u hu0 v hv0 hp
          rcases List.mem_append.1 hu0 with hu | hu <;> rcases List.mem_append.1 hv0 with hv | hv
          · exact h4 u hu v hv hp
          · have e : v = w := by simpa using hv
            exact absurd (e ▸ hp) (hno u hu)
          · have e : u = w := by simpa using hu
            have h5 := hnb v hv
            rw [ltW_prefix w v (e ▸ hp)] at h5
            cases h5
          · simp at hu hv; rw [hu, hv]
    · intro u hu v hv
      rcases List.mem_append.1 hu with hu | hu
      · exact hl u hu v (by simp [hv])
      · simp at hu; subst hu; exact hr'.1 v hv
theorem sieve_mask {l : List (List Int)} (h : l.Pairwise (fun a b => ltW b a = false)) : IsMask l (sieveW [] l) := by
  have := sieve_taken l [] [] ⟨by simp, by simp, by simp, by simp⟩ h (by simp)
  simpa using this.mask
theorem IsMask.perm {l l' o : List (List Int)} (hp : ∀ w, w ∈ l ↔ w ∈ l') (h : IsMask l o) : IsMask l' o := by
  refine ⟨h.1, fun w => (h.2 w).trans ?_⟩
  unfold Least
  constructor
  · rintro ⟨h1, h2, h3⟩; exact ⟨(hp w).1 h1, h2, fun u hu => h3 u ((hp u).2 hu)⟩
  · rintro ⟨h1, h2, h3⟩; exact ⟨(hp w).2 h1, h2, fun u hu => h3 u ((hp u).1 hu)⟩
def insW (w : List Int) : List (List Int) → List (List Int)
  | [] => [w]
  | u :: r => if ltW u w then u :: insW w r else w :: u :: r
theorem insW_mem (w v : List Int) : ∀ o, v ∈ insW w o ↔ v = w ∨ v ∈ o
  | [] => by simp [insW]
  | u :: r => by
    rw [insW]
    split
    · rw [List.mem_cons, insW_mem w v r, List.mem_cons]
      constructor
      · rintro (h | h | h) <;> simp [h]
      · rintro (h | h | h) <;> simp [h]
    · simp
theorem insW_sorted (w : List Int) : ∀ o : List (List Int), o.Pairwise (fun a b => ltW a b = true) → w ∉ o → (insW w o).Pairwise (fun a b => ltW a b = true)
  | [], _, _ => by simp [insW]
  | u :: r, h, hn => by
    have h' := List.pairwise_cons.1 h
    rw [insW]
    split
    · rename_i hlt
      rw [List.pairwise_cons]
      refine ⟨fun v hv => ?_, insW_sorted w r h'.2 (fun hx => hn (by simp [hx]))⟩
      rcases (insW_mem w v r).1 hv with e | hv
      · rw [e]; exact hlt
      · exact h'.1 v hv
    · rename_i hlt
      have hwu : ltW w u = true := by
        cases hx : ltW w u with
        | true => rfl
        | false => exact absurd (by simp [ltW_total w u hx (by simpa using hlt)]) hn
      rw [List.pairwise_cons]
      refine ⟨fun v hv => ?_, h⟩
      rcases List.mem_cons.1 hv with e | hv
      · rw [e]; exact hwu
      · exact ltW_trans _ _ _ hwu (h'.1 v hv)
def keepW (l : List (List Int)) (i : Nat) : Bool :=
  decide ((l.getD i []) ≠ []) && (List.range l.length).all fun k => !(decide (k ≠ i) && decide ((l.getD k []) ≠ []) && beginsW (l.getD i []) (l.getD k []) && (decide ((l.getD k []).length < (l.getD i []).length) || decide (k < i)))
def rOf (l : List (List Int)) : Nat → List (List Int)
  | 0 => []
  | n + 1 => if keepW l n then insW (l.getD n []) (rOf l n) else rOf l n
theorem keepW_iff (l : List (List Int)) (i : Nat) (hi : i < l.length) : keepW l i = true ↔ Least l (l.getD i []) ∧ ∀ k, k < i → l.getD k [] ≠ l.getD i [] := by
  have hget : ∀ k, k < l.length → l.getD k [] ∈ l := fun k hk => by
    rw [List.getD_eq_getElem?_getD, List.getElem?_eq_getElem hk]; exact List.getElem_mem hk
  unfold keepW Least
  simp only [Bool.and_eq_true, decide_eq_true_eq, List.all_eq_true, List.mem_range, Bool.not_eq_true', Bool.and_eq_false_iff, decide_eq_false_iff_not, Bool.or_eq_false_iff]
  constructor
  · rintro ⟨hn, h⟩
    have key : ∀ k, k < l.length → k ≠ i → l.getD k [] ≠ [] → l.getD k [] <+: l.getD i [] → ¬ ((l.getD k []).length < (l.getD i []).length) ∧ ¬ k < i := by
      intro k hk hki hkn hp
      rcases h k hk with ((h1 | h1) | h1) | h1
      · exact absurd hki h1
      · exact absurd hkn h1
      · rw [(beginsW_iff _ _).2 hp] at h1; cases h1
      · exact h1
    refine ⟨⟨hget i hi, hn, fun u hu hun hp => ?_⟩, fun k hk e => ?_⟩
    · obtain ⟨k, hk, e⟩ := List.getElem_of_mem hu
      have e' : l.getD k [] = u := by rw [List.getD_eq_getElem?_getD, List.getElem?_eq_getElem hk]; exact e
      by_cases hki : k = i
      · subst hki; exact e'.symm
      · have h5 := (key k hk hki (by rw [e']; exact hun) (by rw [e']; exact hp)).1
        rw [e'] at h5
        exact hp.eq_of_length_le (by omega)
    · exact (key k (by omega) (by omega) (by rw [e]; exact hn) (by rw [e]; exact List.prefix_refl _)).2 hk
  · rintro ⟨⟨_, hn, hl⟩, hf⟩
    refine ⟨hn, fun k hk => ?_⟩
    by_cases hki : k = i
    · exact .inl (.inl (.inl (fun h => h hki)))
    by_cases hkn : l.getD k [] = []
    · exact .inl (.inl (.inr (fun h => h hkn)))
    cases hb : beginsW (l.getD i []) (l.getD k []) with
    | false => exact .inl (.inr rfl)
    | true =>
      have e := hl _ (hget k hk) hkn ((beginsW_iff _ _).1 hb)
      exact .inr ⟨by rw [e]; omega, fun h => hf k h e⟩
theorem rOf_in (l : List (List Int)) : ∀ n, n ≤ l.length → (rOf l n).Pairwise (fun a b => ltW a b = true) ∧ ∀ w, w ∈ rOf l n ↔ Least l w ∧ ∃ k, k < n ∧ l.getD k [] = w
  | 0, _ => ⟨by simp [rOf], by simp [rOf]⟩
  | n + 1, hn => by
    obtain ⟨h1, h2⟩ := rOf_in l n (by omega)
    have hk := keepW_iff l n (by omega)
    rw [rOf]
    cases hx : keepW l n with
    | true =>
      rw [hx] at hk
      obtain ⟨hl, hf⟩ := hk.1 rfl
      refine ⟨insW_sorted _ _ h1 (fun hm => ?_), fun w => ?_⟩
      · obtain ⟨_, k, hk1, hk2⟩ := (h2 _).1 hm
        exact hf k hk1 hk2
      · show w ∈ insW (l.getD n []) (rOf l n) ↔ _
        rw [insW_mem, h2]
        constructor
        · rintro (rfl | ⟨hw, k, hk1, hk2⟩)
          · exact ⟨hl, n, by omega, rfl⟩
          · exact ⟨hw, k, by omega, hk2⟩
        · rintro ⟨hw, k, hk1, hk2⟩
          by_cases e : k = n
          · subst e; exact .inl hk2.symm
          · exact .inr ⟨hw, k, by omega, hk2⟩
    | false =>
      refine ⟨h1, fun w => ?_⟩
      show w ∈ rOf l n ↔ _
      rw [h2]
      constructor
      · rintro ⟨hw, k, hk1, hk2⟩; exact ⟨hw, k, by omega, hk2⟩
      · rintro ⟨hw, k, hk1, hk2⟩
        by_cases e : k = n
        · subst e
          subst hk2
          -- it is least, but not kept: it stands further ahead
          have : ¬ ∀ j, j < k → l.getD j [] ≠ l.getD k [] := fun hf => by
            have := hk.2 ⟨hw, hf⟩
            rw [hx] at this; cases this
          obtain ⟨j, hj⟩ := Classical.not_forall.1 this
          obtain ⟨hj1, hj2⟩ := Classical.not_imp.1 hj
          exact ⟨hw, j, hj1, Classical.not_not.1 hj2⟩
        · exact ⟨hw, k, by omega, hk2⟩
theorem rOf_mask (l : List (List Int)) : IsMask l (rOf l l.length) := by
  obtain ⟨h1, h2⟩ := rOf_in l l.length (Nat.le_refl _)
  refine ⟨h1, fun w => (h2 w).trans ⟨fun h => h.1, fun h => ⟨h, ?_⟩⟩⟩
  obtain ⟨k, hk, e⟩ := List.getElem_of_mem h.1
  exact ⟨k, hk, by rw [List.getD_eq_getElem?_getD, List.getElem?_eq_getElem hk]; exact e⟩
theorem sieve_rOf {l s : List (List Int)} (hp : ∀ w, w ∈ s ↔ w ∈ l) (hs : s.Pairwise (fun a b => ltW b a = false)) : sieveW [] s = rOf l l.length :=
  ((sieve_mask hs).perm hp).one (rOf_mask l)
end Go.Proofs.YtaefpjecalnbcaaGreat
