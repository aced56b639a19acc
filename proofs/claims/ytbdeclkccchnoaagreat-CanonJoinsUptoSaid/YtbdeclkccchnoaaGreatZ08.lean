/- Parts of a proof: texts of the author, merged. No condition of their own. -/
import Derived.Test.YtbdeclkccchnoaaGreatZ01
import Derived.Test.YtbdeclkccchnoaaGreatZ04
import Derived.Test.YtbdeclkccchnoaaGreatZ05
import Derived.Test.YtbdeclkccchnoaaGreatZ06
import Derived.Test.YtbdeclkccchnoaaGreatZ07
import Derived.BigRegion
import Derived.StillTailTactics
import Derived.Deep.RegionHeld3
import Derived.IntWalk
import Derived.Laws.AppendOwn
import Derived.OwnWalk
import Derived.Maps.AppendAt
namespace Go.Proofs.YtbdeclkccchnoaaGreat
open Go.RowKit
theorem getD_mem {α : Type} (l : List α) (z : α) {k : Nat} (hk : k < l.length) : l.getD k z ∈ l := by
  have : l.getD k z = l[k] := by simp [List.getD, hk]
  rw [this]; exact List.getElem_mem hk
theorem grown_below' {w w1 w2 : World} (h : Below w.heap.size w w1) {r : Option Nat} (hg : w1.grownBy w2 r) : w.grownBy w2 r :=
  ⟨hg.os.trans h.os, hg.tape.trans h.tape, hg.output.trans h.output, Nat.le_trans h.size hg.size, fun k hk hr => (hg.block k (Nat.lt_of_lt_of_le hk h.size) hr).trans (h.block k hk)⟩
structure Chk (w0 : World) (cb : Nat) (sv : Value) (w : World) : Prop where
  le : w0.heap.size ≤ cb
  below : Below w0.heap.size w0 w
  blk : ∃ dd : Int, Blk w cb [sv, .int .i64 dd] 130
theorem Chk.later {w0 : World} {cb : Nat} {sv : Value} {w w' : World} (h : Chk w0 cb sv w) (hb : Below w.heap.size w w') : Chk w0 cb sv w' :=
  ⟨h.le, h.below.trans (hb.mono h.below.size), let ⟨dd, hd⟩ := h.blk; ⟨dd, hd.below hb⟩⟩
def MsgC (w0 : World) (cb : Nat) (sv : Value) (s : List Mes) (d : Nat) : Prop :=
  ∀ (m depth fr : Nat) (zf zd zm : Int) (w : World) (v : Value) (l : List UInt8), zf = fr → zd = depth → zm = depth + d → m < s.length → Chk w0 cb sv w → Bytes w0 v l → fr + l.length ≤ 140737488355328 → depth + d ≤ 1000 →
    Calls Tryz.prog 64 #[.pointer (some ⟨cb, 0, none⟩), .int .i64 m, v, .int .i64 zf, .int .i64 zd, .int .i64 zm] w fun e w' =>
      e = .returned (.tuple #[.int .i64 (if (vmsg s d m l).2 = 0 then 0 else fr + (vmsg s d m l).1 : Nat), .int .u8 (vmsg s d m l).2]) ∧ Chk w0 cb sv w' ∧ w.grownBy w' (some cb)
def ValP (w0 : World) (cb : Nat) (sv : Value) (fr : Nat) (x : Nat × Nat) (w : World) (e : Ending) (w' : World) : Prop :=
  (∃ p : Nat, e = .returned (.tuple #[.int .i64 p, .int .u8 x.2]) ∧ (x.2 ≠ 0 → p = fr + x.1)) ∧ Chk w0 cb sv w' ∧ w.grownBy w' (some cb)
set_option maxRecDepth 100000 in
set_option maxHeartbeats 4000000 in
theorem valid_value_unknown {w0 w : World} {cb : Nat} {sv v : Value} (m depth fr : Nat) (r : Rec) (hC : Chk w0 cb sv w) (most : Int) :
    Calls Tryz.prog 96 #[.pointer (some ⟨cb, 0, none⟩), .int .i64 m, viewV r (-1) false, v, .int .i64 fr, .int .i64 depth, .int .i64 most] w
      (ValP w0 cb sv fr (0, 0) w) := by
  go_enter Tryz.func96, Tryz.ntmps96
  unfold viewV
  go_wp2
  go_ret2
  refine ⟨⟨0, rfl, fun h => absurd rfl h⟩, hC.later ((Below.refl _ _).alloc (Nat.le_refl _) _), (World.grownBy_alloc _ _ _)⟩
set_option maxRecDepth 100000 in
set_option maxHeartbeats 4000000 in
theorem valid_value_known {w0 w : World} {cb : Nat} {sv v : Value} {s : List Mes} (hS : SchemaAt w0 sv s) (hs : sright s = true) (d m depth fr : Nat) (hm : m < s.length) {l : List UInt8} (hv : Bytes w0 v l)
    (hl : fr + l.length ≤ 140737488355328) (hd : depth + d ≤ 1000) (hrec : d ≠ 0 → MsgC w0 cb sv s (d - 1)) (r : Rec) (h1 : r.start < r.at') (h2 : r.at' ≤ r.to) (h3 : r.to ≤ l.length)
    (k : Nat) (hk : k < (s.getD m .zero).fields.length) (run : Bool) (hrun : run = true → knumber ((s.getD m .zero).fields.getD k .zero).kind = true) (hC : Chk w0 cb sv w) :
    Calls Tryz.prog 96 #[.pointer (some ⟨cb, 0, none⟩), .int .i64 m, viewV r k run, v, .int .i64 fr, .int .i64 depth, .int .i64 ((depth : Int) + (d : Int))] w
      (ValP w0 cb sv fr (vval (vrec s d) (decide (d = 0)) (s.getD m .zero).fields l (r, (k : Int), run, 0)) w) := by
  obtain ⟨dd, hblk⟩ := hC.blk
  obtain ⟨hslen, sa, scap, rfl, hat⟩ := hS.open
  obtain ⟨sb, so, fv, rfl, hnm, c0, c1, hfat⟩ := hat m hm
  clear hat
  obtain ⟨hflen, fa, fcap, rfl, hf⟩ := hfat.open
  obtain ⟨fb, fo, rfl, hok, g0, g1, g2, g3, g4, g5⟩ := hf k hk
  clear hf
  obtain ⟨f, HF⟩ : ∃ f, Hid (f = (s.getD m .zero).fields.getD k .zero) := ⟨_, rfl⟩
  rw [← HF.out] at hok g0 g1 g2 g3 g4 g5 hrun
  have hof := sright_field hs m hm f (by rw [HF.out]; exact getD_mem _ _ hk)
  obtain ⟨n, HN⟩ : ∃ n, Hid (n = (s.getD m .zero).fields.length) := ⟨_, rfl⟩
  rw [← HN.out] at hk hflen c1
  obtain ⟨sn, HSN⟩ : ∃ sn, Hid (sn = s.length) := ⟨_, rfl⟩
  rw [← HSN.out] at hslen hm hblk
  obtain ⟨hvl, va, vcap, rfl, -, -, -, -⟩ := hv.open
  obtain ⟨ln, HL⟩ : ∃ ln, Hid (ln = l.length) := ⟨_, rfl⟩
  rw [← HL.out] at hv hl h3 hvl ⊢
  obtain ⟨pa, pcap, hps, -, hpb⟩ := hv.cut HL.out r.at' r.to h2 h3
  obtain ⟨f1, f2, f3, f4, f5, f6⟩ := f
  simp only at g0 g1 g2 g3 g4 g5 hof hrun
  have hk0 := below_keeps hC.below
  replace c1 := hk0 _ _ c1
  replace g0 := hk0 _ _ g0
  replace g1 := hk0 _ _ g1
  replace g2 := hk0 _ _ g2
  replace g3 := hk0 _ _ g3
  replace g4 := hk0 _ _ g4
  replace g5 := hk0 _ _ g5
  clear hk0 c0
  have l1 := World.block_lt_of_cell? w _ c1
  have l2 := World.block_lt_of_cell? w _ g1
  have k0 := hblk.cell 0 _ rfl
  have lb := hblk.lt
  simp only at l1 l2
  obtain ⟨r1, r2, r3, r4, r5⟩ := r
  simp only at h1 h2 h3 hps hpb
  have hval : vval (vrec s d) (decide (d = 0)) (s.getD m .zero).fields l (⟨r1, r2, r3, r4, r5⟩, (k : Int), run, 0) =
      if run = true then (r3, (runCount (kwire f3) (part l r4 r5)).2) else
      if f3 = 15 then (if ufirst (part l r4 r5) = (part l r4 r5).length then (0, 0) else (r3, 7)) else
      if f3 = 17 then (if decide (d = 0) = true then (r3, 8) else (r4 + (vrec s d f6.toNat (part l r4 r5)).1, (vrec s d f6.toNat (part l r4 r5)).2)) else (0, 0) := by
    unfold vval
    rw [if_neg (by show ¬ ((k : Int) < 0); omega)]
    simp only [Int.toNat_natCast]
    rw [← HF.out]
  obtain ⟨x, HX⟩ : ∃ x, Hid (x = vval (vrec s d) (decide (d = 0)) (s.getD m .zero).fields l (⟨r1, r2, r3, r4, r5⟩, (k : Int), run, 0)) := ⟨_, rfl⟩
  rw [← HX.out] at hval ⊢
  have HVAL := hid hval
  clear hval HX
  unfold viewV
  go_enter Tryz.func96, Tryz.ntmps96
  go_wp2
  have HV := hid (Blk.new w [.int .i64 r1, .int .i64 r2, .int .i64 r3, .int .i64 r4, .int .i64 r5, .int .i64 k, .bool run] 93)
  obtain ⟨W1, HW1⟩ : ∃ W1, Hid (W1 = w.alloc (.cells #[.int .i64 r1, .int .i64 r2, .int .i64 r3, .int .i64 r4, .int .i64 r5, .int .i64 k, .bool run] 93)) := ⟨_, rfl⟩
  have HB1 : Hid (Below w.heap.size w W1) := by rw [HW1.out]; exact (Below.refl _ _).alloc (Nat.le_refl _) _
  have hk1 := below_keeps HB1.out
  have HV' : Hid (Blk W1 w.heap.size [.int .i64 r1, .int .i64 r2, .int .i64 r3, .int .i64 r4, .int .i64 r5, .int .i64 k, .bool run] 93) := by rw [HW1.out]; exact HV.out
  clear HV
  replace c1 := hk1 _ _ c1
  replace g0 := hk1 _ _ g0
  replace g1 := hk1 _ _ g1
  replace g2 := hk1 _ _ g2
  replace g3 := hk1 _ _ g3
  replace g4 := hk1 _ _ g4
  replace g5 := hk1 _ _ g5
  replace k0 := hk1 _ _ k0
  have hz1 : W1.heap.size = w.heap.size + 1 := by rw [HW1.out]; simp
  rw [← HW1.out]
  obtain ⟨vb, HVB⟩ : ∃ vb, Hid (vb = w.heap.size) := ⟨_, rfl⟩
  rw [← HVB.out] at HV' hz1 l1 l2 lb ⊢
  have HZ := hid hz1
  clear hz1 hk1
  have x2 := HV'.out.cell 2 _ rfl
  have x3 := HV'.out.cell 3 _ rfl
  have x4 := HV'.out.cell 4 _ rfl
  have x5 := HV'.out.cell 5 _ rfl
  have x6 := HV'.out.cell 6 _ rfl
  have l1' : sb < W1.heap.size := by rw [HZ.out]; omega
  have l2' : fb < W1.heap.size := by rw [HZ.out]; omega
  have lb' : cb < W1.heap.size := by rw [HZ.out]; omega
  have lv' : vb < W1.heap.size := by rw [HZ.out]; omega
  have w1 : IntKind.i64.wrap ((fr : Int) + (r3 : Int)) = fr + r3 := IntWalk.i64_in _ (by omega)
  clear HVB
  go_region_held3 (fun w' => w'.cell? ⟨cb, 0, none⟩ = some (.slice (some ⟨sb, so, none⟩) sn scap) ∧ w'.cell? ⟨sb, so + m * 2 + 1, none⟩ = some (.slice (some ⟨fb, fo, none⟩) n fcap) ∧ w'.cell? ⟨fb, fo + k * 6, none⟩ = some (.string f1) ∧ w'.cell? ⟨fb, fo + k * 6 + 1, none⟩ = some (.int .i64 f2) ∧ w'.cell? ⟨fb, fo + k * 6 + 2, none⟩ = some (.int .i64 f3) ∧ w'.cell? ⟨fb, fo + k * 6 + 3, none⟩ = some (.bool f4) ∧ w'.cell? ⟨fb, fo + k * 6 + 4, none⟩ = some (.bool f5) ∧ w'.cell? ⟨fb, fo + k * 6 + 5, none⟩ = some (.int .i64 f6) ∧ w'.cell? ⟨vb, 2, none⟩ = some (.int .i64 r3) ∧ w'.cell? ⟨vb, 3, none⟩ = some (.int .i64 r4) ∧ w'.cell? ⟨vb, 4, none⟩ = some (.int .i64 r5) ∧ w'.cell? ⟨vb, 5, none⟩ = some (.int .i64 k)) (first | (with_reducible exact ⟨k0, c1, g0, g1, g2, g3, g4, g5, x2, x3, x4, x5⟩) | go_keep) (fail)
  obtain ⟨W2, HW2⟩ : ∃ W2, Hid (W2 = (W1.alloc (.cells #[.string f1, .int .i64 f2, .int .i64 f3, .bool f4, .bool f5, .int .i64 f6] 44)).drew) := ⟨_, rfl⟩
  have HF2 := hid (Blk.new W1 [.string f1, .int .i64 f2, .int .i64 f3, .bool f4, .bool f5, .int .i64 f6] 44)
  have HB2 : Hid (Below W1.heap.size W1 W2) := by rw [HW2.out]; exact ((Below.refl _ _).alloc (Nat.le_refl _) _).drew
  have HF3 : Hid (Blk W2 W1.heap.size [.string f1, .int .i64 f2, .int .i64 f3, .bool f4, .bool f5, .int .i64 f6] 44) := by rw [HW2.out]; exact HF2.out
  have HV2 : Hid (Blk W2 vb [.int .i64 r1, .int .i64 r2, .int .i64 r3, .int .i64 r4, .int .i64 r5, .int .i64 k, .bool run] 93) := HV'.out.below HB2.out
  have HC2 := hid (hC.later (HB1.out.trans (HB2.out.mono HB1.out.size)))
  have HB3 := hid (HB1.out.trans (HB2.out.mono HB1.out.size))
  have HBP : Hid (Bytes W2 (.slice pa (r5 - r4) pcap) (part l r4 r5)) := hpb.keep (below_keeps HC2.out.below)
  have HPB := hid hpb
  have HPL : Hid ((part l r4 r5).length = r5 - r4) := part_len l r4 r5 h2 (by have := HL.out; omega)
  rw [← HW2.out]
  clear HF2 HW2 HB2 hpb k0 c1 g0 g1 g2 g3 g4 g5 x2 x3 x4 x5 x6 l1 l2 lb l1' l2' lb' lv' hv hblk HV'
  obtain ⟨fx, HFX⟩ : ∃ fx, Hid (fx = W1.heap.size) := ⟨_, rfl⟩
  rw [← HFX.out] at HF3 ⊢
  have x6 := HV2.out.cell 6 _ rfl
  have y2 := HF3.out.cell 2 _ rfl
  have HR := hid hrun
  have HOF := hid hof
  clear hrun hof
  cases run with
  | true =>
    obtain rfl : x = (r3, (runCount (kwire f3) (part l r4 r5)).2) := by rw [HVAL.out, if_pos rfl]
    go_wp2_with (go_at_call 117; refine (run_Count HBP.out f3 (HR.out rfl)).mono ?_; rintro e w3 ⟨rfl, hb3⟩)
    go_ret2
    exact ⟨⟨fr + r3, by simp, fun _ => rfl⟩, HC2.out.later hb3, below_grown (HB3.out.trans (hb3.mono HB3.out.size)) _⟩
  | false =>
    by_cases h15 : f3 = 15
    · subst h15
      by_cases hu : ufirst (part l r4 r5) = (part l r4 r5).length
      · obtain rfl : x = (0, 0) := by rw [HVAL.out, if_neg (by decide), if_pos rfl, if_pos hu]
        have HU : Hid (decide (ufirst (part l r4 r5) = (part l r4 r5).length) = true) := decide_eq_true hu
        clear hu
        go_wp2_with fail
        refine (utf_Right HBP.out).mono ?_
        rintro e w3 ⟨rfl, rfl⟩
        rw [HU.out]
        go_wp2
        go_ret2
        exact ⟨⟨0, rfl, fun h => absurd rfl h⟩, HC2.out, below_grown HB3.out _⟩
      · obtain rfl : x = (r3, 7) := by rw [HVAL.out, if_neg (by decide), if_pos rfl, if_neg hu]
        have HU : Hid (decide (ufirst (part l r4 r5) = (part l r4 r5).length) = false) := decide_eq_false hu
        clear hu
        go_wp2_with fail
        refine (utf_Right HBP.out).mono ?_
        rintro e w3 ⟨rfl, rfl⟩
        rw [HU.out]
        go_wp2
        go_ret2
        exact ⟨⟨fr + r3, by simp, fun _ => rfl⟩, HC2.out, below_grown HB3.out _⟩
    · have e15 : (f3 == 15) = false := by simpa using h15
      by_cases h17 : f3 = 17
      · subst h17
        by_cases h0 : d = 0
        · subst h0
          obtain rfl : x = (r3, 8) := by rw [HVAL.out, if_neg (by decide), if_neg (by decide), if_pos rfl, if_pos (by decide)]
          go_wp2
          go_ret2
          exact ⟨⟨fr + r3, by simp, fun _ => rfl⟩, HC2.out, below_grown HB3.out _⟩
        · obtain ⟨d', rfl⟩ : ∃ d', d = d' + 1 := ⟨d - 1, by omega⟩
          have hM : MsgC w0 cb _ s d' := hrec (by omega)
          obtain ⟨o, rfl⟩ : ∃ o : Nat, f6 = o := ⟨f6.toNat, by have := (HOF.out.2.1 rfl).1; omega⟩
          have hon : o < s.length := by have := (HOF.out.2.1 rfl).2; omega
          obtain rfl : x = (r4 + (vmsg s d' o (part l r4 r5)).1, (vmsg s d' o (part l r4 r5)).2) := by
            rw [HVAL.out, if_neg (by decide), if_neg (by decide), if_pos rfl, if_neg (by simp)]; rfl
          have HM := hid (fun zf zd zm h1 h2 h3 => hM o (depth + 1) (fr + r4) zf zd zm W2 _ (part l r4 r5) h1 h2 h3 hon HC2.out HPB.out (by rw [HPL.out]; omega) (by omega))
          obtain ⟨z, HZZ⟩ : ∃ z : Nat, Hid (z = if (vmsg s d' o (part l r4 r5)).2 = 0 then 0 else fr + r4 + (vmsg s d' o (part l r4 r5)).1) := ⟨_, rfl⟩
          rw [← HZZ.out] at HM
          clear hM hrec h0
          have y5 := HF3.out.cell 5 _ rfl
          have x3 := HV2.out.cell 3 _ rfl
          have w1 : IntKind.i64.wrap ((depth : Int) + 1) = depth + 1 := IntWalk.i64_in _ (by omega)
          have w2 : IntKind.i64.wrap ((fr : Int) + (r4 : Int)) = fr + r4 := IntWalk.i64_in _ (by omega)
          have ed : ((depth : Int) == (depth : Int) + ((d' : Int) + 1)) = false := by simp; omega
          go_wp2_with fail
          refine (HM.out _ _ _ (by omega) (by omega) (by omega)).mono ?_
          rintro e w3 ⟨rfl, hC3, hg3⟩
          go_wp2
          go_ret2
          exact ⟨⟨z, rfl, fun h => by rw [HZZ.out, if_neg h, Nat.add_assoc]⟩, hC3, grown_below' HB3.out hg3⟩
      · have e17 : (f3 == 17) = false := by simpa using h17
        obtain rfl : x = (0, 0) := by rw [HVAL.out, if_neg (by decide), if_neg h15, if_neg h17]
        go_wp2
        go_ret2
        exact ⟨⟨0, rfl, fun h => absurd rfl h⟩, HC2.out, below_grown HB3.out _⟩
end Go.Proofs.YtbdeclkccchnoaaGreat
namespace Go.Proofs.YtbdeclkccchnoaaGreat
open Go.RowKit
def vput (x : Nat) : List UInt8 := if x < 128 then [b8 x] else b8 (128 + x % 128) :: vput (x / 128)
termination_by x
decreasing_by omega
theorem vput_small {x : Nat} (h : x < 128) : vput x = [b8 x] := by rw [vput, if_pos h]
theorem vput_big {x : Nat} (h : ¬ x < 128) : vput x = b8 (128 + x % 128) :: vput (x / 128) := by rw [vput, if_neg h]
theorem vput_len : ∀ (k x : Nat), x < 128 ^ (k + 1) → (vput x).length ≤ k + 1
  | 0, x, h => by rw [vput_small (by simpa using h)]; simp
  | k + 1, x, h => by
    by_cases h1 : x < 128
    · rw [vput_small h1]; simp
    · rw [vput_big h1]
      have := vput_len k (x / 128) (Nat.div_lt_of_lt_mul (by rw [Nat.pow_succ, Nat.mul_comm] at h; exact h))
      simp; omega
theorem vput_le {x : Nat} (h : x < 2 ^ 64) : (vput x).length ≤ 10 := vput_len 9 x (Nat.lt_of_lt_of_le h (by decide))
theorem or128 (x : Nat) : bits .or .u8 ((x : Int) % 256) 128 = ((128 + x % 128 : Nat) : Int) := by
  have : ∀ c : Fin 256, bits .or .u8 (c.val : Int) 128 = ((128 + c.val % 128 : Nat) : Int) := by decide +kernel
  rw [show (x : Int) % 256 = ((x % 256 : Nat) : Int) by omega, this ⟨x % 256, by omega⟩]
  simp
set_option maxRecDepth 100000 in
set_option maxHeartbeats 4000000 in
theorem varint_Put {w : World} {v : Value} {l : List UInt8} (h : Bytes w v l) (hl : l.length ≤ 1099511627776) (x : Nat) (hx : x < 2 ^ 64) :
    Calls Tryz.prog 90 #[v, .int .u64 x] w fun e w' => ∃ v', e = .returned v' ∧ Own w' w.heap.size v' (l ++ vput x) ∧ Below w.heap.size w w' := by
  have H := hid h
  have HX := hid hx
  clear h hx
  obtain ⟨hlen, a, cap, rfl, -, -, -, -⟩ := H.out.open
  clear hlen
  go_enter Tryz.func90, Tryz.ntmps90
  go_wp2_with (go_at_call 99; refine (clone_bytes H.out).mono ?_; rintro e w1 ⟨v1, rfl, hO, hb1⟩)
  go_loopw [0, 1] (fun v0 v1 wr => ∃ (l' : List UInt8) (y : Nat), v1 = .int .u64 y ∧ Hid (y < 2 ^ 64) ∧ Hid (l' ++ vput y = l ++ vput x) ∧ Hid (Own wr w.heap.size v0 l' ∧ Below w.heap.size w wr)) (fun _ v1 _ => (intOf v1).toNat)
  case atStart => exact ⟨l, x, rfl, HX, rfl, hO, hb1⟩
  case round =>
    obtain ⟨l', y, rfl, HY, HE, HO⟩ := hrel
    have HLN : Hid (l'.length + (vput y).length ≤ 1099511627776 + 10) := by
      have h1 := congrArg List.length HE.out
      rw [List.length_append, List.length_append] at h1
      have := vput_le HX.out
      show _ ≤ _; omega
    by_cases h : y < 128
    · have hB := bytes_one wr 5 (b8 y) y (by simp [b8]; omega)
      obtain ⟨v', w', hr, hO', hg, -⟩ := own_append (w := wr.alloc (.cells #[.int .u8 y] 5)) (World.ownsRow.alloc HO.out.1 _) hB (by have := HLN.out; simp; omega) (by have := HO.out.2.size; simp; omega)
      have HR := hid hr
      have HO2 := hid hO'
      have hg2 := own_grown (w := wr.alloc (.cells #[.int .u8 y] 5)) (World.ownsRow.alloc HO.out.1 _) (HO.out.2.alloc HO.out.2.size _) hg
      have HG2 := hid hg2
      clear hB hr hO' hg hg2
      go_wp2_with (at_builtin; refine wpList_append_eq rfl _ _ _ rfl _ _ rfl rfl HR.out ?_)
      go_ret
      refine ⟨_, rfl, ?_, HG2.out⟩
      rw [← HE.out, vput_small h]
      exact HO2.out
    · have hdiv : y / 128 < 2 ^ 64 := by have := HY.out; omega
      have hB := bytes_one wr 5 (b8 (128 + y % 128)) (bits .or .u8 ((y : Int) % 256) 128) (by rw [or128]; simp [b8]; omega)
      have hly := HLN.out
      rw [vput_big h, List.length_cons] at hly
      obtain ⟨v', w', hr, hO', hg, -⟩ := own_append (w := wr.alloc (.cells #[.int .u8 (bits .or .u8 ((y : Int) % 256) 128)] 5)) (World.ownsRow.alloc HO.out.1 _) hB (by simp; omega) (by have := HO.out.2.size; simp; omega)
      have HR := hid hr
      have HO2 := hid hO'
      have hg2 := own_grown (w := wr.alloc (.cells #[.int .u8 (bits .or .u8 ((y : Int) % 256) 128)] 5)) (World.ownsRow.alloc HO.out.1 _) (HO.out.2.alloc HO.out.2.size _) hg
      have HG2 := hid hg2
      clear hB hr hO' hg hg2 hly
      go_wp2_with (at_builtin; refine wpList_append_eq rfl _ _ _ rfl _ _ rfl rfl HR.out ?_)
      go_roundw
      case rel =>
        refine ⟨l' ++ [b8 (128 + y % 128)], y / 128, ?_, hdiv, ?_, HO2.out, HG2.out⟩
        · go_num
        · rw [Hid, ← HE.out, vput_big h]; simp
      case measure => simp [intOf]; omega
theorem string_same (l m : List UInt8) : ((⟨l.toArray⟩ : ByteArray) = ⟨m.toArray⟩) ↔ l = m := by
  constructor
  · intro h
    have := congrArg (fun b : ByteArray => b.data.toList) h
    simpa using this
  · rintro rfl; rfl
set_option maxRecDepth 100000 in
set_option maxHeartbeats 4000000 in
theorem ref01_Same {w : World} {v x : Value} {l m : List UInt8} (h : Bytes w v l) (hx : Bytes w x m) :
    Calls Tryz.prog 13 #[v, x] w fun e w' => e = .returned (.bool (decide (l = m))) ∧ w = w' := by
  have c1 := h.str
  have c2 := hx.str
  obtain ⟨-, a, cap, rfl, -, -, -, -⟩ := h.open
  obtain ⟨-, a2, cap2, rfl, -, -, -, -⟩ := hx.open
  clear h hx
  have e : ((⟨l.toArray⟩ : ByteArray).toList == (⟨m.toArray⟩ : ByteArray).toList) = decide (l = m) := by
    rw [str_beq, decide_eq_decide, string_same]
  go_enter Tryz.func13, Tryz.ntmps13
  go_wp2_with fail
  go_ret
  have hq : (l == m) = decide (l = m) := by rw [Bool.eq_iff_iff]; simp
  exact ⟨ret1 (congrArg Value.bool hq), rfl⟩
end Go.Proofs.YtbdeclkccchnoaaGreat
namespace Go.Proofs.YtbdeclkccchnoaaGreat
open Go.RowKit
def s32 (x : Nat) : Int := if x % 4294967296 < 2147483648 then ((x % 4294967296 : Nat) : Int) else ((x % 4294967296 : Nat) : Int) - 4294967296
def w32 (x : Nat) : Nat := if x % 4294967296 < 2147483648 then x % 4294967296 else x % 4294967296 + 18446744069414584320
def kcanon (k : Int) (x : Nat) : Nat := if k = 1 ∨ k = 8 then w32 x else if k = 7 then (if 0 < x then 1 else 0) else if k = 3 ∨ k = 5 ∨ k = 9 ∨ k = 10 ∨ k = 11 then x % 4294967296 else x
theorem w32_lt (x : Nat) : w32 x < 2 ^ 64 := by unfold w32; split <;> omega
theorem kcanon_lt (k : Int) {x : Nat} (h : x < 2 ^ 64) : kcanon k x < 2 ^ 64 := by
  unfold kcanon
  have := w32_lt x
  split
  · exact this
  · split
    · split <;> omega
    · split <;> omega
set_option maxRecDepth 100000 in
set_option maxHeartbeats 4000000 in
theorem bits_Low32 (x : Nat) (w : World) :
    Calls Tryz.prog 109 #[.int .u64 x] w fun e w' => e = .returned (.int .u32 ((x % 4294967296 : Nat) : Int)) ∧ w = w' := by
  go_enter Tryz.func109, Tryz.ntmps109
  go_wp2
  go_ret
  exact ⟨ret1 (int_eq (by omega)), rfl⟩
set_option maxRecDepth 100000 in
set_option maxHeartbeats 4000000 in
theorem bits_Sign32 (x : Nat) (w : World) :
    Calls Tryz.prog 108 #[.int .u64 x] w fun e w' => e = .returned (.int .i32 (s32 x)) ∧ w = w' := by
  have h : IntKind.i32.wrap ((x : Int) % 4294967296) = s32 x := by
    unfold s32
    simp [IntKind.wrap, IntKind.bits, IntKind.signed]
    split <;> split <;> omega
  go_enter Tryz.func108, Tryz.ntmps108
  go_wp2
  go_ret
  exact ⟨ret1 (int_eq (by first | exact h | rw [← h])), rfl⟩
set_option maxRecDepth 100000 in
set_option maxHeartbeats 4000000 in
theorem bits_Wide32 (x : Nat) (w : World) :
    Calls Tryz.prog 107 #[.int .i32 (s32 x)] w fun e w' => e = .returned (.int .u64 (w32 x)) ∧ w = w' := by
  have h : (s32 x) % 18446744073709551616 = (w32 x : Int) := by
    unfold s32 w32
    split <;> omega
  have h2 : -2147483648 ≤ s32 x ∧ s32 x < 2147483648 := by
    unfold s32
    split <;> omega
  generalize s32 x = z at *
  go_enter Tryz.func107, Tryz.ntmps107
  go_wp2
  go_ret
  exact ⟨ret1 (int_eq (by first | exact h | (rw [← h]; omega))), rfl⟩
end Go.Proofs.YtbdeclkccchnoaaGreat
namespace Go.Proofs.YtbdeclkccchnoaaGreat
open Go.RowKit
structure Val (α : Type) where
  num : Int
  words : List Nat
  texts : List (List UInt8)
  subs : List α
structure Msgd (α : Type) where
  vals : List (Val α)
  unk : List (List UInt8)
def M : Nat → Type
  | 0 => Empty
  | d + 1 => Msgd (M d)
def M.vals {d : Nat} (x : M (d + 1)) : List (Val (M d)) := Msgd.vals x
def M.unk {d : Nat} (x : M (d + 1)) : List (List UInt8) := Msgd.unk x
def strV (t : List UInt8) : Value := .string ⟨t.toArray⟩
def wordV (x : Nat) : Value := .int .u64 (x : Int)
def StrsAt (w : World) (v : Value) (l : List (List UInt8)) : Prop := Seg w v 1 l.length (l.map strV) ∧ ∀ t ∈ l, t.length ≤ 140737488355328
def WordsAt (w : World) (v : Value) (l : List Nat) : Prop := Seg w v 1 l.length (l.map wordV) ∧ ∀ x ∈ l, x < 2 ^ 64
def RowsAt {α : Type} (P : World → List Value → α → Prop) (k : Nat) (w : World) (v : Value) (l : List α) : Prop :=
  ∃ rows : List (List Value), rows.length = l.length ∧ (∀ r ∈ rows, r.length = k) ∧ Seg w v k l.length rows.flatten ∧ ∀ (i : Nat) (r : List Value) (x : α), rows[i]? = some r → l[i]? = some x → P w r x
def SubsAt {α : Type} (P : World → Value → α → Prop) (w : World) (v : Value) (l : List α) : Prop := RowsAt (fun w r x => P w (.agg r.toArray) x) 2 w v l
def ValAt {α : Type} (P : World → Value → α → Prop) (w : World) (v : Value) (x : Val α) : Prop :=
  ∃ wv tv sv, v = .agg #[.int .i64 x.num, wv, tv, sv] ∧ (-9223372036854775808 ≤ x.num ∧ x.num ≤ 9223372036854775807) ∧ WordsAt w wv x.words ∧ StrsAt w tv x.texts ∧ SubsAt P w sv x.subs
def ValsAt {α : Type} (P : World → Value → α → Prop) (w : World) (v : Value) (l : List (Val α)) : Prop := RowsAt (fun w r x => ValAt P w (.agg r.toArray) x) 4 w v l
def MsgAt : (d : Nat) → World → Value → M d → Prop
  | 0, _, _, _ => False
  | d + 1, w, v, x => ∃ vv uv, v = .agg #[vv, uv] ∧ ValsAt (MsgAt d) w vv (M.vals x) ∧ StrsAt w uv (M.unk x)
theorem StrsAt.keep {w w' : World} {v : Value} {l : List (List UInt8)} (h : StrsAt w v l) (hk : ∀ p u, w.cell? p = some u → w'.cell? p = some u) : StrsAt w' v l := ⟨h.1.keep hk, h.2⟩
theorem WordsAt.keep {w w' : World} {v : Value} {l : List Nat} (h : WordsAt w v l) (hk : ∀ p u, w.cell? p = some u → w'.cell? p = some u) : WordsAt w' v l := ⟨h.1.keep hk, h.2⟩
theorem RowsAt.keep {α : Type} {P : World → List Value → α → Prop} {k : Nat} {w w' : World} {v : Value} {l : List α} (h : RowsAt P k w v l) (hk : ∀ p u, w.cell? p = some u → w'.cell? p = some u) (hP : ∀ r x, P w r x → P w' r x) : RowsAt P k w' v l :=
  let ⟨rows, h1, h0, h2, h3⟩ := h
  ⟨rows, h1, h0, h2.keep hk, fun i r x hr hx => hP _ _ (h3 i r x hr hx)⟩
theorem SubsAt.keep {α : Type} {P : World → Value → α → Prop} {w w' : World} {v : Value} {l : List α} (h : SubsAt P w v l) (hk : ∀ p u, w.cell? p = some u → w'.cell? p = some u) (hP : ∀ v x, P w v x → P w' v x) : SubsAt P w' v l :=
  RowsAt.keep h hk fun _ _ hx => hP _ _ hx
theorem ValAt.keep {α : Type} {P : World → Value → α → Prop} {w w' : World} {v : Value} {x : Val α} (h : ValAt P w v x) (hk : ∀ p u, w.cell? p = some u → w'.cell? p = some u) (hP : ∀ v x, P w v x → P w' v x) : ValAt P w' v x :=
  let ⟨wv, tv, sv, h1, h2, h3, h4, h5⟩ := h
  ⟨wv, tv, sv, h1, h2, h3.keep hk, h4.keep hk, h5.keep hk hP⟩
theorem ValsAt.keep {α : Type} {P : World → Value → α → Prop} {w w' : World} {v : Value} {l : List (Val α)} (h : ValsAt P w v l) (hk : ∀ p u, w.cell? p = some u → w'.cell? p = some u) (hP : ∀ v x, P w v x → P w' v x) : ValsAt P w' v l :=
  RowsAt.keep h hk fun _ _ hx => hx.keep hk hP
theorem MsgAt.keep : ∀ {d : Nat} {w w' : World} {v : Value} {x : M d}, MsgAt d w v x → (∀ p u, w.cell? p = some u → w'.cell? p = some u) → MsgAt d w' v x
  | 0, _, _, _, _, h, _ => h.elim
  | d + 1, _, _, _, _, h, hk => by
    obtain ⟨vv, uv, h1, h2, h3⟩ := h
    exact ⟨vv, uv, h1, h2.keep hk fun v x hx => MsgAt.keep hx hk, h3.keep hk⟩
theorem MsgAt.below {d : Nat} {w w' : World} {v : Value} {x : M d} (h : MsgAt d w v x) (hb : Below w.heap.size w w') : MsgAt d w' v x := h.keep (below_keeps hb)
theorem VMsg.keep {d : Nat} {w w' : World} {v : Value} {x : Val (M d)} (h : ValAt (MsgAt d) w v x) (hk : ∀ p u, w.cell? p = some u → w'.cell? p = some u) : ValAt (MsgAt d) w' v x := ValAt.keep h hk fun _ _ hx => hx.keep hk
theorem VMsg.below {d : Nat} {w w' : World} {v : Value} {x : Val (M d)} (h : ValAt (MsgAt d) w v x) (hb : Below w.heap.size w w') : ValAt (MsgAt d) w' v x := VMsg.keep h (below_keeps hb)
theorem StrsAt.open {w : World} {v : Value} {l : List (List UInt8)} (h : StrsAt w v l) :
    l.length ≤ 140737488355328 ∧ ∃ a cap, v = .slice a l.length cap ∧ (a = none → cap = 0) ∧ ∀ k t, l[k]? = some t → t.length ≤ 140737488355328 ∧ ∃ b o, a = some ⟨b, o, none⟩ ∧ w.cell? ⟨b, o + k, none⟩ = some (strV t) := by
  obtain ⟨⟨_, h2, a, cap, hv, h3, h4, h5, h6⟩, hl⟩ := h
  refine ⟨h2, a, cap, hv, h5, fun k t hk => ⟨hl _ (List.mem_of_getElem? hk), h6 k _ ?_⟩⟩
  simp [hk]
theorem WordsAt.open {w : World} {v : Value} {l : List Nat} (h : WordsAt w v l) :
    l.length ≤ 140737488355328 ∧ ∃ a cap, v = .slice a l.length cap ∧ (a = none → cap = 0) ∧ ∀ k x, l[k]? = some x → x < 2 ^ 64 ∧ ∃ b o, a = some ⟨b, o, none⟩ ∧ w.cell? ⟨b, o + k, none⟩ = some (wordV x) := by
  obtain ⟨⟨_, h2, a, cap, hv, h3, h4, h5, h6⟩, hl⟩ := h
  refine ⟨h2, a, cap, hv, h5, fun k t hk => ⟨hl _ (List.mem_of_getElem? hk), h6 k _ ?_⟩⟩
  simp [hk]
theorem flatten_get {k : Nat} : ∀ (rows : List (List Value)) (i j : Nat) (r : List Value), (∀ r ∈ rows, r.length = k) → rows[i]? = some r → j < k → rows.flatten[i * k + j]? = r[j]?
  | [], _, _, _, _, h, _ => by simp at h
  | y :: l, 0, j, r, hk, h, hj => by
    simp at h
    subst h
    rw [List.flatten_cons, Nat.zero_mul, Nat.zero_add, List.getElem?_append_left (by rw [hk y (by simp)]; exact hj)]
  | y :: l, i + 1, j, r, hk, h, hj => by
    have := flatten_get l i j r (fun r hr => hk r (by simp [hr])) (by simpa using h) hj
    rw [List.flatten_cons, List.getElem?_append_right (by rw [hk y (by simp), Nat.succ_mul]; omega), hk y (by simp)]
    rw [show (i + 1) * k + j - k = i * k + j by rw [Nat.succ_mul]; omega]
    exact this
theorem RowsAt.open {α : Type} {P : World → List Value → α → Prop} {k : Nat} (hk0 : 0 < k) {w : World} {v : Value} {l : List α} (h : RowsAt P k w v l) :
    l.length ≤ 140737488355328 ∧ ∃ a cap, v = .slice a l.length cap ∧ (a = none → cap = 0) ∧ ∀ i x, l[i]? = some x → ∃ b o r, a = some ⟨b, o, none⟩ ∧ r.length = k ∧ (∀ j u, r[j]? = some u → w.cell? ⟨b, o + i * k + j, none⟩ = some u) ∧ P w r x := by
  obtain ⟨rows, hl, hk, ⟨_, h2, a, cap, hv, h3, h4, h5, h6⟩, hP⟩ := h
  refine ⟨h2, a, cap, hv, h5, fun i x hi => ?_⟩
  have hil : i < l.length := (List.getElem?_eq_some_iff.1 hi).1
  have hr : rows[i]? = some (rows[i]'(by omega)) := List.getElem?_eq_getElem (by omega)
  have hrk := hk _ (List.mem_of_getElem? hr)
  generalize rows[i]'(by omega) = r at hr hrk
  have hc := fun j (hj : j < k) => flatten_get rows i j r hk hr hj
  have h0 : r[0]? = some (r[0]'(by omega)) := List.getElem?_eq_getElem (by omega)
  obtain ⟨b, o, ha, g0⟩ := h6 _ _ ((hc 0 hk0).trans h0)
  refine ⟨b, o, r, ha, hrk, fun j u hu => ?_, hP i r x hr hi⟩
  have hj : j < k := by rw [← hrk]; exact (List.getElem?_eq_some_iff.1 hu).1
  obtain ⟨b', o', ha', hcell⟩ := h6 _ u ((hc j hj).trans hu)
  rw [ha] at ha'
  cases ha'
  rw [Nat.add_assoc]; exact hcell
theorem SubsAt.open {α : Type} {P : World → Value → α → Prop} {w : World} {v : Value} {l : List α} (h : SubsAt P w v l) :
    l.length ≤ 140737488355328 ∧ ∃ a cap, v = .slice a l.length cap ∧ (a = none → cap = 0) ∧ ∀ k x, l[k]? = some x → ∃ b o v1 v2, a = some ⟨b, o, none⟩ ∧ w.cell? ⟨b, o + k * 2, none⟩ = some v1 ∧ w.cell? ⟨b, o + k * 2 + 1, none⟩ = some v2 ∧ P w (.agg #[v1, v2]) x := by
  obtain ⟨h1, a, cap, h2, h3, h4⟩ := RowsAt.open (by decide) h
  refine ⟨h1, a, cap, h2, h3, fun k x hx => ?_⟩
  obtain ⟨b, o, r, ha, hr, hc, hP⟩ := h4 k x hx
  match r, hr with
  | [v1, v2], _ => exact ⟨b, o, v1, v2, ha, hc 0 _ rfl, hc 1 _ rfl, hP⟩
theorem ValsAt.open {α : Type} {P : World → Value → α → Prop} {w : World} {v : Value} {l : List (Val α)} (h : ValsAt P w v l) :
    l.length ≤ 140737488355328 ∧ ∃ a cap, v = .slice a l.length cap ∧ (a = none → cap = 0) ∧ ∀ k x, l[k]? = some x → ∃ b o v1 v2 v3, a = some ⟨b, o, none⟩ ∧
      w.cell? ⟨b, o + k * 4, none⟩ = some (.int .i64 x.num) ∧ w.cell? ⟨b, o + k * 4 + 1, none⟩ = some v1 ∧ w.cell? ⟨b, o + k * 4 + 2, none⟩ = some v2 ∧ w.cell? ⟨b, o + k * 4 + 3, none⟩ = some v3 ∧
      ValAt P w (.agg #[.int .i64 x.num, v1, v2, v3]) x := by
  obtain ⟨h1, a, cap, h2, h3, h4⟩ := RowsAt.open (by decide) h
  refine ⟨h1, a, cap, h2, h3, fun k x hx => ?_⟩
  obtain ⟨b, o, r, ha, hr, hc, hP⟩ := h4 k x hx
  match r, hr with
  | [v0, v1, v2, v3], _ =>
    have hP' := hP
    obtain ⟨wv, tv, sv, e, -⟩ := hP'
    cases e
    exact ⟨b, o, v1, v2, v3, ha, hc 0 _ rfl, hc 1 _ rfl, hc 2 _ rfl, hc 3 _ rfl, hP⟩
/-! The weight: how many things and bytes there are. -/
def twt (l : List (List UInt8)) : Nat := (l.map fun t => 1 + t.length).sum
def vwt {α : Type} (f : α → Nat) (v : Val α) : Nat := 1 + v.words.length + twt v.texts + (v.subs.map f).sum
def mwt : (d : Nat) → M d → Nat
  | 0, _ => 0
  | d + 1, x => 1 + twt (M.unk x) + ((M.vals x).map (vwt (mwt d))).sum
theorem sum_take {α : Type} (f : α → Nat) (l : List α) (k : Nat) (x : α) (h : l[k]? = some x) : ((l.take (k + 1)).map f).sum = ((l.take k).map f).sum + f x := by
  rw [List.take_add_one, h]
  simp
theorem sum_take_le {α : Type} (f : α → Nat) (l : List α) (k : Nat) : ((l.take k).map f).sum ≤ (l.map f).sum := by
  conv => rhs; rw [← List.take_append_drop k l]
  rw [List.map_append, List.sum_append]
  omega
theorem mem_sum_le {α : Type} (f : α → Nat) (l : List α) (x : α) (h : x ∈ l) : f x ≤ (l.map f).sum := by
  obtain ⟨k, hk⟩ := List.mem_iff_getElem?.1 h
  have h1 := sum_take f l k x hk
  have h2 := sum_take_le f l (k + 1)
  omega
end Go.Proofs.YtbdeclkccchnoaaGreat
namespace Go.Proofs.YtbdeclkccchnoaaGreat
open Go.RowKit
theorem vgo_vput (x : Nat) : ∀ (i acc : Nat), x * 128 ^ i < 2 ^ 64 → i ≤ 9 → vgo i acc (vput x) = (acc + x * 128 ^ i, i + (vput x).length, 0) := by
  induction x using Nat.strongRecOn with
  | ind x ih =>
    intro i acc h hi
    have e9 : (128 : Nat) ^ 9 = 2 ^ 63 := by decide
    by_cases hx : x < 128
    · rw [vput_small hx, vgo]
      have hc : (b8 x).toNat = x := by simp [b8]; omega
      rw [hc, if_neg, if_pos hx]
      · rfl
      · rintro ⟨rfl, h1⟩
        have : 2 * 128 ^ 9 ≤ x * 128 ^ 9 := Nat.mul_le_mul_right _ (by omega)
        omega
    · have hi' : i ≠ 9 := by
        rintro rfl
        have : 128 * 128 ^ 9 ≤ x * 128 ^ 9 := Nat.mul_le_mul_right _ (by omega)
        omega
      rw [vput_big hx, vgo]
      have hc : (b8 (128 + x % 128)).toNat = 128 + x % 128 := by simp [b8]; omega
      have hstep : x * 128 ^ i = (x % 128) * 128 ^ i + x / 128 * 128 ^ (i + 1) := by
        rw [Nat.pow_succ, Nat.mul_comm (128 ^ i) 128, ← Nat.mul_assoc, ← Nat.add_mul]
        congr 1
        omega
      rw [hc, if_neg (by omega), if_neg (by omega), ih (x / 128) (by omega) (i + 1) _ (by omega) (by omega)]
      refine Prod.ext ?_ (Prod.ext ?_ rfl)
      · show acc + (128 + x % 128 - 128) * 128 ^ i + x / 128 * 128 ^ (i + 1) = acc + x * 128 ^ i
        rw [hstep, Nat.add_sub_cancel_left]; omega
      · simp; omega
theorem vread_vput {x : Nat} (h : x < 2 ^ 64) : vread (vput x) = (x, (vput x).length, 0) := by
  have := vgo_vput x 0 0 (by simpa using h) (by omega)
  simpa [vread] using this
theorem vput_pos (x : Nat) : 1 ≤ (vput x).length := by
  by_cases h : x < 128
  · rw [vput_small h]; simp
  · rw [vput_big h]; simp
def little : Nat → Nat → List UInt8
  | 0, _ => []
  | n + 1, x => b8 (x % 256) :: little n (x / 256)
theorem little_len : ∀ (n x : Nat), (little n x).length = n
  | 0, _ => rfl
  | n + 1, x => by simp [little, little_len n]
theorem little_succ : ∀ (n x : Nat), little (n + 1) x = little n x ++ [b8 (x / 256 ^ n % 256)]
  | 0, x => by simp [little]
  | n + 1, x => by
    rw [little, little_succ n (x / 256), Nat.div_div_eq_div_mul, ← Nat.pow_succ']
    rfl
def kput (k : Int) (x : Nat) : List UInt8 := if 12 ≤ k then little 8 (kcanon k x) else if 9 ≤ k then little 4 (kcanon k x) else vput (kcanon k x)
def kpack (k : Int) (l : List Nat) : List UInt8 := l.flatMap (kput k)
theorem kput_le (k : Int) {x : Nat} (h : x < 2 ^ 64) : (kput k x).length ≤ 10 := by
  unfold kput
  split
  · rw [little_len]; omega
  · split
    · rw [little_len]; omega
    · exact vput_le (kcanon_lt k h)
theorem kpack_le (k : Int) : ∀ (l : List Nat), (∀ x ∈ l, x < 2 ^ 64) → (kpack k l).length ≤ 10 * l.length
  | [], _ => by simp [kpack]
  | x :: t, h => by
    have h1 := kput_le k (h x (by simp))
    have h2 := kpack_le k t (fun y hy => h y (by simp [hy]))
    unfold kpack at *
    rw [List.flatMap_cons, List.length_append, List.length_cons]
    omega
theorem kpack_take (k : Int) (l : List Nat) (i : Nat) (x : Nat) (h : l[i]? = some x) : kpack k (l.take (i + 1)) = kpack k (l.take i) ++ kput k x := by
  unfold kpack
  rw [List.take_add_one, h, List.flatMap_append]
  simp
def rfits (wire : Int) (l : List UInt8) : Bool := if wire = 0 then decide ((vread l).2.2 = 0 ∧ (vread l).2.1 = l.length) else if wire = 1 then decide (l.length = 8) else if wire = 5 then decide (l.length = 4) else decide (wire = 2)
def rput (n wire : Int) (l : List UInt8) : List UInt8 := vput (8 * n + wire).toNat ++ ((if wire = 2 then vput l.length else []) ++ l)
theorem kput_fits {k : Int} {x : Nat} (hk : knumber k = true) (h : x < 2 ^ 64) : rfits (kwire k) (kput k x) = true := by
  have hk' : 1 ≤ k ∧ k ≤ 14 := of_decide_eq_true hk
  unfold kwire kput
  rw [if_neg (by omega), if_neg (by omega)]
  by_cases h1 : 12 ≤ k
  · rw [if_pos h1, if_pos h1]
    simp [rfits, little_len]
  · rw [if_neg h1, if_neg h1]
    by_cases h2 : 9 ≤ k
    · rw [if_pos h2, if_pos h2]
      simp [rfits, little_len]
    · rw [if_neg h2, if_neg h2]
      simp [rfits, vread_vput (kcanon_lt k h)]
def fitsB {α : Type} (R : Int → α → Bool) (f : Fld) (x : Val α) : Bool :=
  if x.words.length + x.texts.length + x.subs.length = 0 ∨ 1 < x.words.length + x.texts.length + x.subs.length ∧ f.rep = false then false
  else if knumber f.kind = true then decide (x.texts.length = 0 ∧ x.subs.length = 0) && x.words.all fun w => decide (kcanon f.kind w = w)
  else if f.kind = 17 then decide (x.words.length = 0 ∧ x.texts.length = 0) && x.subs.all (R f.of)
  else if f.kind = 15 then decide (x.words.length = 0 ∧ x.subs.length = 0) && x.texts.all fun t => decide (ufirst t = t.length)
  else decide (f.kind = 16) && decide (x.words.length = 0 ∧ x.subs.length = 0)
def strangeB (fs : List Fld) (t : List UInt8) : Bool := decide ((rnext t 0).2 = 0 ∧ (rnext t 0).1.to = t.length) && decide (fieldAt fs (rnext t 0).1.number < 0)
def valsB {α : Type} (F : Fld → Val α → Bool) (fs : List Fld) : List (Val α) → Int → Bool
  | [], _ => true
  | x :: r, last => if fieldAt fs x.num < 0 ∨ x.num ≤ last ∨ F (fs.getD (fieldAt fs x.num).toNat .zero) x = false then false else valsB F fs r x.num
def rightB (s : List Mes) : (d : Nat) → Int → M d → Bool
  | 0, _, _ => false
  | d + 1, root, x => if root < 0 ∨ (s.length : Int) ≤ root then false else
      valsB (fitsB (rightB s d)) (s.getD root.toNat .zero).fields (M.vals x) 0 && (M.unk x).all (strangeB (s.getD root.toNat .zero).fields)
def encV {α : Type} (E : Int → α → List UInt8) (f : Fld) (x : Val α) : List UInt8 :=
  if knumber f.kind = true then (if f.rep = true then rput f.number 2 (kpack f.kind x.words) else rput f.number (kwire f.kind) (kput f.kind (x.words.getD 0 0)))
  else x.texts.flatMap (rput f.number 2) ++ x.subs.flatMap fun y => rput f.number 2 (E f.of y)
def encM (s : List Mes) : (d : Nat) → Int → M d → List UInt8
  | 0, _, _ => []
  | d + 1, root, x => (M.vals x).flatMap (fun v => encV (encM s d) ((s.getD root.toNat .zero).fields.getD (fieldAt (s.getD root.toNat .zero).fields v.num).toNat .zero) v) ++ (M.unk x).flatMap id
end Go.Proofs.YtbdeclkccchnoaaGreat
namespace Go.Proofs.YtbdeclkccchnoaaGreat
open Go.RowKit
theorem grown_set (w : World) (r j : Nat) (v : Value) : w.grownBy (w.setCell ⟨r, j, none⟩ v) (some r) :=
  have hb := (Below.refl 0 w).setCell (p := ⟨r, j, none⟩) (Nat.zero_le _) v
  ⟨hb.os, hb.tape, hb.output, hb.size, fun k _ hr => Below.heap_setCell w _ _ k (fun e => hr (by rw [e]))⟩
theorem view_Look_fails {w : World} {v vf : Value} {l : List UInt8} {fs : List Fld} (h : Bytes w v l) (hf : FieldsAt w vf fs) (nm : ByteArray) (i : Nat) (hi63 : i ≤ 9223372036854775807) (c : Nat) (e : vlook fs l i = (.none, 0, false, c)) :
    Calls Tryz.prog 65 #[.agg #[.string nm, vf], v, .int .i64 i] w fun e w' => e = .returned (.tuple #[viewV .none 0 false, .int .u8 c]) ∧ Below w.heap.size w w' := by
  have := view_Look h hf nm i hi63
  rw [e] at this
  exact this
theorem view_Look_tells {w : World} {v vf : Value} {l : List UInt8} {fs : List Fld} (h : Bytes w v l) (hf : FieldsAt w vf fs) (nm : ByteArray) (i : Nat) (hi63 : i ≤ 9223372036854775807) (r : Rec) (k : Int) (run : Bool) (e : vlook fs l i = (r, k, run, 0)) :
    Calls Tryz.prog 65 #[.agg #[.string nm, vf], v, .int .i64 i] w fun e w' => e = .returned (.tuple #[viewV r k run, .int .u8 0]) ∧ Below w.heap.size w w' := by
  have := view_Look h hf nm i hi63
  rw [e] at this
  exact this
set_option maxRecDepth 100000 in
set_option maxHeartbeats 4000000 in
theorem valid_message_step {w0 : World} {cb : Nat} {sv : Value} {s : List Mes} (hS : SchemaAt w0 sv s) (hs : sright s = true) (d : Nat) (hrec : d ≠ 0 → MsgC w0 cb sv s (d - 1)) : MsgC w0 cb sv s d := by
  rintro m depth fr zf zd zm w v l rfl rfl rfl hm hC hv hl hd
  obtain ⟨x, HX⟩ : ∃ x, Hid (x = vmsg s d m l) := ⟨_, rfl⟩
  rw [← HX.out]
  have HX0 : Hid (x = vfrom s d m l 0) := by rw [Hid, HX.out, vmsg_from]
  obtain ⟨dd, hblk⟩ := hC.blk
  have HBK := hid hblk
  have HC := hid hC
  have HS := hid hS
  have HV := hid hv
  obtain ⟨hslen, sa, scap, rfl, hat⟩ := hS.open
  obtain ⟨sb, so, fv, rfl, hnm, c0, c1, hfat⟩ := hat m hm
  clear hat hS
  obtain ⟨hvl, va, vcap, rfl, -, -, -, -⟩ := hv.open
  obtain ⟨ln, HL⟩ : ∃ ln, Hid (ln = l.length) := ⟨_, rfl⟩
  rw [← HL.out] at hl hvl HV ⊢
  obtain ⟨sn, HSN⟩ : ∃ sn, Hid (sn = s.length) := ⟨_, rfl⟩
  have HRE := hid hrec
  clear hrec
  rw [← HSN.out] at hslen HBK HS HRE ⊢
  have hmn : m < sn := by rw [HSN.out]; exact hm
  have HC0 := hid c0
  have HC1 := hid c1
  have HFT := hid hfat
  clear c0 c1 hfat hblk hC hv
  have k0 := HBK.out.cell 0 _ rfl
  have k1 := HBK.out.cell 1 _ rfl
  have kz := HBK.out.free
  have kl := HBK.out.lt
  go_enter Tryz.func64, Tryz.ntmps64
  go_upto_region 1 with fail
  go_cut [] (fun wx => Hid (Chk w0 cb (.slice (some ⟨sb, so, none⟩) sn scap) wx ∧ w.grownBy wx (some cb)))
  case first =>
    go_wp2
    all_goals
      go_meet
      case rel =>
        exact ⟨⟨HC.out.le, HC.out.below.setCell HC.out.le _, ⟨_, HBK.out.set 1 _⟩⟩, grown_set _ _ _ _⟩
  case rest =>
    have HCC := hcut
    clear k0 k1 kz kl hcut
    go_wp2
    go_loopw [14, 15] (fun v14 _ wr => ∃ i : Nat, i ≤ ln ∧ v14 = .int .i64 i ∧ Hid (Chk w0 cb (.slice (some ⟨sb, so, none⟩) sn scap) wr ∧ w.grownBy wr (some cb)) ∧ Hid (x = vfrom s d m l i)) (fun v14 _ _ => ln - (intOf v14).toNat)
    case atStart => exact ⟨0, by omega, rfl, HCC, HX0⟩
    case round =>
      obtain ⟨i, hi, rfl, HCR, HXI⟩ := hrel
      obtain ⟨dr, hbr⟩ := HCR.out.1.blk
      have hkr := below_keeps HCR.out.1.below
      have k0 := hbr.cell 0 _ rfl
      have c0 := hkr _ _ HC0.out
      have c1 := hkr _ _ HC1.out
      have kl := hbr.lt
      have HVR := hid (HV.out.keep hkr)
      have HFR := hid (HFT.out.keep hkr)
      clear hkr hbr
      obtain ⟨nm, HNM⟩ : ∃ nm, Hid (nm = (s.getD m .zero).name) := ⟨_, rfl⟩
      rw [← HNM.out] at c0
      by_cases hlt : i < ln
      · have hxi := HXI.out
        rw [vfrom_at, if_neg (by have := HL.out; omega)] at hxi
        rcases vlook_cases (s.getD m .zero).fields l i with ⟨c, hc, e, hc256⟩ | ⟨r, h1, h2, h3, h4, -, hcase⟩
        · rw [e, if_pos hc] at hxi
          obtain rfl : x = (i, c) := hxi
          have HE := hid e
          have ec : ((c : Int) != 0) = true := by simp; omega
          have HCNZ := hid hc
          have w1 : IntKind.i64.wrap ((fr : Int) + (i : Int)) = fr + i := IntWalk.i64_in _ (by omega)
          clear e hc
          go_wp2_with (go_at_call 65; refine (view_Look_fails HVR.out HFR.out nm i (by omega) c HE.out).mono ?_; rintro e w1 ⟨rfl, hb1⟩; unfold viewV Rec.none)
          go_ret2
          refine ⟨ret2 (int_eq (k := .i64) (a := (fr : Int) + i) ?_) rfl, (HCR.out.1.later hb1).later ((Below.refl _ _).alloc (Nat.le_refl _) _), grown_below (grown_below HCR.out.2 hb1) ((Below.refl _ _).alloc (Nat.le_refl _) _)⟩
          first | rfl | (rw [if_neg HCNZ.out]; simp)
        · rcases hcase with e | ⟨k, run, hk, e, hkn, hrun, hnr⟩
          · rw [e, if_neg (by simp)] at hxi
            have hv0 : vval (vrec s d) (decide (d = 0)) (s.getD m .zero).fields l (r, -1, false, 0) = (0, 0) := rfl
            rw [hv0, if_neg (by simp)] at hxi
            have HX1 := hid hxi
            have HE := hid e
            have HR4 := hid (show i < r.to ∧ r.to ≤ ln by rw [HL.out]; omega)
            clear e hxi h1 h2 h3 h4
            obtain ⟨r1, r2, r3, r4, r5⟩ := r
            go_wp2_with (go_at_call 65; refine (view_Look_tells HVR.out HFR.out nm i (by omega) _ _ _ HE.out).mono ?_; rintro e w1 ⟨rfl, hb1⟩; unfold viewV; have HC1' := hid ((HCR.out.1.later hb1).later ((Below.refl w1.heap.size w1).alloc (Nat.le_refl _) (.cells #[.int .i64 r1, .int .i64 r2, .int .i64 r3, .int .i64 r4, .int .i64 r5, .int .i64 (-1), .bool false] 93))); have HG1 := hid (grown_below (grown_below HCR.out.2 hb1) ((Below.refl w1.heap.size w1).alloc (Nat.le_refl _) (.cells #[.int .i64 r1, .int .i64 r2, .int .i64 r3, .int .i64 r4, .int .i64 r5, .int .i64 (-1), .bool false] 93))); have HNB := hid (Blk.new w1 [.int .i64 r1, .int .i64 r2, .int .i64 r3, .int .i64 r4, .int .i64 r5, .int .i64 (-1), .bool false] 93); have hcl : cb < w1.heap.size := (Nat.lt_of_lt_of_le kl hb1.size); clear hb1)
            refine (valid_value_unknown m depth fr ⟨r1, r2, r3, r4, r5⟩ HC1'.out _).mono ?_
            rintro e w3 ⟨⟨p, rfl, -⟩, hC3, hg3⟩
            have v4 := (HNB.out.grown hg3 (by omega)).cell 4 _ rfl
            have HC3 := hid (And.intro hC3 (grown_grown HG1.out hg3))
            clear hC3 hg3
            go_wp2
            go_roundw
            case rel => exact ⟨r5, HR4.out.2, rfl, HC3, HX1⟩
            case measure => have h9 := HR4.out; simp [intOf]; omega
          · rw [e, if_neg (by simp)] at hxi
            have HE := hid e
            have HR4 := hid (show r.start < r.at' ∧ r.at' ≤ r.to ∧ r.to ≤ l.length ∧ i < r.to ∧ r.to ≤ ln by rw [HL.out]; omega)
            have HXI2 := hid hxi
            have HRU := hid (fun h => (hrun h).2.1)
            have HK := hid hk
            clear e hxi h1 h2 h3 h4 hrun hnr hkn hk
            obtain ⟨r1, r2, r3, r4, r5⟩ := r
            obtain ⟨y, HY⟩ : ∃ y, Hid (y = vval (vrec s d) (decide (d = 0)) (s.getD m .zero).fields l (⟨r1, r2, r3, r4, r5⟩, (k : Int), run, 0)) := ⟨_, rfl⟩
            have hx2 := HXI2.out
            rw [← HY.out] at hx2
            have HX2 := hid hx2
            clear hx2 HXI2
            go_wp2_with (go_at_call 65; refine (view_Look_tells HVR.out HFR.out nm i (by omega) _ _ _ HE.out).mono ?_; rintro e w1 ⟨rfl, hb1⟩; unfold viewV; have HC1' := hid ((HCR.out.1.later hb1).later ((Below.refl w1.heap.size w1).alloc (Nat.le_refl _) (.cells #[.int .i64 r1, .int .i64 r2, .int .i64 r3, .int .i64 r4, .int .i64 r5, .int .i64 k, .bool run] 93))); have HG1 := hid (grown_below (grown_below HCR.out.2 hb1) ((Below.refl w1.heap.size w1).alloc (Nat.le_refl _) (.cells #[.int .i64 r1, .int .i64 r2, .int .i64 r3, .int .i64 r4, .int .i64 r5, .int .i64 k, .bool run] 93))); have HNB := hid (Blk.new w1 [.int .i64 r1, .int .i64 r2, .int .i64 r3, .int .i64 r4, .int .i64 r5, .int .i64 k, .bool run] 93); have hcl : cb < w1.heap.size := (Nat.lt_of_lt_of_le kl hb1.size); clear hb1)
            have hval := valid_value_known HS.out hs d m depth fr hm HV.out (by have := HL.out; omega) hd HRE.out ⟨r1, r2, r3, r4, r5⟩ HR4.out.1 HR4.out.2.1 HR4.out.2.2.1 k HK.out run HRU.out HC1'.out
            rw [← HY.out] at hval
            refine hval.mono ?_
            rintro e w3 ⟨⟨p, rfl, hp⟩, hC3, hg3⟩
            have v4 := (HNB.out.grown hg3 (by omega)).cell 4 _ rfl
            have HC3 := hid (And.intro hC3 (grown_grown HG1.out hg3))
            have HP := hid hp
            clear hC3 hg3 hp hval
            obtain ⟨y1, y2⟩ := y
            by_cases hy : y2 = 0
            · subst hy
              have HX3 : Hid (x = vfrom s d m l r5) := by rw [Hid, HX2.out, if_neg (by simp)]
              go_wp2
              go_roundw
              case rel => exact ⟨r5, HR4.out.2.2.2.2, rfl, HC3, HX3⟩
              case measure => have h9 := HR4.out; simp [intOf]; omega
            · obtain rfl : x = (y1, y2) := by rw [HX2.out, if_pos hy]
              have ey : ((y2 : Int) != 0) = true := by simp; omega
              have HYN := hid hy
              obtain rfl : p = fr + y1 := HP.out hy
              clear hy
              go_wp2
              go_ret2
              refine ⟨ret2 (int_eq (k := .i64) (a := ((fr + y1 : Nat) : Int)) ?_) rfl, HC3.out.1, HC3.out.2⟩
              first | rfl | (rw [if_neg HYN.out])
      · obtain rfl : i = ln := by omega
        obtain rfl : x = (0, 0) := by rw [HXI.out, vfrom_at, if_pos (by rw [HL.out]; exact Nat.le_refl _)]
        go_wp2
        go_ret2
        exact ⟨ret2 (int_eq (k := .i64) (a := 0) (by simp)) rfl, HCR.out.1, HCR.out.2⟩
theorem valid_message {w0 : World} {cb : Nat} {sv : Value} {s : List Mes} (hS : SchemaAt w0 sv s) (hs : sright s = true) : ∀ d, MsgC w0 cb sv s d
  | 0 => valid_message_step hS hs 0 (fun h => absurd rfl h)
  | d + 1 => valid_message_step hS hs (d + 1) (fun _ => valid_message hS hs d)
end Go.Proofs.YtbdeclkccchnoaaGreat
namespace Go.Proofs.YtbdeclkccchnoaaGreat
open Go.RowKit
def vcheck (s : List Mes) (root : Int) (l : List UInt8) (d : Int) : Nat × Nat :=
  if argsCode s root d ≠ 0 then (0, argsCode s root d) else (if (vmsg s d.toNat root.toNat l).2 = 0 then 0 else (vmsg s d.toNat root.toNat l).1, (vmsg s d.toNat root.toNat l).2)
theorem args_ok {s : List Mes} {root d : Int} (h : argsCode s root d = 0) : sright s = true ∧ 0 ≤ root ∧ root < s.length ∧ 0 ≤ d ∧ d ≤ 64 := by
  unfold argsCode at h
  by_cases h1 : sright s = false
  · rw [if_pos h1] at h; omega
  rw [if_neg h1] at h
  by_cases h2 : root < 0 ∨ (s.length : Int) ≤ root ∨ d < 0 ∨ 64 < d
  · rw [if_pos h2] at h; omega
  exact ⟨by simpa using h1, by omega, by omega, by omega, by omega⟩
theorem args_cases (s : List Mes) (root d : Int) : argsCode s root d = 0 ∨ argsCode s root d = 9 ∨ argsCode s root d = 2 := by
  unfold argsCode
  split
  · exact .inr (.inl rfl)
  · split
    · exact .inr (.inr rfl)
    · exact .inl rfl
set_option maxRecDepth 100000 in
set_option maxHeartbeats 4000000 in
theorem valid_check {w : World} {vs vb : Value} {s : List Mes} {l : List UInt8} (hS : SchemaAt w vs s) (hb : Bytes w vb l) (root d : Int) :
    Calls Tryz.prog 37 #[vs, .int .i64 root, vb, .int .i64 d] w fun e w' => (∃ n : Int, e = .returned (.tuple #[.int .i64 (vcheck s root l d).1, .int .i64 n, .int .u8 (vcheck s root l d).2])) ∧ Below w.heap.size w w' := by
  have HA := hid (valid_Args hS root d)
  rcases args_cases s root d with h | h | h
  · obtain ⟨g1, g2, g3, g4, g5⟩ := args_ok h
    obtain ⟨m, rfl⟩ : ∃ m : Nat, root = m := ⟨root.toNat, by omega⟩
    obtain ⟨k, rfl⟩ : ∃ k : Nat, d = k := ⟨d.toNat, by omega⟩
    obtain ⟨x, HX⟩ : ∃ x, Hid (x = vmsg s k m l) := ⟨_, rfl⟩
    have hx : vcheck s m l k = (if x.2 = 0 then 0 else x.1, x.2) := by
      unfold vcheck
      rw [if_neg (by rw [h]; decide), HX.out]; rfl
    obtain ⟨z, HZ⟩ : ∃ z : Nat, Hid (z = if x.2 = 0 then 0 else x.1) := ⟨_, rfl⟩
    rw [hx, ← HZ.out]
    rw [h] at HA
    clear hx h
    obtain ⟨hslen, sa, scap, rfl, -⟩ := hS.open
    obtain ⟨hbl, va, vcap, rfl, -, -, -, -⟩ := hb.open
    obtain ⟨ln, HL⟩ : ∃ ln, Hid (ln = l.length) := ⟨_, rfl⟩
    rw [← HL.out] at hbl hb ⊢
    obtain ⟨sn, HSN⟩ : ∃ sn, Hid (sn = s.length) := ⟨_, rfl⟩
    rw [← HSN.out] at hslen hS HA ⊢
    have HS := hid hS
    have HB := hid hb
    have H3 := hid g3
    clear g3 hS hb
    go_enter Tryz.func37, Tryz.ntmps37
    go_wp2_with (go_at_call 63; refine HA.out.mono ?_; rintro e w1 ⟨rfl, hb1⟩)
    have HC := hid (show Chk w w1.heap.size (.slice sa sn scap) (w1.alloc (.cells #[.slice sa sn scap, .int .i64 0] 130)) from ⟨hb1.size, hb1.alloc hb1.size _, ⟨0, Blk.new w1 [.slice sa sn scap, .int .i64 0] _⟩⟩)
    have hM := valid_message HS.out g1 k m 0 0 0 0 k _ _ l rfl rfl (by omega) (by have := H3.out; omega) HC.out HB.out (by rw [← HL.out]; omega) (by omega)
    rw [← HX.out] at hM
    refine hM.mono ?_
    rintro e w2 ⟨rfl, hC2, hg2⟩
    obtain ⟨dd, hbk⟩ := hC2.blk
    have b1 := hbk.cell 1 _ rfl
    have hle := hbk.lt
    have HW2 := hid hC2.below
    clear hbk hC2 hg2 hb1 hM
    simp only [Nat.zero_add]
    rw [← HZ.out]
    obtain ⟨x1, x2⟩ := x
    simp only
    go_wp2_with fail
    go_quiet (fail)
    go_wp2
    go_ret3
    exact ⟨⟨_, rfl⟩, below_drewN HW2.out _⟩
  all_goals
    have hx : vcheck s root l d = (0, argsCode s root d) := by
      unfold vcheck
      rw [if_pos (by rw [h]; decide)]
    rw [hx, h]
    rw [h] at HA
    clear hx
    go_enter Tryz.func37, Tryz.ntmps37
    go_wp2_with (go_at_call 63; refine HA.out.mono ?_; rintro e w1 ⟨rfl, hb1⟩)
    go_ret3
    exact ⟨⟨0, rfl⟩, hb1⟩
set_option maxRecDepth 100000 in
theorem valid_Check {w : World} {vs vb : Value} {s : List Mes} {l : List UInt8} (hS : SchemaAt w vs s) (hb : Bytes w vb l) (root d : Int) :
    Calls Tryz.prog 21 #[vs, .int .i64 root, vb, .int .i64 d] w fun e w' => e = .returned (.tuple #[.int .i64 (vcheck s root l d).1, .int .u8 (vcheck s root l d).2]) ∧ Below w.heap.size w w' := by
  go_enter Tryz.func21, Tryz.ntmps21
  go_wp2_with (go_at_call 37; refine (valid_check hS hb root d).mono ?_; rintro e w1 ⟨⟨n, rfl⟩, hb1⟩)
  go_ret2
  exact ⟨rfl, hb1⟩
end Go.Proofs.YtbdeclkccchnoaaGreat
namespace Go.Proofs.YtbdeclkccchnoaaGreat
open Go.RowKit
end Go.Proofs.YtbdeclkccchnoaaGreat
namespace Go.Proofs.YtbdeclkccchnoaaGreat
open Go.RowKit
end Go.Proofs.YtbdeclkccchnoaaGreat
