/- darninglaw28.StatsTop returns true. No condition. -/
import Derived.Test.YtphkmpnahnakaaaZ25
import Derived.Test.YtphkmpnahnakaaaZ29
import Derived.Test.YtphkmpnahnakaaaZ30
import Derived.Test.YtphkmpnahnakaaaZ31
import Derived.Test.YtphkmpnahnakaaaZ32
import Derived.BigQuiet
import Derived.StillTailTactics
import Derived.Deep.RegionHeld3
import Derived.Laws.MakeOwn
namespace Go.Proofs.Ytphkmpnahnakaaa
open Go.RowKit Go.Shelf Go.Sort
theorem size_srowT (w : World) : (sizeOf 32).run Try.prog w = .ok 4 w := by kernel_rfl
theorem totR_bound {L : List SR} {B : Nat} (h : ∀ x ∈ L, x.recs ≤ B ∧ x.bytes ≤ B ∧ x.vals ≤ B) : (totR L).recs ≤ L.length * B ∧ (totR L).bytes ≤ L.length * B ∧ (totR L).vals ≤ L.length * B := by
  have hf : ∀ x ∈ L.filter topR, x.recs ≤ B ∧ x.bytes ≤ B ∧ x.vals ≤ B := fun x hx => h x (List.mem_filter.1 hx).1
  have hl : (L.filter topR).length ≤ L.length := List.length_filter_le _ _
  have hm := Nat.mul_le_mul_right B hl
  refine ⟨?_, ?_, ?_⟩
  · have := sum_le_mul ((L.filter topR).map SR.recs) B fun y hy => by obtain ⟨x, hx, rfl⟩ := List.mem_map.1 hy; exact (hf x hx).1
    rw [List.length_map] at this
    exact Nat.le_trans this hm
  · have := sum_le_mul ((L.filter topR).map SR.bytes) B fun y hy => by obtain ⟨x, hx, rfl⟩ := List.mem_map.1 hy; exact (hf x hx).2.1
    rw [List.length_map] at this
    exact Nat.le_trans this hm
  · have := sum_le_mul ((L.filter topR).map SR.vals) B fun y hy => by obtain ⟨x, hx, rfl⟩ := List.mem_map.1 hy; exact (hf x hx).2.2
    rw [List.length_map] at this
    exact Nat.le_trans this hm
theorem made_bools (n : Nat) : madeCells (Value.bool false).cells (n * 1) = ((List.replicate n false).map Value.bool).toArray := by
  rw [Nat.mul_one]
  apply Array.ext
  · simp [madeCells]
  · intro i h1 h2
    simp [madeCells, Value.cells, Nat.mod_one]
theorem repl_bools (n : Nat) : ((List.replicate n false).map Value.bool).toArray = Array.replicate n (Value.bool false) := by simp
theorem info_boolm : (Try.prog.info? 4).map (fun i => (i.zero, i.size, i.bytes)) = some (some (.bool false), 1, 1) := by kernel_rfl
theorem info_bool : ∃ i, Try.prog.info? 4 = some i ∧ i.zero = some (.bool false) ∧ i.size = 1 ∧ i.bytes = 1 := by
  have h := info_boolm
  cases hi : Try.prog.info? 4 with
  | none => rw [hi] at h; cases h
  | some i =>
    rw [hi] at h
    simp only [Option.map_some, Option.some.injEq, Prod.mk.injEq] at h
    exact ⟨i, rfl, h.1, h.2.1, h.2.2⟩
theorem make_bools (n : Nat) (hn : n ≤ 1048576) (w : World) : (Instr.makeSlice 41 (.int .i64 (n : Int)) (.int .i64 (n : Int))).run Try.prog w = .ok (.slice (some ⟨w.heap.size, 0, none⟩) n n) (w.alloc (.cells (Array.replicate n (Value.bool false)) 4)) := by
  obtain ⟨i, h1, h2, h3, h4⟩ := info_bool
  have hr := run_make (P := Try.prog) w 41 4 i (.bool false) Try.underlying41 h1 h2 .i64 .i64 (n : Int) (n : Int) (by omega) (by omega) (by rw [h4]; omega) (by omega)
  rw [Int.toNat_natCast, h3, made_bools, repl_bools] at hr
  exact hr
theorem size_bool1 (w : World) : (sizeOf 4).run Try.prog w = .ok 1 w := by kernel_rfl
def takenL (Z : List TR) (n i : Nat) : List Bool := (List.range n).map (tkOf Z i)
theorem takenL_get (Z : List TR) (n i k : Nat) (hk : k < n) : ((takenL Z n i).map Value.bool)[k]? = some (.bool (tkOf Z i k)) := by
  unfold takenL
  rw [List.map_map, List.getElem?_map, List.getElem?_range hk]
  rfl
theorem takenL_set {Z : List TR} {n i : Nat} {x : TR} (h : Z[i]? = some x) : ((takenL Z n i).map Value.bool).set x.tag (.bool true) = (takenL Z n (i + 1)).map Value.bool := by
  apply List.ext_getElem?
  intro k
  by_cases hk : k < n
  · rw [takenL_get Z n (i + 1) k hk, tkOf_succ h]
    by_cases hkx : x.tag = k
    · subst hkx
      rw [List.getElem?_set_self (by simp [takenL]; exact hk)]
      simp
    · rw [List.getElem?_set_ne hkx, takenL_get Z n i k hk]
      simp [hkx]
  · rw [List.getElem?_eq_none (by simp [takenL]; omega), List.getElem?_eq_none (by simp [takenL]; omega)]
theorem takenL_zero (Z : List TR) (n : Nat) : takenL Z n 0 = List.replicate n false := by
  unfold takenL tkOf
  apply List.ext_getElem
  · simp
  · intro i h1 h2; simp
set_option maxRecDepth 100000 in
set_option maxHeartbeats 16000000 in
theorem law28_StatsTop {w : World} {vl : Value} {LI : List RI} (hL : RowsI w vl LI) (n : Int) :
    Calls Try.prog 5 #[vl, .int .i64 n] w fun e w' => e = .returned (.bool true) ∧ Below w.heap.size w w' := by
  have HL := hid hL
  obtain ⟨la, lc, rfl, -⟩ := hL.open
  have hlb := hL.1.2.1
  obtain ⟨ln, HLN⟩ : ∃ n, Hid (n = LI.length) := ⟨_, rfl⟩
  rw [← HLN.out] at HL hlb ⊢
  obtain ⟨R, HR⟩ : ∃ R : Ending → World → Prop, Hid (R = fun e w' => e = .returned (.bool true) ∧ Below w.heap.size w w') := ⟨_, rfl⟩
  rw [← HR.out]
  have HTRUE : Hid (∀ w', Below w.heap.size w w' → R (.returned (.bool true)) w') := fun w' hb => by rw [HR.out]; exact ⟨rfl, hb⟩
  clear hL HR
  go_enter Try.func5, Try.ntmps5
  go_wp2_with fail
  refine (law28_alive _).mono ?_
  rintro e w1 ⟨rfl, hb1⟩
  have HB1 := hid hb1
  clear hb1
  by_cases hlong : (60 : Int) < ln
  · go_wp2_with fail
    exact HTRUE.out _ HB1.out
  · have hln : ln ≤ 60 := by omega
    obtain ⟨PB, HPB⟩ : ∃ b, Hid (b = w1.heap.size) := ⟨_, rfl⟩
    obtain ⟨W5, HW5⟩ : ∃ W, Hid (W = w1.alloc (.cells #[.string ⟨#[]⟩, .int .i64 0, .int .i64 0, .int .i64 0] 32)) := ⟨_, rfl⟩
    have hb5 : Below w1.heap.size w1 W5 := by rw [HW5.out]; exact (Below.refl _ _).alloc (Nat.le_refl _) _
    have hk5 : Blk W5 PB [.string ⟨#[]⟩, .int .i64 0, .int .i64 0, .int .i64 0] 32 := by rw [HW5.out, HPB.out]; exact Blk.new w1 [.string ⟨#[]⟩, .int .i64 0, .int .i64 0, .int .i64 0] _
    have HB15 := hid hb5
    have HB5 := hid (HB1.out.trans (hb5.mono HB1.out.size))
    have HK5 := hid hk5
    have HPL : Hid (w.heap.size ≤ PB) := by rw [Hid, HPB.out]; exact HB1.out.size
    clear hb5 hk5
    go_upto_region 6 with fail
    rw [← HW5.out, ← HPB.out]
    go_wp2_with fail
    go_loopw [6] (fun v6 wr => ∃ i : Nat, v6 = .int .i64 (i : Int) ∧ i ≤ ln ∧ Hid ((∀ (j : Nat) x, j < i → LI[j]? = some x → goodR x) ∧ Blk wr PB (srC (totR ((LI.map convR).take i))) 32 ∧ Below PB W5 wr)) (fun v6 _ => ln - (intOf v6).toNat)
    case atStart => exact ⟨0, rfl, by omega, hid ⟨fun j x h => by omega, HK5.out, Below.refl _ _⟩⟩
    case round =>
      obtain ⟨i, rfl, hi, HJ⟩ := hrel
      have hbw : Below w.heap.size w wr := HB5.out.trans (HJ.out.2.2.mono HPL.out)
      by_cases hlt : i < ln
      · obtain ⟨x, hx⟩ : ∃ r, LI[i]? = some r := ⟨_, List.getElem?_eq_getElem (by rw [← HLN.out]; exact hlt)⟩
        have hLw := HL.out.below hbw
        rw [HLN.out] at hLw
        obtain ⟨a', cap', he, hat⟩ := hLw.open
        obtain ⟨hae, -, hce⟩ := Value.slice.inj he
        subst hae
        subst hce
        obtain ⟨lb, lo, rfl, l0, l1, l2, l3⟩ := hat i x hx
        have hix := index_run Try.underlying27 size_srowT (rfl : some (⟨lb, lo, none⟩ : Addr) = some ⟨lb, lo, none⟩) i hlt (cap := lc)
        have hll := World.block_lt_of_cell? wr _ l0
        have HT := hid (HTRUE.out wr hbw)
        have HX := hid hx
        have HBW := hid hbw
        obtain ⟨x0, HX0⟩ : ∃ y, Hid (y = x) := ⟨_, rfl⟩
        rw [← HX0.out] at HX
        obtain ⟨p, r1, r2, r3⟩ := x
        simp only at l0 l1 l2 l3
        clear hx hLw he hat hbw
        by_cases c1 : 1000 < p.size
        · have d1 : decide ((1000 : Int) < (p.size : Int)) = true := decide_eq_true (by omega)
          have d1' : decide (1000 < p.size) = true := decide_eq_true c1
          clear c1
          go_wp2_with fail
          exact HT.out
        have d1 : decide ((1000 : Int) < (p.size : Int)) = false := decide_eq_false (by omega)
        have d1' : decide (1000 < p.size) = false := decide_eq_false c1
        have C1 := hid c1
        clear c1
        by_cases c2 : 1073741824 < r1
        · have d2 : decide (1073741824 < r1) = true := decide_eq_true c2
          clear c2
          go_wp2_with fail
          exact HT.out
        have d2 : decide (1073741824 < r1) = false := decide_eq_false c2
        have C2 := hid c2
        clear c2
        by_cases c3 : 1073741824 < r2
        · have d3 : decide (1073741824 < r2) = true := decide_eq_true c3
          clear c3
          go_wp2_with fail
          exact HT.out
        have d3 : decide (1073741824 < r2) = false := decide_eq_false c3
        have C3 := hid c3
        clear c3
        by_cases c4 : 1073741824 < r3
        · have d4 : decide (1073741824 < r3) = true := decide_eq_true c4
          clear c4
          go_wp2_with fail
          exact HT.out
        have d4 : decide (1073741824 < r3) = false := decide_eq_false c4
        have C4 := hid c4
        clear c4
        by_cases c5 : r1 < 0
        · have d5 : decide (r1 < 0) = true := decide_eq_true c5
          clear c5
          go_wp2_with fail
          exact HT.out
        have d5 : decide (r1 < 0) = false := decide_eq_false c5
        have C5 := hid c5
        clear c5
        by_cases c6 : r2 < 0
        · have d6 : decide (r2 < 0) = true := decide_eq_true c6
          clear c6
          go_wp2_with fail
          exact HT.out
        have d6 : decide (r2 < 0) = false := decide_eq_false c6
        have C6 := hid c6
        clear c6
        by_cases c7 : r3 < 0
        · have d7 : decide (r3 < 0) = true := decide_eq_true c7
          clear c7
          go_wp2_with fail
          exact HT.out
        have d7 : decide (r3 < 0) = false := decide_eq_false c7
        have C7 := hid c7
        clear c7
        have HGX : Hid (goodR x0 ∧ convR x0 = ⟨p, r1.toNat, r2.toNat, r3.toNat⟩) := by
          have h1 := C1.out
          have h2 := C2.out
          have h3 := C3.out
          have h4 := C4.out
          have h5 := C5.out
          have h6 := C6.out
          have h7 := C7.out
          rw [Hid, HX0.out]
          exact ⟨⟨by show p.size ≤ 1000; omega, by show r1 ≤ _; omega, by show r2 ≤ _; omega, by show r3 ≤ _; omega, by show 0 ≤ r1; omega, by show 0 ≤ r2; omega, by show 0 ≤ r3; omega⟩, rfl⟩
        have HSTP : Hid (totR ((LI.map convR).take (i + 1)) = if topR ⟨p, r1.toNat, r2.toNat, r3.toNat⟩ = true then ⟨emptyS, (totR ((LI.map convR).take i)).recs + r1.toNat, (totR ((LI.map convR).take i)).bytes + r2.toNat, (totR ((LI.map convR).take i)).vals + r3.toNat⟩ else totR ((LI.map convR).take i)) := by
          have h : (LI.map convR)[i]? = some ⟨p, r1.toNat, r2.toNat, r3.toNat⟩ := by rw [List.getElem?_map, HX.out, Option.map_some, HGX.out.2]
          exact totR_step h
        have HGO : Hid (∀ (j : Nat) y, j < i + 1 → LI[j]? = some y → goodR y) := fun j y hj hy => by
          by_cases hji : j = i
          · subst hji
            rw [HX.out] at hy
            injection hy with hy
            subst hy
            exact HGX.out.1
          · exact HJ.out.1 j y (by omega) hy
        have hsm : (totR ((LI.map convR).take i)).recs ≤ 64424509440 ∧ (totR ((LI.map convR).take i)).bytes ≤ 64424509440 ∧ (totR ((LI.map convR).take i)).vals ≤ 64424509440 := by
          have h := totR_bound (L := (LI.map convR).take i) (B := 1073741824) fun y hy => by
            obtain ⟨j, hj⟩ := List.mem_iff_getElem?.1 hy
            have hji : j < i := by have := (List.getElem?_eq_some_iff.1 hj).1; rw [List.length_take] at this; omega
            rw [List.getElem?_take_of_lt hji, List.getElem?_map] at hj
            obtain ⟨z, hz, rfl⟩ := Option.map_eq_some_iff.1 hj
            obtain ⟨-, g2, g3, g4, g5, g6, g7⟩ := HJ.out.1 j z hji hz
            unfold convR
            simp only
            omega
          have hl : ((LI.map convR).take i).length ≤ 60 := by rw [List.length_take]; omega
          have hm := Nat.mul_le_mul_right 1073741824 hl
          omega
        obtain ⟨S1, HS1⟩ : ∃ n, Hid (n = (totR ((LI.map convR).take i)).recs) := ⟨_, rfl⟩
        obtain ⟨S2, HS2⟩ : ∃ n, Hid (n = (totR ((LI.map convR).take i)).bytes) := ⟨_, rfl⟩
        obtain ⟨S3, HS3⟩ : ∃ n, Hid (n = (totR ((LI.map convR).take i)).vals) := ⟨_, rfl⟩
        have hB : Blk wr PB [.string ⟨#[]⟩, .int .i64 (S1 : Int), .int .i64 (S2 : Int), .int .i64 (S3 : Int)] 32 := by
          rw [HS1.out, HS2.out, HS3.out]
          exact HJ.out.2.1
        rw [← HS1.out, ← HS2.out, ← HS3.out] at hsm
        have HBB := hid hB
        have HBL := hid HJ.out.2.2
        clear hB HT
        by_cases hp : p.size = 0
        · have e1 : p.toList.isEmpty = true := by
            have : p = ⟨#[]⟩ := by cases p; simp [ByteArray.size] at hp; rw [hp]
            rw [this, ByteArray.toList_eq]; rfl
          have htp : topR ⟨p, r1.toNat, r2.toNat, r3.toNat⟩ = false := by
            have : p = emptyS := by cases p; simp [ByteArray.size] at hp; rw [hp]; rfl
            unfold topR
            rw [this]; simp
          have hT := HSTP.out
          rw [htp, if_neg (by decide)] at hT
          have HT := hid hT
          clear hT htp hp
          go_wp2_with fail
          go_roundw
          case rel => exact ⟨i + 1, by go_num, hlt, hid ⟨HGO.out, by rw [HT.out]; exact HJ.out.2.1, HJ.out.2.2⟩⟩
          case measure => simp [intOf]; omega
        · have e1 : p.toList.isEmpty = false := toList_ne hp
          obtain ⟨db, HDB⟩ : ∃ b, Hid (b = dotB p) := ⟨_, rfl⟩
          have HTP : Hid (topR ⟨p, r1.toNat, r2.toNat, r3.toNat⟩ = !db) := by
            have : ¬ p = emptyS := fun h => hp (by rw [h]; rfl)
            rw [Hid, HDB.out]
            unfold topR
            simp [this]
          have HCN := hid (ref28_Point p wr (by have := C1.out; omega))
          rw [← HDB.out] at HCN
          clear hp
          go_wp2_with fail
          refine HCN.out.mono ?_
          rintro e w5 ⟨rfl, rfl⟩
          clear HCN
          cases db with
          | true =>
            have hT := HSTP.out
            rw [HTP.out, if_neg (by decide)] at hT
            have HT := hid hT
            clear hT
            go_wp2_with fail
            go_roundw
            case rel => exact ⟨i + 1, by go_num, hlt, hid ⟨HGO.out, by rw [HT.out]; exact HJ.out.2.1, HJ.out.2.2⟩⟩
            case measure => simp [intOf]; omega
          | false =>
            have hT := HSTP.out
            rw [HTP.out, if_pos (by decide), ← HS1.out, ← HS2.out, ← HS3.out] at hT
            have HT := hid hT
            have k0 := HBB.out.cell 0 _ rfl
            have k1 := HBB.out.cell 1 _ rfl
            have k2 := HBB.out.cell 2 _ rfl
            have k3 := HBB.out.cell 3 _ rfl
            have kl := HBB.out.lt
            have y0 := HBB.out.free 0
            have y1 := HBB.out.free 1
            have y2 := HBB.out.free 2
            have y3 := HBB.out.free 3
            have hr : (0 ≤ r1 ∧ 0 ≤ r2 ∧ 0 ≤ r3) ∧ r1 ≤ 1073741824 ∧ r2 ≤ 1073741824 ∧ r3 ≤ 1073741824 := by
              have h2 := C2.out
              have h3 := C3.out
              have h4 := C4.out
              have h5 := C5.out
              have h6 := C6.out
              have h7 := C7.out
              omega
            have HRR := hid hr
            have HNEW := hid ((((HBB.out.set 0 (.string ⟨#[]⟩)).set 1 (.int .i64 ((S1 : Int) + r1))).set 2 (.int .i64 ((S2 : Int) + r2))).set 3 (.int .i64 ((S3 : Int) + r3)))
            have hw1 : IntKind.i64.wrap ((S1 : Int) + r1) = (S1 : Int) + r1 := IntWalk.i64_in _ (by omega)
            have hw2 : IntKind.i64.wrap ((S2 : Int) + r2) = (S2 : Int) + r2 := IntWalk.i64_in _ (by omega)
            have hw3 : IntKind.i64.wrap ((S3 : Int) + r3) = (S3 : Int) + r3 := IntWalk.i64_in _ (by omega)
            clear hT hr hsm d2 d3 d4 d5 d6 d7 d1 d1' e1
            go_upto_region 12 with fail
            go_still_tail 25, (by kernel_rfl)
            change wpList _ _ _ _ _ w5.drew
            go_wp2_with fail
            clear k0 k1 k2 k3 kl y0 y1 y2 y3 hw1 hw2 hw3 hix hll l0 l1 l2 l3
            go_roundw
            case rel =>
              refine ⟨i + 1, by go_num, hlt, hid ⟨HGO.out, ?_, ?_⟩⟩
              · rw [HT.out]
                have h := HNEW.out
                have h2 := HRR.out
                have e : srC ⟨emptyS, S1 + r1.toNat, S2 + r2.toNat, S3 + r3.toNat⟩ = [.string ⟨#[]⟩, .int .i64 ((S1 : Int) + r1), .int .i64 ((S2 : Int) + r2), .int .i64 ((S3 : Int) + r3)] := by
                  unfold srC
                  simp only
                  rw [Int.natCast_add, Int.natCast_add, Int.natCast_add, Int.toNat_of_nonneg h2.1.1, Int.toNat_of_nonneg h2.1.2.1, Int.toNat_of_nonneg h2.1.2.2]
                  rfl
                rw [e]
                exact h
              · (repeat (first | with_reducible exact Below.refl _ _ | with_reducible refine Below.setCell ?_ (by first | omega | (simp; omega) | (simp; done)) _ | with_reducible refine Below.alloc ?_ (by first | omega | (simp; omega) | (simp; done)) _ | with_reducible refine below_drewN ?_ _ | with_reducible refine Below.drew ?_))
                exact HBL.out
            case measure => simp [intOf]; omega
      · obtain rfl : i = ln := by omega
        have hgood : ∀ x ∈ LI, goodR x := fun x hx => by
          obtain ⟨j, hj⟩ := List.mem_iff_getElem?.1 hx
          exact HJ.out.1 j x (by rw [HLN.out]; exact (List.getElem?_eq_some_iff.1 hj).1) hj
        obtain ⟨L, HLL⟩ : ∃ L, Hid (L = LI.map convR) := ⟨_, rfl⟩
        have hlL : i = L.length := by rw [HLL.out, List.length_map]; exact HLN.out
        have hSI := (HL.out.below hbw).seg hgood
        rw [← HLL.out] at hSI
        have HSL := hid hSI
        have hB := HJ.out.2.1
        rw [← HLL.out, List.take_of_length_le (by rw [← hlL]; exact Nat.le_refl _)] at hB
        have hbd := totR_bound (L := L) (B := 1073741824) fun y hy => by
          rw [HLL.out] at hy
          obtain ⟨z, hz, rfl⟩ := List.mem_map.1 hy
          obtain ⟨-, g2, g3, g4, g5, g6, g7⟩ := hgood z hz
          unfold convR
          simp only
          omega
        have hm := Nat.mul_le_mul_right 1073741824 (show L.length ≤ 60 by omega)
        obtain ⟨S1, HS1⟩ : ∃ n, Hid (n = (totR L).recs) := ⟨_, rfl⟩
        obtain ⟨S2, HS2⟩ : ∃ n, Hid (n = (totR L).bytes) := ⟨_, rfl⟩
        obtain ⟨S3, HS3⟩ : ∃ n, Hid (n = (totR L).vals) := ⟨_, rfl⟩
        have HTOT := hid (fun (W : World) (hW : Below wr.heap.size wr W) => stats_Total (hSI.below hW) (by omega) ⟨by omega, by omega, by omega⟩)
        rw [← HS1.out, ← HS2.out, ← HS3.out] at HTOT
        have hB2 : Blk wr PB [.string ⟨#[]⟩, .int .i64 (S1 : Int), .int .i64 (S2 : Int), .int .i64 (S3 : Int)] 32 := by
          rw [HS1.out, HS2.out, HS3.out]
          exact hB
        have HBB := hid hB2
        have HTOP := hid (stats_Top hSI hlL (by omega) n)
        have HBW := hid hbw
        have HLE := hid hlL
        obtain ⟨WZ, rfl⟩ : ∃ W, W = wr := ⟨_, rfl⟩
        clear hgood hlL hSI hB hbd hm hB2 hbw hlt hi
        go_wp2_with fail
        refine HTOP.out.mono ?_
        rintro e w7 ⟨ta, tk, tc, Z, rfl, htk, hZp, hZs, hS7, hb7⟩
        have HZ := hid (And.intro hZp hZs)
        have HTK := hid htk
        have hZl : Z.length = i := by rw [hZp.length_eq, tagL_len]; exact HLE.out.symm
        have htki : tk ≤ i := by omega
        have HS7 := hid hS7
        have HB7 := hid hb7
        obtain ⟨TB, HTB⟩ : ∃ b, Hid (b = w7.heap.size) := ⟨_, rfl⟩
        obtain ⟨W8, HW8⟩ : ∃ W, Hid (W = w7.alloc (.cells (Array.replicate i (Value.bool false)) 4)) := ⟨_, rfl⟩
        have hk8 : Blk W8 TB ((takenL Z i 0).map Value.bool) 4 := by rw [HW8.out, HTB.out, takenL_zero, ← repl_bools]; exact Blk.new w7 ((List.replicate i false).map Value.bool) _
        have hb8 : Below w7.heap.size w7 W8 := by rw [HW8.out]; exact (Below.refl _ _).alloc (Nat.le_refl _) _
        have HK8 := hid hk8
        have HB8 := hid hb8
        have HZL := hid hZl
        have hmk := make_bools i (by omega)
        clear htk hZp hZs hZl hS7 hb7 hk8 hb8 HTOP
        go_upto_region 15 with fail
        rw [← HW8.out, ← HTB.out]
        clear hmk
        have HBA8 : Hid (∀ W, Below TB W8 W → Below WZ.heap.size WZ W ∧ Below w7.heap.size w7 W) := fun W hW => by
          rw [HTB.out] at hW
          have h1 : Below w7.heap.size w7 W := HB8.out.trans hW
          exact ⟨HB7.out.trans (h1.mono HB7.out.size), h1⟩
        go_wp2_with fail
        go_loopw [9] (fun v9 wr => ∃ k : Nat, v9 = .int .i64 (k : Int) ∧ k ≤ tk ∧ Hid (Blk wr TB ((takenL Z i k).map Value.bool) 4 ∧ Below TB W8 wr)) (fun v9 _ => tk - (intOf v9).toNat)
        case atStart => exact ⟨0, rfl, by omega, hid ⟨HK8.out, Below.refl _ _⟩⟩
        case round =>
          obtain ⟨k, rfl, hk, HI⟩ := hrel
          by_cases hlk : k < tk
          · obtain ⟨x, hx⟩ : ∃ x, Z[k]? = some x := ⟨_, List.getElem?_eq_getElem (by rw [HZL.out]; omega)⟩
            have hsel := sel_best HZ.out.1 HZ.out.2 hx
            rw [← HLE.out] at hsel
            have HSEL := hid hsel
            have HX := hid hx
            obtain ⟨WO, rfl⟩ : ∃ W, W = wr := ⟨_, rfl⟩
            clear hsel hx
            go_wp2_with fail
            go_loopw [10, 11] (fun v10 v11 wq => ∃ j : Nat, v10 = .int .i64 (bst L (tkOf Z k) j) ∧ v11 = .int .i64 (j : Int) ∧ j ≤ i ∧ Hid (Below WO.heap.size WO wq)) (fun _ v11 _ => i - (intOf v11).toNat)
            case atStart => exact ⟨0, rfl, rfl, by omega, hid (Below.refl _ _)⟩
            case round =>
              obtain ⟨j, rfl, rfl, hj, HQ⟩ := hrel
              have hqo : RowKit.Below TB W8 wr := HI.out.2.trans (HQ.out.mono (Nat.le_of_lt HI.out.1.lt))
              have hkq : Blk wr TB ((takenL Z i k).map Value.bool) 4 := HI.out.1.below HQ.out
              have hLS := HSL.out.below (HBA8.out wr hqo).1
              rw [HLE.out] at hLS
              obtain ⟨a', cap', he, hat⟩ := hLS.open
              obtain ⟨hae, -, hce⟩ := Value.slice.inj he
              subst hae
              subst hce
              obtain ⟨b0, HB0⟩ : ∃ b, Hid (b = bst L (tkOf Z k) j) := ⟨_, rfl⟩
              have hbl0 := bst_lt L (tkOf Z k) j
              rw [← HB0.out] at hbl0 ⊢
              have HQO := hid hqo
              by_cases hlj : j < i
              · have hcell := hkq.cell j _ (takenL_get Z i k j hlj)
                have htl := hkq.lt
                obtain ⟨tj, HTJ⟩ : ∃ b, Hid (b = tkOf Z k j) := ⟨_, rfl⟩
                rw [← HTJ.out] at hcell
                have hixb := index_run1 Try.underlying41 size_bool1 (rfl : some (⟨TB, 0, none⟩ : Addr) = some ⟨TB, 0, none⟩) j hlj (cap := i)
                simp only [Nat.zero_add] at hixb
                obtain ⟨y, hy⟩ : ∃ y, L[j]? = some y := ⟨_, List.getElem?_eq_getElem (by rw [← HLE.out]; exact hlj)⟩
                obtain ⟨lb, lo, rfl, -, -, l2, -⟩ := hat j y hy
                have HSTP : Hid (bst L (tkOf Z k) (j + 1) = if tj = false ∧ (b0 < 0 ∨ (L.getD b0.toNat zTR.row).bytes < y.bytes) then (j : Int) else b0) := by
                  have h : L.getD j zTR.row = y := by rw [List.getD_eq_getElem?_getD, hy]; rfl
                  rw [Hid, bst, ← HB0.out, ← HTJ.out, h]
                have hix := index_run Try.underlying27 size_srowT (rfl : some (⟨lb, lo, none⟩ : Addr) = some ⟨lb, lo, none⟩) j hlj (cap := lc)
                have hll := World.block_lt_of_cell? wr _ l2
                obtain ⟨yb, HYB⟩ : ∃ n, Hid (n = y.bytes) := ⟨_, rfl⟩
                rw [← HYB.out] at l2 HSTP
                have HEND : Hid (∀ n, Below WO.heap.size WO (wr.drewN n)) := fun n => HQ.out.trans ((below_drewN (RowKit.Below.refl wr.heap.size wr) n).mono HQ.out.size)
                clear hqo hkq hLS he hy HQ
                cases tj with
                | true =>
                  have HE : Hid (bst L (tkOf Z k) (j + 1) = b0) := by rw [Hid, HSTP.out, if_neg (fun h => by cases h.1)]
                  clear hat l2 hix hll hbl0
                  go_upto_region 22 with fail
                  go_quiet (fail)
                  clear hcell hixb htl
                  go_wp2_with fail
                  go_roundw
                  case rel => exact ⟨j + 1, by rw [HE.out], by go_num, hlj, hid (HEND.out _)⟩
                  case measure => simp [intOf]; omega
                | false =>
                  by_cases hneg : b0 < 0
                  · have HE : Hid (bst L (tkOf Z k) (j + 1) = (j : Int)) := by rw [Hid, HSTP.out, if_pos ⟨rfl, .inl hneg⟩]
                    have dn : decide (b0 < 0) = true := decide_eq_true hneg
                    clear hat l2 hix hll hbl0 hneg
                    go_upto_region 22 with fail
                    go_quiet (fail)
                    clear hcell hixb htl dn
                    go_wp2_with fail
                    go_roundw
                    case rel => exact ⟨j + 1, by rw [HE.out], by go_num, hlj, hid (HEND.out _)⟩
                    case measure => simp [intOf]; omega
                  · obtain ⟨b, rfl⟩ : ∃ b : Nat, b0 = b := ⟨b0.toNat, by omega⟩
                    have hbi : b < i := by omega
                    obtain ⟨z, hz⟩ : ∃ z, L[b]? = some z := ⟨_, List.getElem?_eq_getElem (by rw [← HLE.out]; exact hbi)⟩
                    obtain ⟨lb', lo', hlb, -, -, m2, -⟩ := hat b z hz
                    cases hlb
                    have hzg : L.getD b zTR.row = z := by rw [List.getD_eq_getElem?_getD, hz]; rfl
                    obtain ⟨zb, HZB⟩ : ∃ n, Hid (n = z.bytes) := ⟨_, rfl⟩
                    have hst := HSTP.out
                    rw [Int.toNat_natCast, hzg, ← HZB.out] at hst
                    rw [← HZB.out] at m2
                    have HST := hid hst
                    have hix2 := index_run Try.underlying27 size_srowT (rfl : some (⟨lb, lo, none⟩ : Addr) = some ⟨lb, lo, none⟩) b hbi (cap := lc)
                    have dn : decide ((b : Int) < 0) = false := decide_eq_false (by omega)
                    clear hat hz hzg hst hneg hbl0 HSTP HB0
                    by_cases hgt : zb < yb
                    · have HE : Hid (bst L (tkOf Z k) (j + 1) = (j : Int)) := by rw [Hid, HST.out, if_pos ⟨rfl, .inr hgt⟩]
                      have dg : decide (zb < yb) = true := decide_eq_true hgt
                      clear hgt
                      go_upto_region 22 with fail
                      go_quiet (fail)
                      clear hcell hixb htl dn dg l2 m2 hix hix2 hll
                      go_wp2_with fail
                      go_roundw
                      case rel => exact ⟨j + 1, by rw [HE.out], by go_num, hlj, hid (HEND.out _)⟩
                      case measure => simp [intOf]; omega
                    · have HE : Hid (bst L (tkOf Z k) (j + 1) = (b : Int)) := by
                        rw [Hid, HST.out, if_neg]
                        rintro ⟨-, h | h⟩
                        · omega
                        · exact hgt h
                      have dg : decide (zb < yb) = false := decide_eq_false hgt
                      clear hgt
                      go_upto_region 22 with fail
                      go_quiet (fail)
                      clear hcell hixb htl dn dg l2 m2 hix hix2 hll
                      go_wp2_with fail
                      go_roundw
                      case rel => exact ⟨j + 1, by rw [HE.out], by go_num, hlj, hid (HEND.out _)⟩
                      case measure => simp [intOf]; omega
              · obtain rfl : j = i := by omega
                have hbs := HSEL.out
                rw [← HB0.out] at hbs
                obtain ⟨tg, HTG⟩ : ∃ n, Hid (n = x.tag) := ⟨_, rfl⟩
                rw [← HTG.out] at hbs
                obtain ⟨hb0, htgl, htgx⟩ := hbs
                subst hb0
                obtain ⟨lb, lo, rfl, l0, l1, l2, l3⟩ := hat tg x.row htgx
                have hS7w := HS7.out.below (HBA8.out wr hqo).2
                obtain ⟨ta', tc', he7, hat7⟩ := hS7w.open
                obtain ⟨ha7, hn7, hc7⟩ := Value.slice.inj he7
                have hxk : ((Z.map TR.row).take tk)[k]? = some x.row := by
                  rw [List.getElem?_take_of_lt hlk, List.getElem?_map, HX.out]; rfl
                obtain ⟨tb, tof7, ht7, m0, m1, m2, m3⟩ := hat7 k x.row hxk
                rw [← ha7] at ht7
                subst ht7
                have hix := index_run Try.underlying27 size_srowT (rfl : some (⟨lb, lo, none⟩ : Addr) = some ⟨lb, lo, none⟩) tg htgl (cap := lc)
                have hix2 := index_run Try.underlying27 size_srowT (rfl : some (⟨tb, tof7, none⟩ : Addr) = some ⟨tb, tof7, none⟩) k hlk (cap := tc)
                have hll := World.block_lt_of_cell? wr _ l2
                have hll2 := World.block_lt_of_cell? wr _ m2
                have hneq := row_neq x.path (x.recs : Int) (x.bytes : Int) (x.vals : Int)
                have dn : decide ((tg : Int) < 0) = false := decide_eq_false (by omega)
                have HKQ := hid hkq
                clear hat hS7w he7 hat7 ha7 hn7 hc7 hxk htgx hbl0 hkq hLS he hlj hqo
                go_upto_region 24 with fail
                go_quiet (fail)
                obtain ⟨WQ, HWQ⟩ : ∃ W, Hid (W = wr.drewN nq) := ⟨_, rfl⟩
                rw [← HWQ.out]
                have hbQ : RowKit.Below wr.heap.size wr WQ := by rw [HWQ.out]; exact below_drewN (RowKit.Below.refl _ _) _
                have hKQ := HKQ.out.below hbQ
                have hcell := hKQ.cell tg _ (takenL_get Z j k tg htgl)
                have hfr := hKQ.free tg
                have htl := hKQ.lt
                have hset := hKQ.set tg (.bool true)
                rw [HTG.out, takenL_set HX.out, ← HTG.out] at hset
                have HSET := hid hset
                have HBQ := hid (HQO.out.trans (hbQ.mono (Nat.le_of_lt HKQ.out.lt)))
                have hixb := index_run1 Try.underlying41 size_bool1 (rfl : some (⟨TB, 0, none⟩ : Addr) = some ⟨TB, 0, none⟩) tg htgl (cap := j)
                simp only [Nat.zero_add] at hixb
                clear l0 l1 l2 l3 m0 m1 m2 m3 hix hix2 hll hll2 hneq dn hbQ hKQ hset
                go_wp2_with fail
                clear hcell hfr htl hixb
                go_roundw
                case rel => exact ⟨k + 1, by go_num, hlk, hid ⟨HSET.out, by (repeat (first | with_reducible exact Below.refl _ _ | with_reducible refine Below.setCell ?_ (by first | omega | (simp; omega) | (simp; done)) _ | with_reducible refine Below.alloc ?_ (by first | omega | (simp; omega) | (simp; done)) _ | with_reducible refine below_drewN ?_ _ | with_reducible refine Below.drew ?_)); exact HBQ.out⟩⟩
                case measure => simp [intOf]; omega
          · obtain rfl : k = tk := by omega
            have hbz := (HBA8.out wr HI.out.2).1
            have hBw := HBB.out.below hbz
            have k0 := hBw.cell 0 _ rfl
            have k1 := hBw.cell 1 _ rfl
            have k2 := hBw.cell 2 _ rfl
            have k3 := hBw.cell 3 _ rfl
            have kl := hBw.lt
            have q0 : wr.drew.cell? ⟨PB, 0, none⟩ = some (.string ⟨#[]⟩) ∧ wr.drew.cell? ⟨PB, 1, none⟩ = some (.int .i64 (S1 : Int)) ∧ wr.drew.cell? ⟨PB, 2, none⟩ = some (.int .i64 (S2 : Int)) ∧ wr.drew.cell? ⟨PB, 3, none⟩ = some (.int .i64 (S3 : Int)) := ⟨k0, k1, k2, k3⟩
            have HTO := hid (HTOT.out wr.drew hbz.drew)
            have heql := row_eql ⟨#[]⟩ (S1 : Int) (S2 : Int) (S3 : Int)
            have hkk : ((k : Int) == max 0 (min n (i : Int))) = true := by rw [HTK.out]; simp
            have HBF := hid (HBW.out.trans (hbz.mono HBW.out.size))
            clear hBw hbz hlk hk
            go_upto_region 27 with fail
            go_region_held3 (fun w' => w'.cell? ⟨PB, 0, none⟩ = some (.string ⟨#[]⟩) ∧ w'.cell? ⟨PB, 1, none⟩ = some (.int .i64 (S1 : Int)) ∧ w'.cell? ⟨PB, 2, none⟩ = some (.int .i64 (S2 : Int)) ∧ w'.cell? ⟨PB, 3, none⟩ = some (.int .i64 (S3 : Int))) (first | (with_reducible exact q0) | (with_reducible exact q1) | go_keep) (first | (go_at_call 9; (with_reducible refine HTO.out.mono ?_); rintro e u1 ⟨rfl, hd⟩; have HK1 := hid hd; have q1 := And.intro (below_keeps hd _ _ q0.1) (And.intro (below_keeps hd _ _ q0.2.1) (And.intro (below_keeps hd _ _ q0.2.2.1) (below_keeps hd _ _ q0.2.2.2))); clear hd))
            all_goals
              go_wp2_with fail
              exact HTRUE.out _ (HBF.out.drew.trans (HK1.out.mono HBF.out.drew.size))
end Go.Proofs.Ytphkmpnahnakaaa
