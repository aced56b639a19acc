/- What the document's functions on code points return on any bytes: uput, unext, ufirst. No condition beyond that the argument reads as bytes and the place is no more than their number. What the document's First and Right of texts return on any bytes: ufirst. No condition beyond that the argument reads as bytes. What the checker's value and message return: vval, vfrom. The schema is right; bytes and places within reach. What the checker's message returns, by induction on the depth that is left; valid.check, valid.Check. What valid.Check returns: vcheck. Bytes of at most 2 to the 47. What darningref09.Ends returns as its code: runCount's. Bytes of at most 2 to the 40 (the slice of the ends must fit). What darningref11.First returns: vfrom; darningref11.Check. Bytes of at most 2 to the 40 (darningref09.Ends appends). varint.Put and darningref02.Put: vput. The frames of a stream: plain law; the iterator frames.frames$1, whose rounds are these frames. darninglaw07.Few returns a bool, whatever the schema. Slices of slices of bytes: read (BytesL), and of the call's own (Rows). -/
import Derived.Test.YtaefpjecalnbcaaGreatZ01
import Derived.Test.YtaefpjecalnbcaaGreatZ05
import Derived.Test.YtaefpjecalnbcaaGreatZ06
import Derived.Test.YtaefpjecalnbcaaGreatZ07
import Derived.Test.YtaefpjecalnbcaaGreatZ08
import Derived.Test.YtaefpjecalnbcaaGreatZ10
import Derived.Deep.RegionWith
import Derived.BigRegion
import Derived.StillTailTactics
import Derived.Deep.RegionHeld3
import Derived.IntWalk
import Derived.Laws.AppendOwn
import Derived.OwnWalk
import Derived.Maps.AppendAt
namespace Go.Proofs.YtaefpjecalnbcaaGreat
open Go.RowKit
theorem b8_toNat (n : Nat) (h : n < 256) : (b8 n).toNat = n := by simp [b8]; omega
theorem bytes3 (w : World) (T : TypeId) (x y z : Int) (a b c : Nat) (hx : x = a) (hy : y = b) (hz : z = c) (ha : a < 256) (hb : b < 256) (hc : c < 256) :
    Bytes (w.alloc (.cells #[.int .u8 x, .int .u8 y, .int .u8 z] T)) (.slice (some ⟨w.heap.size, 0, none⟩) 3 3) [b8 a, b8 b, b8 c] :=
  bytes_new w T _ [b8 a, b8 b, b8 c] (by simp [byteV, b8_toNat a ha, b8_toNat b hb, b8_toNat c hc, hx, hy, hz]) (by simp)
theorem bytes4 (w : World) (T : TypeId) (x y z u : Int) (a b c d : Nat) (hx : x = a) (hy : y = b) (hz : z = c) (hu : u = d) (ha : a < 256) (hb : b < 256) (hc : c < 256) (hd : d < 256) :
    Bytes (w.alloc (.cells #[.int .u8 x, .int .u8 y, .int .u8 z, .int .u8 u] T)) (.slice (some ⟨w.heap.size, 0, none⟩) 4 4) [b8 a, b8 b, b8 c, b8 d] :=
  bytes_new w T _ [b8 a, b8 b, b8 c, b8 d] (by simp [byteV, b8_toNat a ha, b8_toNat b hb, b8_toNat c hc, b8_toNat d hd, hx, hy, hz, hu]) (by simp)
set_option maxRecDepth 100000 in
theorem ref04_Put (r : Nat) (hr : r ≤ 2097151) (w : World) :
    Calls Tryz.prog 157 #[.int .i64 r] w fun e w' => ∃ v, Bytes w' v (uput r) ∧ Below w.heap.size w w' ∧ e = .returned v := by
  by_cases h1 : 1114111 < r
  · have HU : Hid (uput r = []) := by simp [Hid, uput, h1]
    go_enter Tryz.func157, Tryz.ntmps157
    go_wp2
    go_ret
    exact ⟨_, by rw [HU.out]; exact bytes_nil _, Below.refl _ _, rfl⟩
  · by_cases h2 : 55296 ≤ r ∧ r ≤ 57343
    · have HU : Hid (uput r = []) := by simp [Hid, uput, h1, h2]
      obtain ⟨h2, h3⟩ := h2
      go_enter Tryz.func157, Tryz.ntmps157
      go_wp2
      go_ret
      exact ⟨_, by rw [HU.out]; exact bytes_nil _, Below.refl _ _, rfl⟩
    · have HU : Hid (uput r = if r < 128 then [b8 r] else if r < 2048 then [b8 (192 + r / 64), b8 (128 + r % 64)] else if r < 65536 then [b8 (224 + r / 4096), b8 (128 + r / 64 % 64), b8 (128 + r % 64)] else
          [b8 (240 + r / 262144), b8 (128 + r / 4096 % 64), b8 (128 + r / 64 % 64), b8 (128 + r % 64)]) := by simp only [Hid, uput]; rw [if_neg (by omega)]
      have h3 : r ≤ 55295 ∨ 57344 ≤ r := by omega
      clear h2
      by_cases h128 : r < 128
      · clear h3
        go_enter Tryz.func157, Tryz.ntmps157
        go_wp2
        go_ret
        rw [HU.out, if_pos h128]
        exact ⟨_, bytes_new _ _ _ _ (by simp [byteV, b8_toNat r (by omega)]) (by simp), by (repeat (first | with_reducible exact Below.refl _ _ | with_reducible refine Below.setCell ?_ (by first | omega | (simp; omega) | (simp; done)) _ | with_reducible refine Below.alloc ?_ (by first | omega | (simp; omega) | (simp; done)) _ | with_reducible refine below_drewN ?_ _ | with_reducible refine Below.drew ?_)), rfl⟩
      · by_cases h2048 : r < 2048
        · clear h3
          go_enter Tryz.func157, Tryz.ntmps157
          go_wp2
          go_ret
          rw [HU.out, if_neg h128, if_pos h2048]
          exact ⟨_, bytes_new _ _ _ _ (by simp [byteV, b8_toNat (192 + r / 64) (by omega), b8_toNat (128 + r % 64) (by omega)]) (by simp), by (repeat (first | with_reducible exact Below.refl _ _ | with_reducible refine Below.setCell ?_ (by first | omega | (simp; omega) | (simp; done)) _ | with_reducible refine Below.alloc ?_ (by first | omega | (simp; omega) | (simp; done)) _ | with_reducible refine below_drewN ?_ _ | with_reducible refine Below.drew ?_)), rfl⟩
        · by_cases h65536 : r < 65536
          · rcases h3 with h3 | h3
            · have d0 : decide ((r : Int) < 0) = false := by simp <;> omega
              have d1 : decide ((1114111 : Int) < (r : Int)) = false := by simp; omega
              have d2 : decide ((r : Int) < 128) = false := by simp; omega
              have d3 : decide ((r : Int) < 2048) = false := by simp; omega
              have d4 : decide ((55296 : Int) ≤ (r : Int)) = false := by simp; omega
              have d5 : decide ((r : Int) < 65536) = true := by simp; omega
              have hb : r ≤ 65535 := by omega
              have A := hid h1
              have B := hid h128
              have C := hid h2048
              have D := hid h3
              have E := hid h65536
              clear h1 h128 h2048 h3 h65536 hr
              go_enter Tryz.func157, Tryz.ntmps157
              go_wp2
              go_ret
              rw [HU.out, if_neg B.out, if_neg C.out, if_pos E.out]
              exact ⟨_, bytes3 _ _ _ _ _ _ _ _ (by omega) (by omega) (by omega) (by omega) (by omega) (by omega), by (repeat (first | with_reducible exact Below.refl _ _ | with_reducible refine Below.setCell ?_ (by first | omega | (simp; omega) | (simp; done)) _ | with_reducible refine Below.alloc ?_ (by first | omega | (simp; omega) | (simp; done)) _ | with_reducible refine below_drewN ?_ _ | with_reducible refine Below.drew ?_)), rfl⟩
            · have d0 : decide ((r : Int) < 0) = false := by simp <;> omega
              have d1 : decide ((1114111 : Int) < (r : Int)) = false := by simp; omega
              have d2 : decide ((r : Int) < 128) = false := by simp; omega
              have d3 : decide ((r : Int) < 2048) = false := by simp; omega
              have d4 : decide ((55296 : Int) ≤ (r : Int)) = true := by simp; omega
              have d5 : decide ((r : Int) ≤ 57343) = false := by simp; omega
              have d6 : decide ((r : Int) < 65536) = true := by simp; omega
              have hb : r ≤ 65535 := by omega
              have A := hid h1
              have B := hid h128
              have C := hid h2048
              have D := hid h3
              have E := hid h65536
              clear h1 h128 h2048 h3 h65536 hr
              go_enter Tryz.func157, Tryz.ntmps157
              go_wp2
              go_ret
              rw [HU.out, if_neg B.out, if_neg C.out, if_pos E.out]
              exact ⟨_, bytes3 _ _ _ _ _ _ _ _ (by omega) (by omega) (by omega) (by omega) (by omega) (by omega), by (repeat (first | with_reducible exact Below.refl _ _ | with_reducible refine Below.setCell ?_ (by first | omega | (simp; omega) | (simp; done)) _ | with_reducible refine Below.alloc ?_ (by first | omega | (simp; omega) | (simp; done)) _ | with_reducible refine below_drewN ?_ _ | with_reducible refine Below.drew ?_)), rfl⟩
          · have d0 : decide ((r : Int) < 0) = false := by simp <;> omega
            have d1 : decide ((1114111 : Int) < (r : Int)) = false := by simp; omega
            have d2 : decide ((r : Int) < 128) = false := by simp; omega
            have d3 : decide ((r : Int) < 2048) = false := by simp; omega
            have d4 : decide ((55296 : Int) ≤ (r : Int)) = true := by simp; omega
            have d5 : decide ((r : Int) ≤ 57343) = false := by simp; omega
            have d6 : decide ((r : Int) < 65536) = false := by simp; omega
            have hb : r ≤ 1114111 := by omega
            have A := hid h1
            have B := hid h128
            have C := hid h2048
            have D := hid h3
            have E := hid h65536
            clear h1 h128 h2048 h3 h65536 hr
            go_enter Tryz.func157, Tryz.ntmps157
            go_wp2
            go_ret
            rw [HU.out, if_neg B.out, if_neg C.out, if_neg E.out]
            exact ⟨_, bytes4 _ _ _ _ _ _ _ _ _ _ (by omega) (by omega) (by omega) (by omega) (by omega) (by omega) (by omega) (by omega), by (repeat (first | with_reducible exact Below.refl _ _ | with_reducible refine Below.setCell ?_ (by first | omega | (simp; omega) | (simp; done)) _ | with_reducible refine Below.alloc ?_ (by first | omega | (simp; omega) | (simp; done)) _ | with_reducible refine below_drewN ?_ _ | with_reducible refine Below.drew ?_)), rfl⟩
/-- what ufold comes to while the loop runs -/
theorem ufold_step (L : List UInt8) (k i x : Nat) (hi : i < k) (hk : k ≤ L.length) : ufold x ((L.take k).drop i) = ufold (64 * x + (L.getD i 0).toNat % 64) ((L.take k).drop (i + 1)) := by
  have hl : i < (L.take k).length := by rw [List.length_take]; omega
  rw [List.drop_eq_getElem_cons hl, ufold]
  simp [List.getD, show i < L.length by omega]
theorem ufold_end (L : List UInt8) (k x : Nat) : ufold x ((L.take k).drop k) = x := by
  rw [List.drop_of_length_le (by rw [List.length_take]; omega)]; rfl
theorem getD_drop0 (l : List UInt8) (i : Nat) : (l.drop i).getD 0 0 = l.getD i 0 := by simp [List.getD, List.getElem?_drop]
theorem unext_none (L : List UInt8) (k : Nat) (_hk : k ≤ 5) (h : ∀ j, 1 ≤ j → j < k → unext L ≠ j) (he : k = 5 ∨ L.length < k) : unext L = 0 := by
  have := unext_le L
  by_cases e : unext L = 0
  · exact e
  · exact absurd rfl (h (unext L) (by omega) (by omega))
set_option maxRecDepth 100000 in
set_option maxHeartbeats 4000000 in
theorem ref04_Next {w : World} {v : Value} {l : List UInt8} (h : Bytes w v l) (i : Nat) (hi : i ≤ l.length) :
    Calls Tryz.prog 150 #[v, .int .i64 i] w fun e w' => e = .returned (.int .i64 (unext (l.drop i))) ∧ Below w.heap.size w w' := by
  obtain ⟨hlen, a, cap, rfl, -, -, -, hcell⟩ := h.open
  obtain ⟨n, HN⟩ : ∃ n, Hid (n = l.length) := ⟨_, rfl⟩
  rw [← HN.out] at hcell hlen hi h ⊢
  have HCELL := hid hcell
  clear hcell
  go_enter Tryz.func150, Tryz.ntmps150
  go_wp2
  go_loopw [5] (fun v5 wr => ∃ k : Nat, 1 ≤ k ∧ k ≤ 5 ∧ v5 = .int .i64 k ∧ Below w.heap.size w wr ∧ Hid (∀ j, 1 ≤ j → j < k → unext (l.drop i) ≠ j)) (fun v5 _ => 5 - (intOf v5).toNat)
  case atStart => exact ⟨1, by omega, by omega, rfl, Below.refl _ _, fun j h1 h2 => absurd h1 (by omega)⟩
  case round =>
    obtain ⟨k, hk1, hk2, rfl, hbel, HK⟩ := hrel
    by_cases h5 : k = 5 ∨ n < i + k
    · have hu : Hid (unext (l.drop i) = 0) := unext_none _ k hk2 HK.out (by rw [List.length_drop, ← HN.out]; omega)
      rcases h5 with h5 | h5
      · subst h5
        go_wp2
        go_ret
        rw [hu.out]
        exact ⟨rfl, hbel⟩
      · by_cases h4 : k ≤ 4
        all_goals
          go_wp2
          go_ret
          rw [hu.out]
          exact ⟨rfl, hbel⟩
    · have hk4 : k ≤ 4 := by omega
      have hik : i + k ≤ n := by omega
      clear h5
      have hcl := HCELL.out
      obtain ⟨b, o, ha, hc0⟩ := hcl i (by omega)
      clear hcl
      have hix := index_run1 under_bytes size_u8 ha i (len := n) (by omega) (cap := cap)
      obtain ⟨c, HC⟩ : ∃ c, Hid (c = (l.getD i 0).toNat) := ⟨_, rfl⟩
      have hcb : c < 256 := by rw [HC.out]; exact (l.getD i 0).toNat_lt
      rw [← HC.out] at hc0
      have hc1 := hbel.cell (p := ⟨b, o + i, none⟩) (World.block_lt_of_cell? w _ hc0)
      rw [hc0] at hc1
      have HAA := hid ha
      clear ha hc0
      rcases (show k = 1 ∨ k = 2 ∨ k = 3 ∨ k = 4 by omega) with rfl | rfl | rfl | rfl
      · have HU0 : Hid (uval 1 (l.drop i) = ufold (c) (((l.drop i).take 1).drop 1)) := by simp only [Hid, uval, umod]; rw [getD_drop0, ← HC.out]; rfl
        have hle : 1 ≤ (l.drop i).length := by rw [List.length_drop, ← HN.out]; omega
        obtain ⟨a', cap', hsl, -, hb'⟩ := h.cut HN.out i (i + 1) (by omega) (by omega)
        have hsl2 : ∀ W, (Instr.slice 99 (.slice a n cap) (some (.int .i64 (i : Int))) (some (.int .i64 ((i : Int) + 1))) none).run Tryz.prog W = .ok (.slice a' 1 cap') W := fun W => by have := hsl W; simpa using this
        rw [show i + 1 - i = 1 by omega] at hb'
        clear hsl
        have hb2 : Bytes wr (.slice a' 1 cap') ((l.drop i).take 1) := hb'.below hbel
        rw [show ((1 : Nat) : Int) = (1 : Int) from rfl]
        have HLE := hid hle
        clear hle
        go_wp2
        go_loop [6, 7] (fun v6 v7 => ∃ j x : Nat, 1 ≤ j ∧ j ≤ 1 ∧ x < 256 * 64 ^ (j - 1) ∧ v6 = .int .i64 x ∧ v7 = .int .i64 j ∧ Hid (ufold x (((l.drop i).take 1).drop j) = uval 1 (l.drop i))) (fun _ v7 => 1 - (intOf v7).toNat)
        case atStart => exact ⟨1, c, by omega, by omega, by simp; omega, by first | rfl | go_num, rfl, HU0.out.symm⟩
        case round =>
          obtain ⟨j, x, hj1, hj2, hx, rfl, rfl, HX⟩ := hrel
          have hx2 : x < 256 * 64 ^ 0 := Nat.lt_of_lt_of_le hx (Nat.mul_le_mul_left _ (Nat.pow_le_pow_right (by omega) (by omega)))
          simp only [Nat.reducePow, Nat.reduceMul] at hx2
          have HXX := hid hx
          clear hx
          by_cases hlt : j < 1
          · omega
          · obtain rfl : j = 1 := by omega
            obtain rfl : x = uval 1 (l.drop i) := by rw [← HX.out, ufold_end]
            have HP := hid (uput_take (l.drop i) 1 (by omega) (by omega) HLE.out)
            have Hx2 : uval 1 (l.drop i) ≤ 2097151 := by omega
            obtain ⟨x, HXE⟩ : ∃ x, Hid (x = uval 1 (l.drop i)) := ⟨_, rfl⟩
            rw [← HXE.out] at hx2 Hx2 ⊢
            clear HX HXX hlt
            go_wp2
            have hbw : Below w.heap.size w wr := hbel
            have hb3 : Bytes wr.drew (.slice a' 1 cap') ((l.drop i).take 1) := Seg.keep hb2 fun _ _ hu => hu
            have hcv1 := hb3.str
            have hw : IntKind.i64.wrap ((i : Int) + 1) = (i : Int) + 1 := IntWalk.i64_in _ (by omega)
            have hbf : ∀ w1, Below (wr.drew).heap.size (wr.drew) w1 → Below w.heap.size w w1 := fun w1 hb1 => below_step (Below.drew hbw) hb1 hbw.size
            have HBF := hid hbf
            clear hbf
            by_cases hun : unext (l.drop i) = 1
            · have heq : (uput x == List.take 1 (List.drop i l)) = true := by rw [HXE.out]; exact beq_iff_eq.2 (HP.out.2 hun)
              have HUN := hid hun
              clear hun
              go_region_with (go_at_call 157; refine (ref04_Put x Hx2 _).mono ?_; rintro e w1 ⟨v1, hv1, hbel1, rfl⟩; have hcv2 := (hb3.below hbel1).str; have hcv3 := hv1.str)
              all_goals
                go_wp2
                go_ret
                rw [HUN.out]
                have hbf := HBF.out
                exact ⟨rfl, hbf _ hbel1⟩
            · have heq : (uput x == List.take 1 (List.drop i l)) = false := by rw [HXE.out]; exact beq_eq_false_iff_ne.2 fun e => hun (HP.out.1 e)
              have HUN := hid hun
              clear hun
              go_region_with (go_at_call 157; refine (ref04_Put x Hx2 _).mono ?_; rintro e w1 ⟨v1, hv1, hbel1, rfl⟩; have hcv2 := (hb3.below hbel1).str; have hcv3 := hv1.str)
              all_goals
                go_wp2
                go_roundw
                case rel =>
                  have hbf := HBF.out
                  refine ⟨2, by omega, by omega, by first | rfl | go_num, hbf _ hbel1, fun j h1 h2 => ?_⟩
                  by_cases e : j = 1
                  · subst e; exact HUN.out
                  · exact HK.out j h1 (by omega)
                case measure => simp [intOf]
      · have HU0 : Hid (uval 2 (l.drop i) = ufold (c % 32) (((l.drop i).take 2).drop 1)) := by simp only [Hid, uval, umod]; rw [getD_drop0, ← HC.out]; rfl
        have hle : 2 ≤ (l.drop i).length := by rw [List.length_drop, ← HN.out]; omega
        obtain ⟨a', cap', hsl, -, hb'⟩ := h.cut HN.out i (i + 2) (by omega) (by omega)
        have hsl2 : ∀ W, (Instr.slice 99 (.slice a n cap) (some (.int .i64 (i : Int))) (some (.int .i64 ((i : Int) + 2))) none).run Tryz.prog W = .ok (.slice a' 2 cap') W := fun W => by have := hsl W; simpa using this
        rw [show i + 2 - i = 2 by omega] at hb'
        clear hsl
        have hb2 : Bytes wr (.slice a' 2 cap') ((l.drop i).take 2) := hb'.below hbel
        rw [show ((2 : Nat) : Int) = (2 : Int) from rfl]
        have HLE := hid hle
        clear hle
        go_wp2
        go_loop [6, 7] (fun v6 v7 => ∃ j x : Nat, 1 ≤ j ∧ j ≤ 2 ∧ x < 32 * 64 ^ (j - 1) ∧ v6 = .int .i64 x ∧ v7 = .int .i64 j ∧ Hid (ufold x (((l.drop i).take 2).drop j) = uval 2 (l.drop i))) (fun _ v7 => 2 - (intOf v7).toNat)
        case atStart => exact ⟨1, c % 32, by omega, by omega, by simp; omega, by first | rfl | go_num, rfl, HU0.out.symm⟩
        case round =>
          obtain ⟨j, x, hj1, hj2, hx, rfl, rfl, HX⟩ := hrel
          have hx2 : x < 32 * 64 ^ 1 := Nat.lt_of_lt_of_le hx (Nat.mul_le_mul_left _ (Nat.pow_le_pow_right (by omega) (by omega)))
          simp only [Nat.reducePow, Nat.reduceMul] at hx2
          have HXX := hid hx
          clear hx
          by_cases hlt : j < 2
          · have hcl := HCELL.out
            obtain ⟨b2, o2, ha2, hd0⟩ := hcl (i + j) (by omega)
            clear hcl
            have hix2 := index_at under_bytes size_u8 ha2 i j (len := n) (by omega) (cap := cap)
            obtain ⟨d, HD⟩ : ∃ d, Hid (d = (l.getD (i + j) 0).toNat) := ⟨_, rfl⟩
            have hdb : d < 256 := by rw [HD.out]; exact (l.getD (i + j) 0).toNat_lt
            rw [← HD.out] at hd0
            have hd1 := hbel.cell (p := ⟨b2, o2 + (i + j), none⟩) (World.block_lt_of_cell? w _ hd0)
            rw [hd0] at hd1
            have hb2l : b2 < wr.heap.size := World.block_lt_of_cell? wr _ hd1
            have HA2 := hid ha2
            have hstep := hid (ufold_step (l.drop i) 2 j x hlt HLE.out)
            clear ha2 hd0
            go_wp2
            go_round
            case rel =>
              refine ⟨j + 1, 64 * x + d % 64, by omega, by omega, ?_, by go_num, by go_num, ?_⟩
              · have h1 := HXX.out
                have e : j + 1 - 1 = (j - 1) + 1 := by omega
                rw [e, Nat.pow_succ]
                omega
              · rw [← HX.out, hstep.out, getD_drop, HD.out]
                exact hid rfl
            case measure => simp [intOf]; omega
          · obtain rfl : j = 2 := by omega
            obtain rfl : x = uval 2 (l.drop i) := by rw [← HX.out, ufold_end]
            have HP := hid (uput_take (l.drop i) 2 (by omega) (by omega) HLE.out)
            have Hx2 : uval 2 (l.drop i) ≤ 2097151 := by omega
            obtain ⟨x, HXE⟩ : ∃ x, Hid (x = uval 2 (l.drop i)) := ⟨_, rfl⟩
            rw [← HXE.out] at hx2 Hx2 ⊢
            clear HX HXX hlt
            go_wp2
            obtain ⟨W2, HW2⟩ : ∃ W2, Hid (W2 = wr.alloc (Obj.cells #[.int .i64 0, .int .i64 0, .int .i64 32, .int .i64 16, .int .i64 8] 3)) := ⟨_, rfl⟩
            rw [← HW2.out]
            have hbw : Below w.heap.size w W2 := by rw [HW2.out]; exact hbel.alloc hbel.size _
            have hb3 : Bytes W2.drew (.slice a' 2 cap') ((l.drop i).take 2) := by rw [HW2.out]; exact Seg.keep (hb2.below ((Below.refl _ _).alloc (Nat.le_refl _) _)) fun _ _ hu => hu
            have hcv1 := hb3.str
            have hw : IntKind.i64.wrap ((i : Int) + 2) = (i : Int) + 2 := IntWalk.i64_in _ (by omega)
            have hbf : ∀ w1, Below (W2.drew).heap.size (W2.drew) w1 → Below w.heap.size w w1 := fun w1 hb1 => below_step (Below.drew hbw) hb1 hbw.size
            have HBF := hid hbf
            clear hbf
            by_cases hun : unext (l.drop i) = 2
            · have heq : (uput x == List.take 2 (List.drop i l)) = true := by rw [HXE.out]; exact beq_iff_eq.2 (HP.out.2 hun)
              have HUN := hid hun
              clear hun
              go_region_with (go_at_call 157; refine (ref04_Put x Hx2 _).mono ?_; rintro e w1 ⟨v1, hv1, hbel1, rfl⟩; have hcv2 := (hb3.below hbel1).str; have hcv3 := hv1.str)
              all_goals
                go_wp2
                go_ret
                rw [HUN.out]
                have hbf := HBF.out
                exact ⟨rfl, hbf _ hbel1⟩
            · have heq : (uput x == List.take 2 (List.drop i l)) = false := by rw [HXE.out]; exact beq_eq_false_iff_ne.2 fun e => hun (HP.out.1 e)
              have HUN := hid hun
              clear hun
              go_region_with (go_at_call 157; refine (ref04_Put x Hx2 _).mono ?_; rintro e w1 ⟨v1, hv1, hbel1, rfl⟩; have hcv2 := (hb3.below hbel1).str; have hcv3 := hv1.str)
              all_goals
                go_wp2
                go_roundw
                case rel =>
                  have hbf := HBF.out
                  refine ⟨3, by omega, by omega, by first | rfl | go_num, hbf _ hbel1, fun j h1 h2 => ?_⟩
                  by_cases e : j = 2
                  · subst e; exact HUN.out
                  · exact HK.out j h1 (by omega)
                case measure => simp [intOf]
      · have HU0 : Hid (uval 3 (l.drop i) = ufold (c % 16) (((l.drop i).take 3).drop 1)) := by simp only [Hid, uval, umod]; rw [getD_drop0, ← HC.out]; rfl
        have hle : 3 ≤ (l.drop i).length := by rw [List.length_drop, ← HN.out]; omega
        obtain ⟨a', cap', hsl, -, hb'⟩ := h.cut HN.out i (i + 3) (by omega) (by omega)
        have hsl2 : ∀ W, (Instr.slice 99 (.slice a n cap) (some (.int .i64 (i : Int))) (some (.int .i64 ((i : Int) + 3))) none).run Tryz.prog W = .ok (.slice a' 3 cap') W := fun W => by have := hsl W; simpa using this
        rw [show i + 3 - i = 3 by omega] at hb'
        clear hsl
        have hb2 : Bytes wr (.slice a' 3 cap') ((l.drop i).take 3) := hb'.below hbel
        rw [show ((3 : Nat) : Int) = (3 : Int) from rfl]
        have HLE := hid hle
        clear hle
        go_wp2
        go_loop [6, 7] (fun v6 v7 => ∃ j x : Nat, 1 ≤ j ∧ j ≤ 3 ∧ x < 16 * 64 ^ (j - 1) ∧ v6 = .int .i64 x ∧ v7 = .int .i64 j ∧ Hid (ufold x (((l.drop i).take 3).drop j) = uval 3 (l.drop i))) (fun _ v7 => 3 - (intOf v7).toNat)
        case atStart => exact ⟨1, c % 16, by omega, by omega, by simp; omega, by first | rfl | go_num, rfl, HU0.out.symm⟩
        case round =>
          obtain ⟨j, x, hj1, hj2, hx, rfl, rfl, HX⟩ := hrel
          have hx2 : x < 16 * 64 ^ 2 := Nat.lt_of_lt_of_le hx (Nat.mul_le_mul_left _ (Nat.pow_le_pow_right (by omega) (by omega)))
          simp only [Nat.reducePow, Nat.reduceMul] at hx2
          have HXX := hid hx
          clear hx
          by_cases hlt : j < 3
          · have hcl := HCELL.out
            obtain ⟨b2, o2, ha2, hd0⟩ := hcl (i + j) (by omega)
            clear hcl
            have hix2 := index_at under_bytes size_u8 ha2 i j (len := n) (by omega) (cap := cap)
            obtain ⟨d, HD⟩ : ∃ d, Hid (d = (l.getD (i + j) 0).toNat) := ⟨_, rfl⟩
            have hdb : d < 256 := by rw [HD.out]; exact (l.getD (i + j) 0).toNat_lt
            rw [← HD.out] at hd0
            have hd1 := hbel.cell (p := ⟨b2, o2 + (i + j), none⟩) (World.block_lt_of_cell? w _ hd0)
            rw [hd0] at hd1
            have hb2l : b2 < wr.heap.size := World.block_lt_of_cell? wr _ hd1
            have HA2 := hid ha2
            have hstep := hid (ufold_step (l.drop i) 3 j x hlt HLE.out)
            clear ha2 hd0
            go_wp2
            go_round
            case rel =>
              refine ⟨j + 1, 64 * x + d % 64, by omega, by omega, ?_, by go_num, by go_num, ?_⟩
              · have h1 := HXX.out
                have e : j + 1 - 1 = (j - 1) + 1 := by omega
                rw [e, Nat.pow_succ]
                omega
              · rw [← HX.out, hstep.out, getD_drop, HD.out]
                exact hid rfl
            case measure => simp [intOf]; omega
          · obtain rfl : j = 3 := by omega
            obtain rfl : x = uval 3 (l.drop i) := by rw [← HX.out, ufold_end]
            have HP := hid (uput_take (l.drop i) 3 (by omega) (by omega) HLE.out)
            have Hx2 : uval 3 (l.drop i) ≤ 2097151 := by omega
            obtain ⟨x, HXE⟩ : ∃ x, Hid (x = uval 3 (l.drop i)) := ⟨_, rfl⟩
            rw [← HXE.out] at hx2 Hx2 ⊢
            clear HX HXX hlt
            go_wp2
            obtain ⟨W2, HW2⟩ : ∃ W2, Hid (W2 = wr.alloc (Obj.cells #[.int .i64 0, .int .i64 0, .int .i64 32, .int .i64 16, .int .i64 8] 3)) := ⟨_, rfl⟩
            rw [← HW2.out]
            have hbw : Below w.heap.size w W2 := by rw [HW2.out]; exact hbel.alloc hbel.size _
            have hb3 : Bytes W2.drew (.slice a' 3 cap') ((l.drop i).take 3) := by rw [HW2.out]; exact Seg.keep (hb2.below ((Below.refl _ _).alloc (Nat.le_refl _) _)) fun _ _ hu => hu
            have hcv1 := hb3.str
            have hw : IntKind.i64.wrap ((i : Int) + 3) = (i : Int) + 3 := IntWalk.i64_in _ (by omega)
            have hbf : ∀ w1, Below (W2.drew).heap.size (W2.drew) w1 → Below w.heap.size w w1 := fun w1 hb1 => below_step (Below.drew hbw) hb1 hbw.size
            have HBF := hid hbf
            clear hbf
            by_cases hun : unext (l.drop i) = 3
            · have heq : (uput x == List.take 3 (List.drop i l)) = true := by rw [HXE.out]; exact beq_iff_eq.2 (HP.out.2 hun)
              have HUN := hid hun
              clear hun
              go_region_with (go_at_call 157; refine (ref04_Put x Hx2 _).mono ?_; rintro e w1 ⟨v1, hv1, hbel1, rfl⟩; have hcv2 := (hb3.below hbel1).str; have hcv3 := hv1.str)
              all_goals
                go_wp2
                go_ret
                rw [HUN.out]
                have hbf := HBF.out
                exact ⟨rfl, hbf _ hbel1⟩
            · have heq : (uput x == List.take 3 (List.drop i l)) = false := by rw [HXE.out]; exact beq_eq_false_iff_ne.2 fun e => hun (HP.out.1 e)
              have HUN := hid hun
              clear hun
              go_region_with (go_at_call 157; refine (ref04_Put x Hx2 _).mono ?_; rintro e w1 ⟨v1, hv1, hbel1, rfl⟩; have hcv2 := (hb3.below hbel1).str; have hcv3 := hv1.str)
              all_goals
                go_wp2
                go_roundw
                case rel =>
                  have hbf := HBF.out
                  refine ⟨4, by omega, by omega, by first | rfl | go_num, hbf _ hbel1, fun j h1 h2 => ?_⟩
                  by_cases e : j = 3
                  · subst e; exact HUN.out
                  · exact HK.out j h1 (by omega)
                case measure => simp [intOf]
      · have HU0 : Hid (uval 4 (l.drop i) = ufold (c % 8) (((l.drop i).take 4).drop 1)) := by simp only [Hid, uval, umod]; rw [getD_drop0, ← HC.out]; rfl
        have hle : 4 ≤ (l.drop i).length := by rw [List.length_drop, ← HN.out]; omega
        obtain ⟨a', cap', hsl, -, hb'⟩ := h.cut HN.out i (i + 4) (by omega) (by omega)
        have hsl2 : ∀ W, (Instr.slice 99 (.slice a n cap) (some (.int .i64 (i : Int))) (some (.int .i64 ((i : Int) + 4))) none).run Tryz.prog W = .ok (.slice a' 4 cap') W := fun W => by have := hsl W; simpa using this
        rw [show i + 4 - i = 4 by omega] at hb'
        clear hsl
        have hb2 : Bytes wr (.slice a' 4 cap') ((l.drop i).take 4) := hb'.below hbel
        rw [show ((4 : Nat) : Int) = (4 : Int) from rfl]
        have HLE := hid hle
        clear hle
        go_wp2
        go_loop [6, 7] (fun v6 v7 => ∃ j x : Nat, 1 ≤ j ∧ j ≤ 4 ∧ x < 8 * 64 ^ (j - 1) ∧ v6 = .int .i64 x ∧ v7 = .int .i64 j ∧ Hid (ufold x (((l.drop i).take 4).drop j) = uval 4 (l.drop i))) (fun _ v7 => 4 - (intOf v7).toNat)
        case atStart => exact ⟨1, c % 8, by omega, by omega, by simp; omega, by first | rfl | go_num, rfl, HU0.out.symm⟩
        case round =>
          obtain ⟨j, x, hj1, hj2, hx, rfl, rfl, HX⟩ := hrel
          have hx2 : x < 8 * 64 ^ 3 := Nat.lt_of_lt_of_le hx (Nat.mul_le_mul_left _ (Nat.pow_le_pow_right (by omega) (by omega)))
          simp only [Nat.reducePow, Nat.reduceMul] at hx2
          have HXX := hid hx
          clear hx
          by_cases hlt : j < 4
          · have hcl := HCELL.out
            obtain ⟨b2, o2, ha2, hd0⟩ := hcl (i + j) (by omega)
            clear hcl
            have hix2 := index_at under_bytes size_u8 ha2 i j (len := n) (by omega) (cap := cap)
            obtain ⟨d, HD⟩ : ∃ d, Hid (d = (l.getD (i + j) 0).toNat) := ⟨_, rfl⟩
            have hdb : d < 256 := by rw [HD.out]; exact (l.getD (i + j) 0).toNat_lt
            rw [← HD.out] at hd0
            have hd1 := hbel.cell (p := ⟨b2, o2 + (i + j), none⟩) (World.block_lt_of_cell? w _ hd0)
            rw [hd0] at hd1
            have hb2l : b2 < wr.heap.size := World.block_lt_of_cell? wr _ hd1
            have HA2 := hid ha2
            have hstep := hid (ufold_step (l.drop i) 4 j x hlt HLE.out)
            clear ha2 hd0
            go_wp2
            go_round
            case rel =>
              refine ⟨j + 1, 64 * x + d % 64, by omega, by omega, ?_, by go_num, by go_num, ?_⟩
              · have h1 := HXX.out
                have e : j + 1 - 1 = (j - 1) + 1 := by omega
                rw [e, Nat.pow_succ]
                omega
              · rw [← HX.out, hstep.out, getD_drop, HD.out]
                exact hid rfl
            case measure => simp [intOf]; omega
          · obtain rfl : j = 4 := by omega
            obtain rfl : x = uval 4 (l.drop i) := by rw [← HX.out, ufold_end]
            have HP := hid (uput_take (l.drop i) 4 (by omega) (by omega) HLE.out)
            have Hx2 : uval 4 (l.drop i) ≤ 2097151 := by omega
            obtain ⟨x, HXE⟩ : ∃ x, Hid (x = uval 4 (l.drop i)) := ⟨_, rfl⟩
            rw [← HXE.out] at hx2 Hx2 ⊢
            clear HX HXX hlt
            go_wp2
            obtain ⟨W2, HW2⟩ : ∃ W2, Hid (W2 = wr.alloc (Obj.cells #[.int .i64 0, .int .i64 0, .int .i64 32, .int .i64 16, .int .i64 8] 3)) := ⟨_, rfl⟩
            rw [← HW2.out]
            have hbw : Below w.heap.size w W2 := by rw [HW2.out]; exact hbel.alloc hbel.size _
            have hb3 : Bytes W2.drew (.slice a' 4 cap') ((l.drop i).take 4) := by rw [HW2.out]; exact Seg.keep (hb2.below ((Below.refl _ _).alloc (Nat.le_refl _) _)) fun _ _ hu => hu
            have hcv1 := hb3.str
            have hw : IntKind.i64.wrap ((i : Int) + 4) = (i : Int) + 4 := IntWalk.i64_in _ (by omega)
            have hbf : ∀ w1, Below (W2.drew).heap.size (W2.drew) w1 → Below w.heap.size w w1 := fun w1 hb1 => below_step (Below.drew hbw) hb1 hbw.size
            have HBF := hid hbf
            clear hbf
            by_cases hun : unext (l.drop i) = 4
            · have heq : (uput x == List.take 4 (List.drop i l)) = true := by rw [HXE.out]; exact beq_iff_eq.2 (HP.out.2 hun)
              have HUN := hid hun
              clear hun
              go_region_with (go_at_call 157; refine (ref04_Put x Hx2 _).mono ?_; rintro e w1 ⟨v1, hv1, hbel1, rfl⟩; have hcv2 := (hb3.below hbel1).str; have hcv3 := hv1.str)
              all_goals
                go_wp2
                go_ret
                rw [HUN.out]
                have hbf := HBF.out
                exact ⟨rfl, hbf _ hbel1⟩
            · have heq : (uput x == List.take 4 (List.drop i l)) = false := by rw [HXE.out]; exact beq_eq_false_iff_ne.2 fun e => hun (HP.out.1 e)
              have HUN := hid hun
              clear hun
              go_region_with (go_at_call 157; refine (ref04_Put x Hx2 _).mono ?_; rintro e w1 ⟨v1, hv1, hbel1, rfl⟩; have hcv2 := (hb3.below hbel1).str; have hcv3 := hv1.str)
              all_goals
                go_wp2
                go_roundw
                case rel =>
                  have hbf := HBF.out
                  refine ⟨5, by omega, by omega, by first | rfl | go_num, hbf _ hbel1, fun j h1 h2 => ?_⟩
                  by_cases e : j = 4
                  · subst e; exact HUN.out
                  · exact HK.out j h1 (by omega)
                case measure => simp [intOf]
end Go.Proofs.YtaefpjecalnbcaaGreat
namespace Go.Proofs.YtaefpjecalnbcaaGreat
open Go.RowKit
set_option maxRecDepth 100000 in
theorem ref04_First {w : World} {v : Value} {l : List UInt8} (h : Bytes w v l) :
    Calls Tryz.prog 124 #[v, .int .i64 l.length] w fun e w' => (∃ k : Nat, e = .returned (.tuple #[.int .i64 (ufirst l), .int .i64 k])) ∧ Below w.heap.size w w' := by
  obtain ⟨hlen, a, cap, rfl, -, -, -, -⟩ := h.open
  obtain ⟨n, HN⟩ : ∃ n, Hid (n = l.length) := ⟨_, rfl⟩
  rw [← HN.out] at hlen h ⊢
  go_enter Tryz.func124, Tryz.ntmps124
  go_wp2
  go_loopw [6, 7] (fun v6 v7 wr => ∃ k x : Nat, k ≤ n ∧ x ≤ k ∧ v6 = .int .i64 k ∧ v7 = .int .i64 x ∧ Below w.heap.size w wr ∧ Hid (k + ufirst (l.drop k) = ufirst l)) (fun v6 _ _ => n - (intOf v6).toNat)
  case atStart => exact ⟨0, 0, by omega, by omega, rfl, rfl, Below.refl _ _, by simp [Hid]⟩
  case round =>
    obtain ⟨k, x, hk, hx, rfl, rfl, hbel, HK⟩ := hrel
    obtain ⟨m, HM⟩ : ∃ m, Hid (m = unext (l.drop k)) := ⟨_, rfl⟩
    have hm : k + m ≤ n := by
      have := (unext_le (l.drop k)).1
      rw [List.length_drop, ← HN.out, ← HM.out] at this
      omega
    have hs := ufirst_step (l.drop k)
    rw [← HM.out] at hs
    have HS := hid hs
    clear hs
    by_cases hm0 : m = 0
    · subst hm0
      go_wp2_with (go_at_call 150; refine (ref04_Next (h.below hbel) k (by rw [← HN.out]; exact hk)).mono ?_; rintro e w1 ⟨rfl, hb1⟩; rw [← HM.out])
      refine bodyPost_ret (v := .tuple #[.int .i64 k, .int .i64 x]) (by simp [results, Tryz.results124, go_sem]) rfl ⟨⟨x, ?_⟩, below_step hbel hb1 hbel.size⟩
      have e : ufirst l = k := by rw [← HK.out, HS.out]; simp
      rw [e]
    · have hm1 : ((m : Int) == 0) = false := by simp; omega
      have HM0 := hid hm0
      have hmp : 0 < m := by omega
      clear hm0
      go_wp2_with (go_at_call 150; refine (ref04_Next (h.below hbel) k (by rw [← HN.out]; exact hk)).mono ?_; rintro e w1 ⟨rfl, hb1⟩; rw [← HM.out])
      go_roundw
      case rel =>
        refine ⟨k + m, x + 1, by omega, by omega, by go_num, by go_num, below_step hbel hb1 hbel.size, ?_⟩
        rw [← HK.out, HS.out, if_neg HM0.out, List.drop_drop, Nat.add_assoc]
        exact hid rfl
      case measure => simp [intOf]; omega
set_option maxRecDepth 100000 in
theorem ref04_Right {w : World} {v : Value} {l : List UInt8} (h : Bytes w v l) :
    Calls Tryz.prog 85 #[v] w fun e w' => e = .returned (.bool (decide (ufirst l = l.length))) ∧ Below w.heap.size w w' := by
  obtain ⟨hlen, a, cap, rfl, -, -, -, -⟩ := h.open
  go_enter Tryz.func85, Tryz.ntmps85
  go_wp2_with (go_at_call 124; refine (ref04_First h).mono ?_; rintro e w' ⟨⟨k, rfl⟩, hb⟩)
  go_ret
  refine ⟨ret1 ?_, hb⟩
  show Value.bool ((ufirst l : Int) == (l.length : Int)) = _
  congr 1
  rw [Bool.eq_iff_iff]
  simp
  omega
end Go.Proofs.YtaefpjecalnbcaaGreat
namespace Go.Proofs.YtaefpjecalnbcaaGreat
open Go.RowKit
theorem getD_mem {α : Type} (l : List α) (z : α) {k : Nat} (hk : k < l.length) : l.getD k z ∈ l := by
  have : l.getD k z = l[k] := by simp [List.getD, hk]
  rw [this]; exact List.getElem_mem hk
end Go.Proofs.YtaefpjecalnbcaaGreat
namespace Go.Proofs.YtaefpjecalnbcaaGreat
open Go.RowKit
end Go.Proofs.YtaefpjecalnbcaaGreat
namespace Go.Proofs.YtaefpjecalnbcaaGreat
open Go.RowKit
end Go.Proofs.YtaefpjecalnbcaaGreat
namespace Go.Proofs.YtaefpjecalnbcaaGreat
open Go.RowKit
end Go.Proofs.YtaefpjecalnbcaaGreat
namespace Go.Proofs.YtaefpjecalnbcaaGreat
open Go.RowKit
end Go.Proofs.YtaefpjecalnbcaaGreat
namespace Go.Proofs.YtaefpjecalnbcaaGreat
open Go.RowKit
end Go.Proofs.YtaefpjecalnbcaaGreat
namespace Go.Proofs.YtaefpjecalnbcaaGreat
open Go.RowKit Go.Shelf
attribute [local go_sem] Oper.semAt_some
/-- A frame: its number, its place, where its bytes begin and end, the code -/
structure Ev where
  i : Nat
  at' : Nat
  ff : Nat
  tt : Nat
  c : Nat
/-- what yield is handed -/
def Ev.val (a : Option Addr) (ln cap : Nat) (e : Ev) : Value := .agg #[if e.c = 0 then sliced a (min e.ff (min e.tt ln)) (min e.tt ln) cap 1 else .slice none 0 0, .int .i64 e.at', .int .u8 e.c]
def Ev.enc (a : Option Addr) (ln cap : Nat) (e : Ev) : Array Value := #[.int .i64 e.i, e.val a ln cap]
end Go.Proofs.YtaefpjecalnbcaaGreat
namespace Go.Proofs.YtaefpjecalnbcaaGreat
open Go.RowKit
set_option maxRecDepth 100000 in
set_option maxHeartbeats 4000000 in
theorem law07_Few {w : World} {v : Value} {s : List Mes} (hS : SchemaAt w v s) :
    Calls Tryz.prog 7 #[v] w fun e w' => (∃ b, e = .returned (.bool b)) ∧ Below w.heap.size w w' := by
  obtain ⟨hlen, a, cap, rfl, hat⟩ := hS.open
  obtain ⟨n, HN⟩ : ∃ n, Hid (n = s.length) := ⟨_, rfl⟩
  rw [← HN.out] at hat hlen ⊢
  have HAT := hid hat
  clear hat hS
  go_enter Tryz.func7, Tryz.ntmps7
  go_wp2_with fail
  go_loopw [3, 4, 5] (fun v3 v4 _ wr => ∃ (z : Int) (i : Nat), v3 = .int .i64 z ∧ i ≤ n ∧ v4 = .int .i64 i ∧ Hid (Below w.heap.size w wr)) (fun _ v4 _ _ => n - (intOf v4).toNat)
  case atStart => exact ⟨0, 0, rfl, by omega, rfl, Below.refl _ _⟩
  case round =>
    obtain ⟨z, i, rfl, hi, rfl, HB⟩ := hrel
    by_cases hlt : i < n
    · have hat := HAT.out
      obtain ⟨b, o, fv, ha, hnm, c0, c1, hfs⟩ := hat i hlt
      obtain ⟨fl, fa, fcap, rfl, hft⟩ := hfs.open
      clear hat hfs
      obtain ⟨fn, HFN⟩ : ∃ fn, Hid (fn = (s.getD i .zero).fields.length) := ⟨_, rfl⟩
      obtain ⟨nm, HNM⟩ : ∃ nm, Hid (nm = (s.getD i .zero).name) := ⟨_, rfl⟩
      rw [← HFN.out] at fl c1 hft
      rw [← HNM.out] at hnm c0
      have HFT := hid hft
      clear hft
      have hkr := below_keeps HB.out
      replace c0 := hkr _ _ c0
      replace c1 := hkr _ _ c1
      clear hkr
      have hix := index_run Tryz.underlying23 size_mes ha i hlt (cap := cap)
      have hbl : b < wr.heap.size := World.block_lt_of_cell? wr _ c0
      clear ha
      go_wp2_with fail
      go_quiet (fail)
      go_wp2_with fail
      obtain ⟨wo, HWO⟩ : ∃ wo, Hid (wo = wr.drewN nq) := ⟨_, rfl⟩
      rw [← HWO.out]
      have HBO : Hid (Below w.heap.size w wo) := by rw [HWO.out]; exact below_drewN HB.out _
      replace c1 : wo.cell? ⟨b, o + i * 2 + 1, none⟩ = some (.slice fa fn fcap) := by rw [HWO.out]; exact c1
      clear c0 hbl
      have HC1 := hid c1
      clear c1
      go_loopw [3, 5] (fun v3 v5 wq => ∃ (z : Int) (k : Nat), v3 = .int .i64 z ∧ k ≤ fn ∧ v5 = .int .i64 k ∧ Hid (Below wo.heap.size wo wq)) (fun _ v5 _ => fn - (intOf v5).toNat)
      case atStart => exact ⟨_, 0, rfl, by omega, rfl, Below.refl _ _⟩
      case round =>
        obtain ⟨z2, k, rfl, hk, rfl, HBQ⟩ := hrel
        have c1 := below_keeps HBQ.out _ _ HC1.out
        have hbl : b < wr.heap.size := World.block_lt_of_cell? wr _ c1
        by_cases hlk : k < fn
        · have hft := HFT.out
          obtain ⟨b2, o2, ha2, hok, g0, -⟩ := hft k hlk
          clear hft
          have hkr := below_keeps (HBO.out.trans (HBQ.out.mono HBO.out.size))
          replace g0 := hkr _ _ g0
          clear hkr
          obtain ⟨fx, HFX⟩ : ∃ fx, Hid (fx = (s.getD i .zero).fields.getD k .zero) := ⟨_, rfl⟩
          rw [← HFX.out] at hok g0
          have hsz := hok.name
          have hix2 := index_run Tryz.underlying60 size_fld ha2 k hlk (cap := fcap)
          have hbl2 : b2 < wr.heap.size := World.block_lt_of_cell? wr _ g0
          clear ha2 hok
          go_wp2_with fail
          go_roundw
          case rel => exact ⟨_, k + 1, rfl, hlk, by go_num, HBQ⟩
          case measure => simp [intOf]; omega
        · go_wp2_with fail
          go_roundw
          case rel => exact ⟨_, i + 1, rfl, hlt, by go_num, HBO.out.trans (HBQ.out.mono HBO.out.size)⟩
          case measure => simp [intOf]; omega
    · go_wp2_with fail
      go_ret
      exact ⟨⟨_, rfl⟩, HB.out⟩
end Go.Proofs.YtaefpjecalnbcaaGreat
namespace Go.Proofs.YtaefpjecalnbcaaGreat
open Go.RowKit Go.Shelf
/-- A [][]byte reads as ls. -/
def BytesL (w : World) (v : Value) (ls : List (List UInt8)) : Prop :=
  ∃ vs : List Value, vs.length = ls.length ∧ Seg w v 1 ls.length vs ∧ ∀ j, j < ls.length → Bytes w (vs.getD j undef) (ls.getD j [])
theorem BytesL.keep {w w' : World} {v : Value} {ls : List (List UInt8)} (h : BytesL w v ls) (hk : ∀ p u, w.cell? p = some u → w'.cell? p = some u) : BytesL w' v ls :=
  let ⟨vs, h1, h2, h3⟩ := h
  ⟨vs, h1, h2.keep hk, fun j hj => (h3 j hj).keep hk⟩
/-- What a walk wants. -/
theorem BytesL.open {w : World} {v : Value} {ls : List (List UInt8)} (h : BytesL w v ls) :
    ls.length ≤ 140737488355328 ∧ ∃ a cap, v = .slice a ls.length cap ∧ (a = none → cap = 0) ∧
      ∀ k, k < ls.length → ∃ b o x, a = some ⟨b, o, none⟩ ∧ w.cell? ⟨b, o + k, none⟩ = some x ∧ Bytes w x (ls.getD k []) := by
  obtain ⟨vs, h1, ⟨_, h2, a, cap, hv, h3, h4, h5, h6⟩, hb⟩ := h
  refine ⟨h2, a, cap, hv, h5, fun k hk => ?_⟩
  have hx : vs[k]? = some (vs.getD k undef) := by simp [List.getD, h1, hk]
  obtain ⟨b, o, ha, hc⟩ := h6 k _ hx
  exact ⟨b, o, _, ha, hc, hb k hk⟩
/-- A [][]byte of the call's own, whose elements are the call's own. -/
def Rows (W : World) (base : Nat) (lv : Value) (ls : List (List UInt8)) : Prop :=
  ∃ vs : List Value, W.ownsRow base 99 1 lv ls.length vs ∧ vs.length = ls.length ∧ ∀ j, j < ls.length → Own W base (vs.getD j undef) (ls.getD j [])
theorem Rows.keep {W W' : World} {base : Nat} {lv : Value} {ls : List (List UInt8)} (h : Rows W base lv ls)
    (hk : ∀ b cur e, base ≤ b → W.heap[b]? = some (.cells cur e (0, 0)) → e = 99 ∨ e = 5 → W'.heap[b]? = W.heap[b]?) : Rows W' base lv ls :=
  let ⟨vs, h1, h2, h3⟩ := h
  ⟨vs, row_keep h1 (fun b cur hb he => hk b cur _ hb he (.inl rfl)), h2, fun j hj => row_keep (h3 j hj) (fun b cur hb he => hk b cur _ hb he (.inr rfl))⟩
theorem Rows.later {W W' : World} {base : Nat} {lv : Value} {ls : List (List UInt8)} (h : Rows W base lv ls) (hb : Below W.heap.size W W') : Rows W' base lv ls :=
  h.keep fun b _cur _e _ he _ => hb.block b (Array.getElem?_eq_some_iff.1 he).1
theorem blk_ne {W : World} {b b' : Nat} {cs : List Value} {T T' : TypeId} {cur : Array Value} (h : Blk W b cs T) (h' : W.heap[b']? = some (.cells cur T' (0, 0))) (hne : T ≠ T') : b' ≠ b := by
  rintro rfl
  unfold Blk at h
  rw [h] at h'
  injection h' with h'
  injection h' with _ ht
  exact hne ht
/-- A store into a box of another type. -/
theorem Rows.set {W : World} {base B : Nat} {lv x : Value} {ls : List (List UInt8)} {cs : List Value} {T : TypeId} (h : Rows W base lv ls) (hB : Blk W B cs T) (h1 : T ≠ 99) (h2 : T ≠ 5) (j : Nat) :
    Rows (W.setCell ⟨B, j, none⟩ x) base lv ls :=
  h.keep fun b cur e _ he hee => Below.heap_setCell W _ _ b (by
    show b ≠ B
    rcases hee with rfl | rfl
    · exact blk_ne hB he h1
    · exact blk_ne hB he h2)
theorem Own.mono {W : World} {b b' : Nat} {v : Value} {l : List UInt8} (h : Own W b v l) (hb : b' ≤ b) : Own W b' v l :=
  ⟨h.1, h.2.imp id (fun ⟨g, cap, cur, hv, hg, r⟩ => ⟨g, cap, cur, hv, Nat.le_trans hb hg, r⟩)⟩
theorem Rows.mono {W : World} {b b' : Nat} {v : Value} {ls : List (List UInt8)} (h : Rows W b v ls) (hb : b' ≤ b) : Rows W b' v ls :=
  let ⟨vs, h1, h2, h3⟩ := h
  ⟨vs, ⟨h1.1, h1.2.imp id (fun ⟨g, cap, cur, hv, hg, r⟩ => ⟨g, cap, cur, hv, Nat.le_trans hb hg, r⟩)⟩, h2, fun j hj => (h3 j hj).mono hb⟩
theorem Own.form {w : World} {base : Nat} {v : Value} {l : List UInt8} (h : Own w base v l) : ∃ a c, v = .slice a l.length c := by
  rcases h.2 with ⟨rfl, h0⟩ | ⟨g, cap, cur, rfl, _⟩
  · exact ⟨none, 0, by rw [h0]⟩
  · exact ⟨_, _, rfl⟩
theorem Rows.form {w : World} {base : Nat} {v : Value} {ls : List (List UInt8)} (h : Rows w base v ls) : ∃ a c, v = .slice a ls.length c := by
  obtain ⟨vs, h1, -, -⟩ := h
  rcases h1.2 with ⟨rfl, h0⟩ | ⟨g, cap, cur, rfl, _⟩
  · exact ⟨none, 0, by rw [h0]⟩
  · exact ⟨_, _, rfl⟩
end Go.Proofs.YtaefpjecalnbcaaGreat
