/- stats.Total: the sums of the rows whose path has no point, and is not none. Their sums are at most 2^60. -/
import Derived.Test.YtphkmpnahnakaaaShelf
import Derived.Test.YtphkmpnahnakaaaZ25
import Derived.Test.YtphkmpnahnakaaaZ30
import Derived.BigRegion
import Derived.BigQuiet
namespace Go.Proofs.Ytphkmpnahnakaaa
open Go.RowKit Go.Shelf
def topR (x : SR) : Bool := decide (x.path ≠ emptyS) && !dotB x.path
def totR (l : List SR) : SR := ⟨emptyS, ((l.filter topR).map SR.recs).sum, ((l.filter topR).map SR.bytes).sum, ((l.filter topR).map SR.vals).sum⟩
theorem totR_step {L : List SR} {k : Nat} {x : SR} (h : L[k]? = some x) : totR (L.take (k + 1)) = if topR x = true then ⟨emptyS, (totR (L.take k)).recs + x.recs, (totR (L.take k)).bytes + x.bytes, (totR (L.take k)).vals + x.vals⟩ else totR (L.take k) := by
  unfold totR
  rw [List.take_add_one, h, Option.toList_some, List.filter_append, List.map_append, List.map_append, List.map_append, List.sum_append, List.sum_append, List.sum_append]
  by_cases hx : topR x = true
  · rw [if_pos hx, List.filter_cons_of_pos hx]
    simp
  · rw [if_neg hx, List.filter_cons_of_neg hx]
    simp
theorem totR_le (L : List SR) (k : Nat) : (totR (L.take k)).recs ≤ (totR L).recs ∧ (totR (L.take k)).bytes ≤ (totR L).bytes ∧ (totR (L.take k)).vals ≤ (totR L).vals := by
  have h : L = L.take k ++ L.drop k := (List.take_append_drop k L).symm
  have h2 : ∀ f : SR → Nat, ((L.filter topR).map f).sum = (((L.take k).filter topR).map f).sum + (((L.drop k).filter topR).map f).sum := fun f => by
    rw [← List.sum_append, ← List.map_append, ← List.filter_append, ← h]
  unfold totR
  simp only [h2]
  exact ⟨Nat.le_add_right _ _, Nat.le_add_right _ _, Nat.le_add_right _ _⟩
theorem indexByte_contains (c : UInt8) : ∀ l : List UInt8, (-1 ≤ Lib.indexByte l c) ∧ decide (0 ≤ Lib.indexByte l c) = l.contains c
  | [] => by simp [Lib.indexByte]
  | b :: r => by
    obtain ⟨i1, i2⟩ := indexByte_contains c r
    rw [Lib.indexByte]
    by_cases hb : (b == c) = true
    · rw [if_pos hb]
      have hbc : b = c := by simpa using hb
      subst hbc
      exact ⟨by omega, by simp⟩
    · rw [if_neg hb]
      have hne : ¬ c = b := fun e => hb (by simp [e])
      by_cases h1 : (Lib.indexByte r c == -1) = true
      · rw [if_pos h1]
        have h2 : Lib.indexByte r c = -1 := by simpa using h1
        rw [h2] at i2
        refine ⟨by omega, ?_⟩
        rw [List.contains_cons, ← i2]
        simp [hne]
      · rw [if_neg h1]
        have h2 : Lib.indexByte r c ≠ -1 := by simpa using h1
        have h3 : 0 ≤ Lib.indexByte r c := by omega
        refine ⟨by omega, ?_⟩
        rw [List.contains_cons, ← i2, decide_eq_true h3, decide_eq_true (by omega)]
        simp
theorem contains_dot (p : ByteArray) (w : World) : Calls Try.prog 16 #[.string p, .string ⟨#[46]⟩] w fun e w' => e = .returned (.bool (dotB p)) ∧ w' = w := by
  have h := Try.strings_Contains_one p 46 w
  rw [(indexByte_contains 46 p.data.toList).2] at h
  exact h
set_option maxRecDepth 100000 in
set_option maxHeartbeats 16000000 in
theorem stats_Total {w : World} {v : Value} {L : List SR} (h : SegR w v L) (hL : L.length ≤ 1048576) (hb : (totR L).recs ≤ 1152921504606846976 ∧ (totR L).bytes ≤ 1152921504606846976 ∧ (totR L).vals ≤ 1152921504606846976) :
    Calls Try.prog 9 #[v] w fun e w' => e = .returned (.agg #[.string ⟨#[]⟩, .int .i64 ((totR L).recs : Int), .int .i64 ((totR L).bytes : Int), .int .i64 ((totR L).vals : Int)]) ∧ Below w.heap.size w w' := by
  have HS := hid h
  have HBD := hid hb
  obtain ⟨a, c, rfl, -⟩ := h.open
  obtain ⟨n, HN⟩ : ∃ n, Hid (n = L.length) := ⟨_, rfl⟩
  rw [← HN.out] at HS hL ⊢
  obtain ⟨Q, HQ⟩ : ∃ Q : Ending → World → Prop, Hid (Q = fun e w' => e = .returned (.agg #[.string ⟨#[]⟩, .int .i64 ((totR L).recs : Int), .int .i64 ((totR L).bytes : Int), .int .i64 ((totR L).vals : Int)]) ∧ Below w.heap.size w w') := ⟨_, rfl⟩
  rw [← HQ.out]
  obtain ⟨R, HR⟩ : ∃ R, Hid (R = w.heap.size) := ⟨_, rfl⟩
  obtain ⟨W1, HW1⟩ : ∃ W1, Hid (W1 = (w.alloc (.cells #[.string ⟨#[]⟩, .int .i64 0, .int .i64 0, .int .i64 0] 32)).alloc (.cells #[.string ⟨#[]⟩, .int .i64 0, .int .i64 0, .int .i64 0] 32)) := ⟨_, rfl⟩
  have hb1 : Below w.heap.size w W1 := by rw [HW1.out]; exact ((Below.refl _ _).alloc (Nat.le_refl _) _).alloc (by simp) _
  have hr1 : Blk W1 R [.string ⟨#[]⟩, .int .i64 0, .int .i64 0, .int .i64 0] 32 := by
    rw [HW1.out, HR.out]
    exact (Blk.new w [.string ⟨#[]⟩, .int .i64 0, .int .i64 0, .int .i64 0] _).alloc _
  have ho1 : Blk W1 (R + 1) [.string ⟨#[]⟩, .int .i64 0, .int .i64 0, .int .i64 0] 32 := by
    rw [HW1.out]
    exact Blk.new' _ [.string ⟨#[]⟩, .int .i64 0, .int .i64 0, .int .i64 0] _ _ (by rw [World.size_alloc, HR.out])
  have HB1 := hid hb1
  have HR1 := hid hr1
  have HO1 := hid ho1
  have HRS : Hid (w.heap.size ≤ R + 1 ∧ R + 1 < W1.heap.size) := ⟨by rw [HR.out]; omega, ho1.lt⟩
  clear h hb hb1 hr1 ho1
  go_enter Try.func9, Try.ntmps9
  go_upto_region 2 with fail
  rw [← HR.out]
  rw [← HW1.out]
  go_wp2_with fail
  go_loopw [8] (fun v8 wr => ∃ k : Nat, v8 = .int .i64 (k : Int) ∧ k ≤ n ∧ Hid (Blk wr (R + 1) (srC (totR (L.take k))) 32 ∧ Below (R + 1) W1 wr)) (fun v8 _ => n - (intOf v8).toNat)
  case atStart => exact ⟨0, rfl, by omega, hid ⟨HO1.out, Below.refl _ _⟩⟩
  case round =>
    obtain ⟨k, rfl, hk, HI⟩ := hrel
    have HBW := hid (HB1.out.trans (HI.out.2.mono HRS.out.1))
    obtain ⟨S1, HS1⟩ : ∃ n, Hid (n = (totR (L.take k)).recs) := ⟨_, rfl⟩
    obtain ⟨S2, HS2⟩ : ∃ n, Hid (n = (totR (L.take k)).bytes) := ⟨_, rfl⟩
    obtain ⟨S3, HS3⟩ : ∃ n, Hid (n = (totR (L.take k)).vals) := ⟨_, rfl⟩
    have hsr : totR (L.take k) = ⟨emptyS, S1, S2, S3⟩ := by rw [HS1.out, HS2.out, HS3.out]; rfl
    have hB := HI.out.1
    rw [hsr] at hB
    have hB : Blk wr (R + 1) [.string ⟨#[]⟩, .int .i64 (S1 : Int), .int .i64 (S2 : Int), .int .i64 (S3 : Int)] 32 := hB
    have HOB := hid hB
    by_cases hlt : k < n
    · obtain ⟨xr, hx⟩ : ∃ r, L[k]? = some r := ⟨_, List.getElem?_eq_getElem (by rw [← HN.out]; exact hlt)⟩
      obtain ⟨a', cap', he, hat⟩ := (HS.out.below HBW.out).open
      obtain ⟨hae, -, hce⟩ := Value.slice.inj he
      subst hae
      subst hce
      obtain ⟨lb, lo, rfl, l0, l1, l2, l3⟩ := hat k xr hx
      have hst := totR_step hx
      have hle := totR_le L (k + 1)
      have hbd := HBD.out
      obtain ⟨p, r1, r2, r3⟩ := xr
      simp only at l0 l1 l2 l3
      have hix := index_run Try.underlying27 size_srow (rfl : some (⟨lb, lo, none⟩ : Addr) = some ⟨lb, lo, none⟩) k hlt (cap := c)
      have hll := World.block_lt_of_cell? wr _ l0
      obtain ⟨VB, HVB⟩ : ∃ b, Hid (b = wr.heap.size) := ⟨_, rfl⟩
      obtain ⟨W4, HW4⟩ : ∃ W, Hid (W = wr.alloc (.cells #[.string p, .int .i64 (r1 : Int), .int .i64 (r2 : Int), .int .i64 (r3 : Int)] 32)) := ⟨_, rfl⟩
      have hb4 : Below wr.heap.size wr W4 := by rw [HW4.out]; exact (Below.refl _ _).alloc (Nat.le_refl _) _
      have hv4 : Blk W4 VB [.string p, .int .i64 (r1 : Int), .int .i64 (r2 : Int), .int .i64 (r3 : Int)] 32 := by rw [HW4.out, HVB.out]; exact Blk.new wr [.string p, .int .i64 (r1 : Int), .int .i64 (r2 : Int), .int .i64 (r3 : Int)] _
      have HB4 := hid hb4
      have HV4 := hid hv4
      have HO4 := hid (HOB.out.below hb4)
      have HBR4 := hid (HI.out.2.trans (hb4.mono (Nat.le_of_lt HOB.out.lt)))
      have hvo : VB ≠ R + 1 := by have := HOB.out.lt; rw [HVB.out]; omega
      have HVO := hid hvo
      have HSTP := hid hst
      have HLE := hid (And.intro hle hbd)
      clear he hat hx hb4 hv4 hst hle hbd hB hvo hsr
      go_upto_region 5 with fail
      rw [← HW4.out, ← HVB.out]
      clear l0 l1 l2 l3 hix hll
      have v0 := HV4.out.cell 0 _ rfl
      have vl := HV4.out.lt
      by_cases hp : p.size = 0
      · have e1 : p.toList.isEmpty = true := by
          have : p = ⟨#[]⟩ := by cases p; simp [ByteArray.size] at hp; rw [hp]
          rw [this, ByteArray.toList_eq]; rfl
        have htp : topR ⟨p, r1, r2, r3⟩ = false := by
          have : p = emptyS := by cases p; simp [ByteArray.size] at hp; rw [hp]; rfl
          unfold topR
          rw [this]; simp
        have HT := HSTP.out
        rw [htp, if_neg (by decide)] at HT
        have HT := hid HT
        go_wp2_with fail
        go_roundw
        case rel =>
          refine ⟨k + 1, by go_num, hlt, ?_⟩
          rw [HT.out, HS1.out, HS2.out, HS3.out] at *
          exact hid ⟨HO4.out, HBR4.out⟩
        case measure => simp [intOf]; omega
      · have e1 : p.toList.isEmpty = false := toList_ne hp
        obtain ⟨db, HDB⟩ : ∃ b, Hid (b = dotB p) := ⟨_, rfl⟩
        have HTP : Hid (topR ⟨p, r1, r2, r3⟩ = !db) := by
          have : ¬ p = emptyS := fun h => hp (by rw [h]; rfl)
          rw [Hid, HDB.out]
          unfold topR
          simp [this]
        have HCN := hid (contains_dot p W4)
        rw [← HDB.out] at HCN
        go_wp2_with fail
        refine HCN.out.mono ?_
        rintro e w5 ⟨rfl, rfl⟩
        clear HCN
        cases db with
        | true =>
          have HT := HSTP.out
          rw [HTP.out, if_neg (by decide)] at HT
          have HT := hid HT
          go_wp2_with fail
          go_roundw
          case rel =>
            refine ⟨k + 1, by go_num, hlt, ?_⟩
            rw [HT.out, HS1.out, HS2.out, HS3.out] at *
            exact hid ⟨HO4.out, HBR4.out⟩
          case measure => simp [intOf]; omega
        | false =>
          have hT := HSTP.out
          rw [HTP.out, if_pos (by decide)] at hT
          have hbd : S1 + r1 ≤ 1152921504606846976 ∧ S2 + r2 ≤ 1152921504606846976 ∧ S3 + r3 ≤ 1152921504606846976 := by
            have h := HLE.out
            rw [hT] at h
            simp only [← HS1.out, ← HS2.out, ← HS3.out] at h
            omega
          obtain ⟨hd1, hd2, hd3⟩ := hbd
          rw [← HS1.out, ← HS2.out, ← HS3.out] at hT
          have HT := hid hT
          have o1 := HO4.out.cell 1 _ rfl
          have o2 := HO4.out.cell 2 _ rfl
          have o3 := HO4.out.cell 3 _ rfl
          have y1 := HO4.out.free 1
          have y2 := HO4.out.free 2
          have y3 := HO4.out.free 3
          have ol := HO4.out.lt
          have v1 := HV4.out.cell 1 _ rfl
          have v2 := HV4.out.cell 2 _ rfl
          have v3 := HV4.out.cell 3 _ rfl
          have HNEW := hid (((HO4.out.set 1 (.int .i64 ((S1 : Int) + r1))).set 2 (.int .i64 ((S2 : Int) + r2))).set 3 (.int .i64 ((S3 : Int) + r3)))
          have hvo := HVO.out
          clear hT v0 e1
          go_upto_region 6 with fail
          go_big_region
          all_goals
            clear o1 o2 o3 y1 y2 y3 ol v1 v2 v3 hvo hd1 hd2 hd3 vl
            go_wp2_with fail
            go_roundw
            case rel =>
              refine ⟨k + 1, by go_num, hlt, ?_⟩
              rw [HT.out]
              refine hid ⟨?_, ?_⟩
              · have h := HNEW.out
                exact h
              · (repeat (first | with_reducible exact Below.refl _ _ | with_reducible refine Below.setCell ?_ (by first | omega | (simp; omega) | (simp; done)) _ | with_reducible refine Below.alloc ?_ (by first | omega | (simp; omega) | (simp; done)) _ | with_reducible refine below_drewN ?_ _ | with_reducible refine Below.drew ?_))
                exact HBR4.out
            case measure => simp [intOf]; omega
    · obtain rfl : k = n := by omega
      have hR : Blk wr R [.string ⟨#[]⟩, .int .i64 0, .int .i64 0, .int .i64 0] 32 := (HI.out.2.block R (by omega)).trans HR1.out
      have o0 := hB.cell 0 _ rfl
      have o1 := hB.cell 1 _ rfl
      have o2 := hB.cell 2 _ rfl
      have o3 := hB.cell 3 _ rfl
      have ol := hB.lt
      have r0 := hR.cell 0 _ rfl
      have r1 := hR.cell 1 _ rfl
      have r2 := hR.cell 2 _ rfl
      have r3 := hR.cell 3 _ rfl
      have rl := hR.lt
      have z0 := hR.free 0
      have z1 := hR.free 1
      have z2 := hR.free 2
      have z3 := hR.free 3
      have s1 := hR.set 0 (.string ⟨#[]⟩)
      have s2 := s1.set 1 (.int .i64 (S1 : Int))
      have s3 := s2.set 2 (.int .i64 (S2 : Int))
      have s4 := s3.set 3 (.int .i64 (S3 : Int))
      have x0 := s4.cell 0 _ rfl
      have x1 := s4.cell 1 _ rfl
      have x2 := s4.cell 2 _ rfl
      have x3 := s4.cell 3 _ rfl
      have HE : Hid (Q (.returned (.agg #[.string ⟨#[]⟩, .int .i64 (S1 : Int), .int .i64 (S2 : Int), .int .i64 (S3 : Int)])) ((((wr.setCell ⟨R, 0, none⟩ (.string ⟨#[]⟩)).setCell ⟨R, 1, none⟩ (.int .i64 (S1 : Int))).setCell ⟨R, 2, none⟩ (.int .i64 (S2 : Int))).setCell ⟨R, 3, none⟩ (.int .i64 (S3 : Int)))) := by
        rw [List.take_of_length_le (by rw [← HN.out]; exact Nat.le_refl _)] at hsr
        rw [HQ.out, hsr]
        refine ⟨rfl, ?_⟩
        have hrw : w.heap.size ≤ R := by rw [HR.out]; exact Nat.le_refl _
        exact (((HBW.out.setCell hrw _).setCell hrw _).setCell hrw _).setCell hrw _
      clear hB hR hsr s1 s2 s3 s4
      go_wp2_with fail
      refine bodyPost_ret (v := .agg #[.string ⟨#[]⟩, .int .i64 (S1 : Int), .int .i64 (S2 : Int), .int .i64 (S3 : Int)]) ?_ rfl HE.out
      simp [results, Try.results9, go_sem, x0, x1, x2, x3]
end Go.Proofs.Ytphkmpnahnakaaa
