/- darningref07.Sorted: the places of the fields by rising numbers (sortedF). At most 2^39 fields. darningref09.Ends: where a run's values end (endsF), or its code. Bytes of at most 2 to the 40. darningref09.Words: the words of a run, the code (runWords). Bytes of at most 2 to the 40. -/
import Derived.Test.YtfimpmennkfjcaaGreatDoorZ07
import Derived.Test.YtfimpmennkfjcaaGreatDoorZ10
import Derived.Test.YtfimpmennkfjcaaGreatDoorZ17
import Derived.Test.YtfimpmennkfjcaaGreatDoorZ21
import Derived.Test.YtfimpmennkfjcaaGreatDoorZ22
import Derived.Test.YtfimpmennkfjcaaGreatDoorZ29
import Derived.Test.YtfimpmennkfjcaaGreatDoorZ31
import Derived.Laws.AppendOwn
import Derived.OwnWalk
import Derived.Maps.AppendAt
namespace Go.Proofs.YtfimpmennkfjcaaGreatDoor
open Go.RowKit
theorem size_intq (w : World) : (sizeOf 3).run Tryz.prog w = .ok 1 w := by kernel_rfl
theorem Seg.hd1 {P : Program} {t e : TypeId} (ht : P.underlying t = some (.slice e)) (hs : ∀ w : World, (sizeOf e).run P w = .ok 1 w) {w : World} {a : Option Addr} {n cap : Nat} {xs : List Value} (h : Seg w (.slice a n cap) 1 n xs) (j : Nat) (hj : j ≤ n) :
    ∃ a' cap', (∀ W, (Instr.slice t (.slice a n cap) none (some (.int .i64 (j : Int))) none).run P W = .ok (.slice a' j cap') W) ∧ Seg w (.slice a' j cap') 1 j (xs.take j) := by
  have hcap : n ≤ cap := by obtain ⟨_, _, a', cap', hv, h3, _⟩ := h; cases hv; exact h3
  have hr := fun W => slice_h_run ht hs a n cap j (by omega) W
  have hsb := Seg.sub h 0 j (by omega) hj
  unfold sliced at hr hsb
  refine ⟨_, _, hr, ?_⟩
  simpa using hsb
theorem Seg.tl1 {P : Program} {t e : TypeId} (ht : P.underlying t = some (.slice e)) (hs : ∀ w : World, (sizeOf e).run P w = .ok 1 w) {w : World} {a : Option Addr} {n cap : Nat} {xs : List Value} (h : Seg w (.slice a n cap) 1 n xs) (i : Nat) (hi : i ≤ n) :
    ∃ a' cap', (∀ W, (Instr.slice t (.slice a n cap) (some (.int .i64 (i : Int))) none none).run P W = .ok (.slice a' (n - i) cap') W) ∧ Seg w (.slice a' (n - i) cap') 1 (n - i) (xs.drop i) := by
  have hr := fun W => slice_l_run ht hs a n cap i hi W
  have hsb := Seg.sub h i n hi (Nat.le_refl _)
  have hl := h.1
  unfold sliced at hr hsb
  refine ⟨_, _, hr, ?_⟩
  rw [List.take_of_length_le (by simp [hl])] at hsb
  simpa using hsb
theorem ints_hd {w : World} {a : Option Addr} {n cap : Nat} {l : List Int} (h : IntsAt w (.slice a n cap) l) (hn : n = l.length) (j : Nat) (hj : j ≤ n) :
    ∃ a' cap', (∀ W, (Instr.slice 56 (.slice a n cap) none (some (.int .i64 (j : Int))) none).run Tryz.prog W = .ok (.slice a' j cap') W) ∧ IntsAt w (.slice a' j cap') (l.take j) := by
  obtain ⟨h1, h2⟩ := h
  rw [← hn] at h1
  obtain ⟨a', c', hr, hs⟩ := Seg.hd1 (P := Tryz.prog) under_ints size_intq h1 j hj
  refine ⟨a', c', hr, ?_, fun x hx => h2 x (List.mem_of_mem_take hx)⟩
  rw [show (l.take j).length = j by rw [List.length_take]; omega, List.map_take]
  exact hs
theorem ints_tl {w : World} {a : Option Addr} {n cap : Nat} {l : List Int} (h : IntsAt w (.slice a n cap) l) (hn : n = l.length) (i : Nat) (hi : i ≤ n) :
    ∃ a' cap', (∀ W, (Instr.slice 56 (.slice a n cap) (some (.int .i64 (i : Int))) none none).run Tryz.prog W = .ok (.slice a' (n - i) cap') W) ∧ IntsAt w (.slice a' (n - i) cap') (l.drop i) := by
  obtain ⟨h1, h2⟩ := h
  rw [← hn] at h1
  obtain ⟨a', c', hr, hs⟩ := Seg.tl1 (P := Tryz.prog) under_ints size_intq h1 i hi
  refine ⟨a', c', hr, ?_, fun x hx => h2 x (List.mem_of_mem_drop hx)⟩
  rw [show (l.drop i).length = n - i by rw [List.length_drop]; omega, List.map_drop]
  exact hs
theorem ints_single (W : World) (y : Int) (hy : i64ok y) : IntsAt (W.alloc (.cells #[.int .i64 y] 3)) (.slice (some ⟨W.heap.size, 0, none⟩) 1 1) [y] := by
  refine ⟨⟨rfl, by simp, _, _, rfl, Nat.le_refl _, by simp, by simp, fun j u hu => ⟨_, _, rfl, ?_⟩⟩, by simpa using hy⟩
  rw [Nat.zero_add, cell_of_row _ _ _ #[.int .i64 y] _ (0, 0) (heap_alloc_new W _)]
  simpa [intV] using hu
theorem row_mono' {w : World} {base base' size n : Nat} {e : TypeId} {v : Value} {xs : List Value} (h : w.ownsRow base e size v n xs) (hb : base' ≤ base) : w.ownsRow base' e size v n xs := by
  refine ⟨h.1, ?_⟩
  rcases h.2 with h2 | ⟨g, cap, cur, hv, hg, h3⟩
  · exact .inl h2
  · exact .inr ⟨g, cap, cur, hv, by omega, h3⟩
/-- 'x := append([]int{}, out[:k]...); x = append(x, y); append(x, out[k:]...)' -/
theorem ins_chain {w : World} {base i k : Nat} {oa : Option Addr} {oc : Nat} {l : List Int} (h : IntsAt w (.slice oa i oc) l) (hi : i = l.length) (hi40 : i ≤ 549755813888) (hk : k ≤ i) (y : Int) (hy : i64ok y) (hb : base ≤ w.heap.size) :
    ∃ a5 c5 a6 c6 w6 a8 c8 w8 a9 c9 a10 c10 w10,
      (∀ W, (Instr.slice 56 (.slice oa i oc) none (some (.int .i64 (k : Int))) none).run Tryz.prog W = .ok (.slice a5 k c5) W) ∧
      (Builtin.append_ #[56, 56] 56 #[.slice (some ⟨w.heap.size, 0, none⟩) 0 0, .slice a5 k c5]).run Tryz.prog (w.alloc (.cells #[] 3)) = .ok (.slice a6 k c6) w6 ∧
      (Builtin.append_ #[56, 56] 56 #[.slice a6 k c6, .slice (some ⟨w6.heap.size, 0, none⟩) 1 1]).run Tryz.prog (w6.alloc (.cells #[.int .i64 y] 3)) = .ok (.slice a8 (k + 1) c8) w8 ∧
      (∀ W, (Instr.slice 56 (.slice oa i oc) (some (.int .i64 (k : Int))) none none).run Tryz.prog W = .ok (.slice a9 (i - k) c9) W) ∧
      (Builtin.append_ #[56, 56] 56 #[.slice a8 (k + 1) c8, .slice a9 (i - k) c9]).run Tryz.prog w8 = .ok (.slice a10 (i + 1) c10) w10 ∧
      IntsOwn w10 base (.slice a10 (i + 1) c10) (l.take k ++ y :: l.drop k) ∧ Below w.heap.size w w10 := by
  have own0 : IntsOwn (w.alloc (.cells #[] 3)) w.heap.size (.slice (some ⟨w.heap.size, 0, none⟩) 0 0) [] := World.ownsRow_made (base := w.heap.size) (e := 3) (size := 1) w #[] 0 (Nat.le_refl _) (by unfold maxLen; omega) rfl
  have hA : Below w.heap.size w (w.alloc (.cells #[] 3)) := (Below.refl _ _).alloc (Nat.le_refl _) _
  obtain ⟨a5, c5, hs5, I5⟩ := ints_hd h hi k hk
  have hl5 : (l.take k).length = k := by rw [List.length_take]; omega
  obtain ⟨v6, w6, hr6, own6, hg6, -⟩ := ints_append own0 (I5.below hA) (by rw [hl5]; simp; omega) (by simp)
  have hB6 : Below w.heap.size w w6 := hA.grown hg6 (by simp) (by intro q e; simp [Value.ownBlock] at e; omega)
  obtain ⟨a6, c6, e6⟩ := own6.form
  rw [List.nil_append, hl5] at e6
  rw [List.nil_append] at own6
  subst e6
  have hA6 : Below w6.heap.size w6 (w6.alloc (.cells #[.int .i64 y] 3)) := (Below.refl _ _).alloc (Nat.le_refl _) _
  obtain ⟨v8, w8, hr8, own8, hg8, -⟩ := ints_append (own6.later hA6) (ints_single w6 y hy) (by rw [hl5]; simp; omega) (by have := hB6.size; simp; omega)
  have hB8 : Below w.heap.size w w8 := (hB6.alloc hB6.size _).grown hg8 (by have := hB6.size; simp; omega) (fun q e => (World.ownsRow.lt own6 q e).1)
  obtain ⟨a8, c8, e8⟩ := own8.form
  rw [List.length_append, hl5] at e8
  have e8' : v8 = .slice a8 (k + 1) c8 := e8
  subst e8'
  obtain ⟨a9, c9, hs9, I9⟩ := ints_tl h hi k hk
  have hl9 : (l.drop k).length = i - k := by rw [List.length_drop]; omega
  obtain ⟨v10, w10, hr10, own10, hg10, -⟩ := ints_append own8 (I9.below hB8) (by rw [List.length_append, hl5, hl9]; simp; omega) hB8.size
  have hB10 : Below w.heap.size w w10 := hB8.grown hg10 hB8.size (fun q e => (World.ownsRow.lt own8 q e).1)
  obtain ⟨a10, c10, e10⟩ := own10.form
  have hl10 : (l.take k ++ [y] ++ l.drop k).length = i + 1 := by simp only [List.length_append, hl5, hl9, List.length_singleton]; omega
  rw [hl10] at e10
  subst e10
  refine ⟨a5, c5, a6, c6, w6, a8, c8, w8, a9, c9, a10, c10, w10, hs5, hr6, hr8, hs9, hr10, ?_, hB10⟩
  rw [List.append_assoc] at own10
  exact row_mono' own10 hb
set_option maxRecDepth 100000 in
set_option maxHeartbeats 8000000 in
theorem ref07_Sorted {w : World} {v : Value} {fs : List Fld} (nm : ByteArray) (h : FieldsAt w v fs) (hl : fs.length ≤ 549755813888) :
    Calls Tryz.prog 41 #[.agg #[.string nm, v]] w fun e w' => ∃ v', e = .returned v' ∧ IntsOwn w' w.heap.size v' (sortedF fs) ∧ Below w.heap.size w w' := by
  have HF := hid h
  obtain ⟨-, a, cap, rfl, -⟩ := h.open
  obtain ⟨n, HN⟩ : ∃ n, Hid (n = fs.length) := ⟨_, rfl⟩
  rw [← HN.out] at hl HF ⊢
  obtain ⟨w1, HW1⟩ : ∃ w1, Hid (w1 = w.alloc (.cells #[.string nm, .slice a n cap] 67)) := ⟨_, rfl⟩
  have hb1 : Below w.heap.size w w1 := by rw [HW1.out]; (repeat (first | with_reducible exact Below.refl _ _ | with_reducible refine Below.setCell ?_ (by first | omega | (simp; omega) | (simp; done)) _ | with_reducible refine Below.alloc ?_ (by first | omega | (simp; omega) | (simp; done)) _ | with_reducible refine below_drewN ?_ _ | with_reducible refine Below.drew ?_))
  have hbx : Blk w1 w.heap.size [.string nm, .slice a n cap] 67 := by rw [HW1.out]; exact Blk.new w [.string nm, .slice a n cap] _
  have HB1 := hid hb1
  have HBX := hid hbx
  have HAT : Hid (∀ k, k < n → ∃ b o, a = some ⟨b, o, none⟩ ∧ w1.cell? ⟨b, o + k * 6 + 1, none⟩ = some (.int .i64 (numAt fs (k : Int)))) := by
    obtain ⟨-, a', cap', he, hat⟩ := (HF.out.below hb1).open
    cases he
    intro k hk
    obtain ⟨b, o, ha, -, -, g1, -⟩ := hat k (by rw [← HN.out]; exact hk)
    exact ⟨b, o, ha, g1⟩
  obtain ⟨Q, HQ⟩ : ∃ Q : Ending → World → Prop, Hid (Q = fun e w' => ∃ v', e = .returned v' ∧ IntsOwn w' w.heap.size v' (sortedF fs) ∧ Below w.heap.size w w') := ⟨_, rfl⟩
  rw [← HQ.out]
  clear h hb1 hbx
  go_enter Tryz.func41, Tryz.ntmps41
  go_wp2_with fail
  rw [← HW1.out]
  go_loopw [3, 4] (fun v3 v4 wr => ∃ i : Nat, v4 = .int .i64 (i : Int) ∧ i ≤ n ∧ Hid (IntsOwn wr w.heap.size v3 (sortF fs i) ∧ Below w1.heap.size w1 wr)) (fun _ v4 _ => n - (intOf v4).toNat)
  case atStart => exact ⟨0, rfl, by omega, World.ownsRow_nil _ _ _ _, Below.refl _ _⟩
  case round =>
    obtain ⟨i, rfl, hi, HI⟩ := hrel
    obtain ⟨oa, oc, hoe⟩ := HI.out.1.form
    rw [sortF_len] at hoe
    subst hoe
    have k1 := (HBX.out.below HI.out.2).cell 1 _ rfl
    by_cases hlt : i < n
    · obtain ⟨pw, HPW⟩ : ∃ pw, Hid (pw = posF fs (i : Int) (sortF fs i)) := ⟨_, rfl⟩
      have hpw : pw ≤ i := by have := posF_le fs (i : Int) (sortF fs i); rw [sortF_len] at this; rw [HPW.out]; exact this
      have HPF := hid (posF_from fs (i : Int) (sortF fs i))
      rw [← HPW.out] at HPF
      obtain ⟨b, o, ha, g1⟩ := HAT.out i hlt
      have hix := index_run Tryz.underlying65 size_fld ha i hlt (cap := cap)
      have HG1 := hid g1
      have HA := hid ha
      have HIA : Hid (IntsAt wr (.slice oa i oc) (sortF fs i)) := HI.out.1.ints (by rw [sortF_len]; omega) (fun x hx => by
        have := upTo_mem.1 ((sortF_ok fs i).1.mem_iff.1 hx)
        constructor <;> omega)
      have HBW : Hid (Below w.heap.size w wr) := HB1.out.trans (HI.out.2.mono HB1.out.size)
      obtain ⟨wo, rfl⟩ : ∃ wo : World, wo = wr := ⟨_, rfl⟩
      clear g1 ha
      go_wp2_with fail
      go_loopw [5] (fun v5 wr => ∃ k : Nat, v5 = .int .i64 (k : Int) ∧ k ≤ pw ∧ Hid (Drew wo wr)) (fun v5 _ => pw - (intOf v5).toNat)
      case atStart => exact ⟨0, rfl, by omega, Drew.refl _⟩
      case round =>
        obtain ⟨k, rfl, hk, HD⟩ := hrel
        replace k1 := HD.out.keeps _ _ k1
        have g1 := HD.out.keeps _ _ (below_keeps HI.out.2 _ _ HG1.out)
        obtain ⟨y, HY⟩ : ∃ y, Hid (y = numAt fs (i : Int)) := ⟨_, rfl⟩
        rw [← HY.out] at g1
        by_cases hki : k < i
        · obtain ⟨u, hu⟩ : ∃ u, (sortF fs i)[k]? = some u := ⟨_, List.getElem?_eq_getElem (by rw [sortF_len]; exact hki)⟩
          have hub := upTo_mem.1 ((sortF_ok fs i).1.mem_iff.1 (List.mem_of_getElem? hu))
          obtain ⟨q, rfl⟩ : ∃ q : Nat, u = q := ⟨u.toNat, by omega⟩
          have hqn : q < n := by omega
          obtain ⟨b2, o2, ha2, g2⟩ := HAT.out q hqn
          have hix2 := index_run Tryz.underlying65 size_fld ha2 q hqn (cap := cap)
          replace g2 := HD.out.keeps _ _ (below_keeps HI.out.2 _ _ g2)
          obtain ⟨x, HX⟩ : ∃ x, Hid (x = numAt fs (q : Int)) := ⟨_, rfl⟩
          rw [← HX.out] at g2
          obtain ⟨-, oa', oc', hoe, -, hoat⟩ := HIA.out.open
          rw [sortF_len] at hoe
          cases hoe
          obtain ⟨-, b3, o3, ha3, g3⟩ := hoat k _ hu
          have hix3 := index_run1 Tryz.underlying56 size_intq ha3 k hki (cap := oc)
          replace g3 := HD.out.keeps _ _ g3
          have HU := hid hu
          clear hu hub ha2 hoat ha3
          by_cases hkp : k < pw
          · have hle : x ≤ y := by
              obtain ⟨u, hu, h1⟩ := HPF.out.1 k hkp
              rw [HU.out] at hu; cases hu
              rw [HX.out, HY.out]; exact h1
            have hd : decide (x ≤ y) = true := decide_eq_true hle
            clear hle
            go_wp2_with fail
            go_quiet (fail)
            go_wp2_with fail
            go_roundw
            case rel => exact ⟨k + 1, by go_num, hkp, HD.out.step _⟩
            case measure => simp [intOf]; omega
          · obtain rfl : k = pw := by omega
            have hd : decide (x ≤ y) = false := decide_eq_false (by have := HPF.out.2 _ HU.out; rw [HX.out, HY.out]; omega)
            clear hkp
            go_wp2_with fail
            go_quiet (fail)
            obtain ⟨w3, HW3⟩ : ∃ w3, Hid (w3 = wr.drewN nq) := ⟨_, rfl⟩
            have HD3 : Hid (Drew wo w3) := by rw [HW3.out]; exact HD.out.step _
            rw [← HW3.out]
            have hbo : Below wo.heap.size wo w3 := HD3.out.below
            obtain ⟨a5, c5, a6, c6, w6, a8, c8, w8, a9, c9, a10, c10, w10, hs5, hr6, hr8, hs9, hr10, own10, hB10⟩ := ins_chain (base := w.heap.size) (k := k) (HIA.out.below hbo) (sortF_len fs i).symm (by omega) hpw (i : Int) (by constructor <;> omega) (Nat.le_trans HBW.out.size hbo.size)
            have HREL : Hid (IntsOwn w10 w.heap.size (.slice a10 (i + 1) c10) (sortF fs (i + 1)) ∧ Below w1.heap.size w1 w10) := by
              refine ⟨?_, below_step (below_step HI.out.2 hbo HI.out.2.size) hB10 (Nat.le_trans HI.out.2.size hbo.size)⟩
              rw [sortF, insF, ← HPW.out]; exact own10
            clear hbo own10 hB10
            go_wp2_with (at_builtin; first | refine wpList_append_eq (o := ⟨some 42, _, _, _, _, _⟩) rfl _ _ _ rfl _ _ rfl rfl hr6 ?_ | refine wpList_append_eq (o := ⟨some 46, _, _, _, _, _⟩) rfl _ _ _ rfl _ _ rfl rfl hr8 ?_ | refine wpList_append_eq (o := ⟨some 51, _, _, _, _, _⟩) rfl _ _ _ rfl _ _ rfl rfl hr10 ?_)
            go_roundw
            case rel => exact ⟨i + 1, by go_num, hlt, HREL.out⟩
            case measure => simp [intOf]; omega
        · have hd1 : decide ((k : Int) < (i : Int)) = false := decide_eq_false (by omega)
          have hd2 : decide (k < i) = false := decide_eq_false hki
          obtain rfl : k = pw := by omega
          have HKI := hid hki
          clear hki
          go_wp2_with fail
          go_quiet (fail)
          obtain ⟨w3, HW3⟩ : ∃ w3, Hid (w3 = wr.drewN nq) := ⟨_, rfl⟩
          have HD3 : Hid (Drew wo w3) := by rw [HW3.out]; exact HD.out.step _
          rw [← HW3.out]
          have hbo : Below wo.heap.size wo w3 := HD3.out.below
          obtain ⟨a5, c5, a6, c6, w6, a8, c8, w8, a9, c9, a10, c10, w10, hs5, hr6, hr8, hs9, hr10, own10, hB10⟩ := ins_chain (base := w.heap.size) (k := k) (HIA.out.below hbo) (sortF_len fs i).symm (by omega) hpw (i : Int) (by constructor <;> omega) (Nat.le_trans HBW.out.size hbo.size)
          have HREL : Hid (IntsOwn w10 w.heap.size (.slice a10 (i + 1) c10) (sortF fs (i + 1)) ∧ Below w1.heap.size w1 w10) := by
            refine ⟨?_, below_step (below_step HI.out.2 hbo HI.out.2.size) hB10 (Nat.le_trans HI.out.2.size hbo.size)⟩
            rw [sortF, insF, ← HPW.out]; exact own10
          clear hbo own10 hB10
          go_wp2_with (at_builtin; first | refine wpList_append_eq (o := ⟨some 42, _, _, _, _, _⟩) rfl _ _ _ rfl _ _ rfl rfl hr6 ?_ | refine wpList_append_eq (o := ⟨some 46, _, _, _, _, _⟩) rfl _ _ _ rfl _ _ rfl rfl hr8 ?_ | refine wpList_append_eq (o := ⟨some 51, _, _, _, _, _⟩) rfl _ _ _ rfl _ _ rfl rfl hr10 ?_)
          go_roundw
          case rel => exact ⟨i + 1, by go_num, hlt, HREL.out⟩
          case measure => simp [intOf]; omega
    · obtain rfl : i = n := by omega
      go_wp2_with fail
      rw [HQ.out]
      have h1 : sortF fs i = sortedF fs := by rw [sortedF, ← HN.out]
      have h2 := HI.out.1
      rw [h1] at h2
      exact ⟨_, rfl, h2, HB1.out.trans (HI.out.2.mono HB1.out.size)⟩
end Go.Proofs.YtfimpmennkfjcaaGreatDoor
namespace Go.Proofs.YtfimpmennkfjcaaGreatDoor
open Go.RowKit
/-- where values end, the first beginning at i -/
def endsF : Nat → List (List UInt8) → List Int
  | _, [] => []
  | i, x :: r => ((i + x.length : Nat) : Int) :: endsF (i + x.length) r
theorem endsF_step {wire : Nat} {l : List UInt8} {i m : Nat} (hne : l.drop i ≠ []) (he : runSize wire (l.drop i) = (m, 0)) (hm : i + m ≤ l.length) :
    endsF i (rpieces wire (l.drop i)) = ((i : Int) + (m : Int)) :: endsF (i + m) (rpieces wire (l.drop (i + m))) := by
  rw [rpieces_step wire (l.drop i) hne m he, endsF, List.drop_drop]
  have h1 : ((l.drop i).take m).length = m := by rw [List.length_take, List.length_drop]; omega
  rw [h1, Int.natCast_add]
set_option maxRecDepth 100000 in
set_option maxHeartbeats 4000000 in
theorem ref09_Ends2 {w : World} {v : Value} {l : List UInt8} (h : Bytes w v l) (hsm : l.length ≤ 1099511627776) (k : Int) (hk : knumber k = true) :
    Calls Tryz.prog 61 #[.int .i64 k, v] w fun e w' => (∃ o, e = .returned (.tuple #[o, .int .i64 (runCount (kwire k) l).2]) ∧ IntsOwn w' w.heap.size o (if (runCount (kwire k) l).2 = 0 then endsF 0 (rpieces (kwire k) l) else [])) ∧ Below w.heap.size w w' := by
  obtain ⟨hlen, a, cap, rfl, -, -, -, hcell⟩ := h.open
  obtain ⟨n, HN⟩ : ∃ n, Hid (n = l.length) := ⟨_, rfl⟩
  obtain ⟨x, HX⟩ : ∃ x, Hid (x = (runCount (kwire k) l).2) := ⟨_, rfl⟩
  rw [← HX.out]
  obtain ⟨L, HL⟩ : ∃ L, Hid (L = if x = 0 then endsF 0 (rpieces (kwire k) l) else []) := ⟨_, rfl⟩
  rw [← HL.out]
  have H := hid h
  rw [← HN.out] at hlen hcell hsm ⊢
  clear hcell
  have HK := hid hk
  clear hk h
  go_enter Tryz.func61, Tryz.ntmps61
  go_wp2_with (go_at_call 43; refine (ref06_Number k _).mono ?_; rintro e w' ⟨rfl, rfl⟩; rw [HK.out])
  obtain ⟨i0, hinf, hz0, hz1, hz2⟩ := info_parts (show (Tryz.prog.info? 3).map (fun i => (i.zero, i.size, i.bytes)) = some (some (.int .i64 0), 1, 8) by kernel_rfl)
  have HZ := hid (And.intro hinf (And.intro hz0 (And.intro hz1 hz2)))
  clear hinf hz0 hz1 hz2
  go_loopw [6, 7] (fun v6 v7 wr => ∃ i : Nat, i ≤ n ∧ v7 = .int .i64 i ∧ Hid ((runCount (kwire k) (l.drop i)).2 = x) ∧ (∃ cnt row es, Hid (wr.ownsRow w.heap.size 3 1 v6 cnt row) ∧ Hid (cnt ≤ i) ∧ Hid (row = es.map intV ∧ cnt = es.length ∧ endsF 0 (rpieces (kwire k) l) = es ++ endsF i (rpieces (kwire k) (l.drop i)))) ∧ Hid (Below w.heap.size w wr)) (fun _ v7 _ => n - (intOf v7).toNat)
  case atStart => exact ⟨0, by omega, rfl, HX.out.symm, ⟨0, [], [], World.ownsRow_nil _ _ _ _, Nat.le_refl _, rfl, rfl, by simp⟩, Below.refl _ _⟩
  case round =>
    obtain ⟨i, hi, rfl, HR, ⟨cnt, row, es, HOWN, HCN, HES⟩, HBEL⟩ := hrel
    by_cases hlt : i < n
    · have hwr : Bytes wr (.slice a n cap) l := by
        have := H.out.keep (below_keeps HBEL.out)
        rw [HN.out]; exact this
      have hne : l.drop i ≠ [] := by
        intro e
        have := congrArg List.length e
        simp at this
        have := HN.out
        omega
      have HNE := hid hne
      clear hne
      rcases runSize_cases (kwire k) (l.drop i) with ⟨m, e, h1, h2, h3⟩ | ⟨c, e, hc⟩
      · have HE := hid e
        have HST := hid (runCount_step (kwire k) (l.drop i) HNE.out m e)
        have hin : i + m ≤ n := by rw [List.length_drop] at h3; have := HN.out; omega
        have HEF := hid (endsF_step HNE.out e (by rw [← HN.out]; exact hin))
        clear e h3
        have HWR := hid hwr
        clear hwr
        by_cases hk9 : k < 9
        · have hv : ∃ wv, Hid (vread (l.drop i) = (wv, m, 0)) := by
            have := HE.out
            unfold runSize at this
            rw [if_pos (by have := HK.out; unfold kwire; simp [knumber] at this; (repeat (first | rw [if_neg (by omega)] | rw [if_pos (by omega)])))] at this
            injection this with e1 e2
            exact ⟨(vread (l.drop i)).1, by rw [Hid, ← e1, ← e2]⟩
          obtain ⟨wv, HVR⟩ := hv
          go_wp2_with (first | (go_at_call 67; refine (ref02_Read_at HWR.out _ i rfl (by rw [← HN.out]; omega)).mono ?_; rintro e w' ⟨rfl, rfl⟩; rw [HVR.out]) | (at_builtin; (refine wpList_append_own _ rfl _ _ 56 rfl w.heap.size 3 i0 (.int .i64 0) 1 8 Tryz.underlying56 HZ.out.1 HZ.out.2.1 HZ.out.2.2.1 HZ.out.2.2.2 rfl (by decide) _ _ _ rfl (HOWN.out.alloc _) ⟨wr.heap.size, 0, none⟩ 1 1 [.int .i64 ((i : Int) + (m : Int))] rfl rfl (cell_one_new _ _ _) (by simp [Value.oneCell']) (by have := HCN.out; simp only [maxLen]; omega) (by have := HCN.out; omega) (by have := HBEL.out.size; simp; omega) ?_); intro v' w1 hown' hgrow _))
          go_roundw
          case rel =>
            refine ⟨i + m, hin, by go_num, ?_, ⟨cnt + 1, _, es ++ [(i : Int) + (m : Int)], hown', by have := HCN.out; show cnt + 1 ≤ i + m; omega, by rw [HES.out.1]; simp [intV], by rw [HES.out.2.1]; simp, by rw [HES.out.2.2, HEF.out]; simp⟩, ?_⟩
            · have h5 := HST.out
              rw [List.drop_drop] at h5
              rw [Hid, ← HR.out, h5]
              by_cases h6 : (runCount (kwire k) (l.drop (i + m))).2 = 0 <;> simp [h6]
            · exact (HBEL.out.alloc HBEL.out.size _).grown hgrow (by simp; have := HBEL.out.size; omega) (fun q e => (HOWN.out.lt q e).1)
          case measure => simp [intOf]; omega
        · have hmm : m = if kwire k = 1 then 8 else 4 := by
            have h7 := HE.out
            unfold runSize at h7
            rw [if_neg (by rw [kwire_num k HK.out, if_neg hk9]; split <;> decide)] at h7
            by_cases h8 : (l.drop i).length < (if kwire k = 1 then 8 else 4)
            · rw [if_pos h8] at h7; cases h7
            · rw [if_neg h8] at h7; exact (congrArg Prod.fst h7).symm
          by_cases hk12 : k < 12
          · obtain rfl : m = 4 := by
              rw [hmm, kwire_num k HK.out, if_neg hk9, if_pos hk12]; rfl
            clear hmm
            go_wp2_with (at_builtin; (refine wpList_append_own _ rfl _ _ 56 rfl w.heap.size 3 i0 (.int .i64 0) 1 8 Tryz.underlying56 HZ.out.1 HZ.out.2.1 HZ.out.2.2.1 HZ.out.2.2.2 rfl (by decide) _ _ _ rfl (HOWN.out.alloc _) ⟨wr.heap.size, 0, none⟩ 1 1 [.int .i64 ((i : Int) + 4)] rfl rfl (cell_one_new _ _ _) (by simp [Value.oneCell']) (by have := HCN.out; simp only [maxLen]; omega) (by have := HCN.out; omega) (by have := HBEL.out.size; simp; omega) ?_); intro v' w1 hown' hgrow _)
            go_roundw
            case rel =>
              refine ⟨i + 4, hin, by go_num, ?_, ⟨cnt + 1, _, es ++ [(i : Int) + 4], hown', by have := HCN.out; show cnt + 1 ≤ i + 4; omega, by rw [HES.out.1]; simp [intV], by rw [HES.out.2.1]; simp, by rw [HES.out.2.2, HEF.out]; simp⟩, ?_⟩
              · have h5 := HST.out
                rw [List.drop_drop] at h5
                rw [Hid, ← HR.out, h5]
                by_cases h6 : (runCount (kwire k) (l.drop (i + 4))).2 = 0 <;> simp [h6]
              · exact (HBEL.out.alloc HBEL.out.size _).grown hgrow (by simp; have := HBEL.out.size; omega) (fun q e => (HOWN.out.lt q e).1)
            case measure => simp [intOf]; omega
          · obtain rfl : m = 8 := by
              rw [hmm, kwire_num k HK.out, if_neg hk9, if_neg hk12]; rfl
            clear hmm
            go_wp2_with (at_builtin; (refine wpList_append_own _ rfl _ _ 56 rfl w.heap.size 3 i0 (.int .i64 0) 1 8 Tryz.underlying56 HZ.out.1 HZ.out.2.1 HZ.out.2.2.1 HZ.out.2.2.2 rfl (by decide) _ _ _ rfl (HOWN.out.alloc _) ⟨wr.heap.size, 0, none⟩ 1 1 [.int .i64 ((i : Int) + 8)] rfl rfl (cell_one_new _ _ _) (by simp [Value.oneCell']) (by have := HCN.out; simp only [maxLen]; omega) (by have := HCN.out; omega) (by have := HBEL.out.size; simp; omega) ?_); intro v' w1 hown' hgrow _)
            go_roundw
            case rel =>
              refine ⟨i + 8, hin, by go_num, ?_, ⟨cnt + 1, _, es ++ [(i : Int) + 8], hown', by have := HCN.out; show cnt + 1 ≤ i + 8; omega, by rw [HES.out.1]; simp [intV], by rw [HES.out.2.1]; simp, by rw [HES.out.2.2, HEF.out]; simp⟩, ?_⟩
              · have h5 := HST.out
                rw [List.drop_drop] at h5
                rw [Hid, ← HR.out, h5]
                by_cases h6 : (runCount (kwire k) (l.drop (i + 8))).2 = 0 <;> simp [h6]
              · exact (HBEL.out.alloc HBEL.out.size _).grown hgrow (by simp; have := HBEL.out.size; omega) (fun q e => (HOWN.out.lt q e).1)
            case measure => simp [intOf]; omega
      · have HE := hid e
        have HBD := hid (runCount_bad (kwire k) (l.drop i) HNE.out c (by omega) (by rw [e]))
        obtain rfl : x = c := by rw [← HR.out, HBD.out]
        have HWR := hid hwr
        clear hwr e
        by_cases hk9 : k < 9
        · obtain ⟨wv, HVR⟩ : ∃ wv, Hid (vread (l.drop i) = (wv, 0, x)) := by
            have := HE.out
            unfold runSize at this
            rw [if_pos (by rw [kwire_num k HK.out, if_pos hk9])] at this
            injection this with e1 e2
            exact ⟨(vread (l.drop i)).1, by rw [Hid, ← e1, ← e2]⟩
          have e1 : ((x : Int) == 0) = false := by simp; omega
          have e2 : ((x : Int) != 0) = true := by simp; omega
          have HCC := hid hc
          clear hc
          go_wp2_with (go_at_call 67; refine (ref02_Read_at HWR.out _ i rfl (by rw [← HN.out]; omega)).mono ?_; rintro e w' ⟨rfl, rfl⟩; rw [HVR.out])
          go_ret2
          exact ⟨⟨_, rfl, by rw [HL.out, if_neg (by have := HCC.out; omega)]; exact World.ownsRow_nil _ _ _ _⟩, HBEL.out⟩
        · by_cases hk12 : k < 12
          · obtain ⟨rfl, hs⟩ : x = 3 ∧ n < i + 4 := by
              have h7 := HE.out
              unfold runSize at h7
              rw [if_neg (by rw [kwire_num k HK.out, if_neg hk9]; split <;> decide)] at h7
              by_cases h8 : (l.drop i).length < (if kwire k = 1 then 8 else 4)
              · rw [if_pos h8] at h7
                rw [kwire_num k HK.out, if_neg hk9, if_pos hk12, List.length_drop] at h8
                have := HN.out
                exact ⟨(congrArg Prod.snd h7).symm, by simp at h8; omega⟩
              · rw [if_neg h8] at h7; have := congrArg Prod.snd h7; simp at this; omega
            go_wp2
            go_ret2
            exact ⟨⟨_, rfl, by rw [HL.out, if_neg (by decide)]; exact World.ownsRow_nil _ _ _ _⟩, HBEL.out⟩
          · obtain ⟨rfl, hs⟩ : x = 3 ∧ n < i + 8 := by
              have h7 := HE.out
              unfold runSize at h7
              rw [if_neg (by rw [kwire_num k HK.out, if_neg hk9]; split <;> decide)] at h7
              by_cases h8 : (l.drop i).length < (if kwire k = 1 then 8 else 4)
              · rw [if_pos h8] at h7
                rw [kwire_num k HK.out, if_neg hk9, if_neg hk12, List.length_drop] at h8
                have := HN.out
                exact ⟨(congrArg Prod.snd h7).symm, by simp at h8; omega⟩
              · rw [if_neg h8] at h7; have := congrArg Prod.snd h7; simp at this; omega
            go_wp2
            go_ret2
            exact ⟨⟨_, rfl, by rw [HL.out, if_neg (by decide)]; exact World.ownsRow_nil _ _ _ _⟩, HBEL.out⟩
    · obtain rfl : i = n := by omega
      obtain rfl : x = 0 := by
        rw [← HR.out, List.drop_eq_nil_of_le (by rw [HN.out]; exact Nat.le_refl _), runCount_nil]
      have HFIN : Hid (IntsOwn wr w.heap.size u6 (endsF 0 (rpieces (kwire k) l))) := by
        have h1 := HES.out.2.2
        rw [List.drop_eq_nil_of_le (by rw [HN.out]; exact Nat.le_refl _), rpieces_nil, endsF, List.append_nil] at h1
        have h2 := HOWN.out
        rw [HES.out.1, HES.out.2.1] at h2
        rw [h1]; exact h2
      go_wp2
      go_ret2
      exact ⟨⟨_, rfl, by rw [HL.out, if_pos trivial]; exact HFIN.out⟩, HBEL.out⟩
end Go.Proofs.YtfimpmennkfjcaaGreatDoor
namespace Go.Proofs.YtfimpmennkfjcaaGreatDoor
open Go.RowKit
theorem rpieces_flat (wire : Nat) : ∀ (m : Nat) (l : List UInt8), l.length ≤ m → (runCount wire l).2 = 0 → (rpieces wire l).flatten = l
  | 0, l, h, _ => by
    obtain rfl : l = [] := List.length_eq_zero_iff.1 (by omega)
    rfl
  | m + 1, l, h, hc => by
    by_cases hl : l = []
    · subst hl; rfl
    · rcases runSize_cases wire l with ⟨n, e, h1, h2, h3⟩ | ⟨c, e, hc'⟩
      · rw [rpieces_step wire l hl n e, List.flatten_cons]
        rw [runCount_step wire l hl n e] at hc
        have h0 : (runCount wire (l.drop n)).2 = 0 := by
          by_cases h6 : (runCount wire (l.drop n)).2 = 0
          · exact h6
          · simp [h6] at hc
        rw [rpieces_flat wire m (l.drop n) (by rw [List.length_drop]; omega) h0, List.take_append_drop]
      · rw [runCount_bad wire l hl c (by omega) (by rw [e])] at hc
        simp at hc; omega
theorem endsF_get : ∀ (ps : List (List UInt8)) (i j : Nat), j < ps.length → (endsF i ps)[j]? = some ((i + (ps.take (j + 1)).flatten.length : Nat) : Int)
  | [], _, j, h => by simp at h
  | x :: r, i, 0, _ => by simp [endsF]
  | x :: r, i, j + 1, h => by
    have h2 := endsF_get r (i + x.length) j (by simpa using h)
    simp only [endsF, List.getElem?_cons_succ]
    rw [h2, List.take_succ_cons, List.flatten_cons, List.length_append, Nat.add_assoc]
theorem endsF_len : ∀ (ps : List (List UInt8)) (i : Nat), (endsF i ps).length = ps.length
  | [], _ => rfl
  | x :: r, i => by simp [endsF, endsF_len r]
theorem part_piece {ps : List (List UInt8)} {j : Nat} {x : List UInt8} (h : ps[j]? = some x) :
    (ps.take (j + 1)).flatten.length = (ps.take j).flatten.length + x.length ∧ (ps.take (j + 1)).flatten.length ≤ ps.flatten.length ∧ part ps.flatten (ps.take j).flatten.length (ps.take (j + 1)).flatten.length = x := by
  have hj := (List.getElem?_eq_some_iff.1 h).1
  have h1 : ps.take (j + 1) = ps.take j ++ [x] := by rw [List.take_add_one, h]; rfl
  have h2 : (ps.take (j + 1)).flatten.length = (ps.take j).flatten.length + x.length := by rw [h1]; simp
  have h3 : ps.flatten = (ps.take j).flatten ++ (x ++ (ps.drop (j + 1)).flatten) := by
    conv => lhs; rw [← List.take_append_drop j ps]
    rw [List.flatten_append, List.drop_eq_getElem_cons hj, List.flatten_cons]
    rw [(List.getElem?_eq_some_iff.1 h).2]
  refine ⟨h2, ?_, ?_⟩
  · rw [h2, h3]; simp
  · unfold part
    rw [h2, h3, List.drop_left, Nat.add_sub_cancel_left, List.take_left]
set_option maxRecDepth 100000 in
set_option maxHeartbeats 4000000 in
theorem ref09_Words {w : World} {v : Value} {l : List UInt8} (h : Bytes w v l) (hsm : l.length ≤ 1099511627776) (k : Int) (hk : knumber k = true) :
    Calls Tryz.prog 42 #[.int .i64 k, v] w (fun e w' => ∃ v', e = .returned (.tuple #[v', .int .i64 ((runWords k l).2 : Nat)]) ∧ WordsOwn w' w.heap.size v' (runWords k l).1 ∧ Below w.heap.size w w') := by
  have HE := hid (ref09_Ends2 h hsm k hk)
  obtain ⟨hlen, a, cap, rfl, -⟩ := h.open
  obtain ⟨x, HX⟩ : ∃ x, Hid (x = (runCount (kwire k) l).2) := ⟨_, rfl⟩
  obtain ⟨ps, HPS⟩ : ∃ ps, Hid (ps = if x = 0 then rpieces (kwire k) l else []) := ⟨_, rfl⟩
  have hFL : ps.flatten = l ∨ ps = [] := by
    rw [HPS.out]
    split
    · exact .inl (rpieces_flat _ _ _ (Nat.le_refl _) (by rw [← HX.out]; assumption))
    · exact .inr rfl
  have hps : ps.length ≤ l.length := by
    rw [HPS.out]
    split
    · exact rpieces_len _ _ _ (Nat.le_refl _)
    · simp
  obtain ⟨r1, HR1⟩ : ∃ r, Hid (r = runWords k l) := ⟨_, rfl⟩
  have hr1 : r1 = (ps.map (fun x => (kread k x).1), x) := by
    rw [HR1.out, HPS.out]
    unfold runWords kwords
    rw [← HX.out]
    by_cases h0 : x = 0
    · rw [if_pos h0, if_pos h0, h0]
    · rw [if_neg h0, if_neg h0]; rfl
  rw [← HR1.out, hr1]
  clear HR1 hr1
  have hE : (if x = 0 then endsF 0 (rpieces (kwire k) l) else []) = endsF 0 ps := by
    rw [HPS.out]; split <;> rfl
  rw [← HX.out, hE] at HE
  clear hE
  obtain ⟨n, HN⟩ : ∃ n, Hid (n = l.length) := ⟨_, rfl⟩
  have H := hid h
  have HK := hid hk
  have HFL := hid hFL
  obtain ⟨m, HM⟩ : ∃ m, Hid (m = ps.length) := ⟨_, rfl⟩
  rw [← HN.out] at hlen hsm H HE hps ⊢
  rw [← HM.out] at hps
  clear hk h hFL
  obtain ⟨Q, HQ⟩ : ∃ Q : Ending → World → Prop, Hid (Q = fun e w' => ∃ v', e = .returned (.tuple #[v', .int .i64 (x : Nat)]) ∧ WordsOwn w' w.heap.size v' (ps.map (fun x => (kread k x).1)) ∧ Below w.heap.size w w') := ⟨_, rfl⟩
  rw [← HQ.out]
  go_enter Tryz.func42, Tryz.ntmps42
  go_wp2_with (go_at_call 61; refine HE.out.mono ?_; rintro e w1 ⟨⟨o, rfl, hown⟩, hb1⟩)
  obtain ⟨oa, oc, ho⟩ := hown.form
  rw [endsF_len, ← HM.out] at ho
  subst ho
  have hEn : ∀ j x, ps[j]? = some x → ∃ b o, oa = some ⟨b, o, none⟩ ∧ w1.cell? ⟨b, o + j, none⟩ = some (.int .i64 ((ps.take (j + 1)).flatten.length : Nat)) := by
    intro j y hj
    have hj' := (List.getElem?_eq_some_iff.1 hj).1
    have hI : IntsAt w1 (.slice oa m oc) (endsF 0 ps) := hown.ints (by rw [endsF_len, ← HM.out]; omega) (by
      intro z hz
      obtain ⟨i, hi, rfl⟩ := List.getElem_of_mem hz
      have hi2 := hi
      rw [endsF_len] at hi2
      have e := endsF_get ps 0 i hi2
      rw [List.getElem?_eq_getElem hi] at e
      injection e with e
      have hle := (part_piece (List.getElem?_eq_getElem hi2)).2.1
      rcases HFL.out with hf | hf
      · rw [hf, ← HN.out] at hle
        rw [e]; constructor <;> omega
      · rw [hf] at hi2; simp at hi2)
    obtain ⟨-, a', cap', he, -, hat⟩ := hI.open
    cases he
    obtain ⟨-, b, o, ha, hc⟩ := hat j _ (endsF_get ps 0 j hj')
    exact ⟨b, o, ha, by rw [hc, Nat.zero_add]⟩
  have HEN := hid hEn
  have HB1 := hid hb1
  clear hEn hown hb1
  go_loopw [8, 9] (fun v8 v9 wr => ∃ i : Nat, v9 = .int .i64 (i : Int) ∧ i ≤ m ∧ Hid (WordsOwn wr w1.heap.size v8 ((ps.take i).map (fun x => (kread k x).1)) ∧ Below w1.heap.size w1 wr)) (fun _ v9 _ => m - (intOf v9).toNat)
  case atStart => exact ⟨0, rfl, by omega, World.ownsRow_nil _ _ _ _, Below.refl _ _⟩
  case round =>
    obtain ⟨i, rfl, hi, HI⟩ := hrel
    obtain ⟨va, vc, hvf⟩ := HI.out.1.form
    have hlen8 : ((ps.take i).map (fun x => (kread k x).1)).length = i := by rw [List.length_map, List.length_take, ← HM.out]; omega
    rw [hlen8] at hvf
    subst hvf
    have HBW : Hid (Below w.heap.size w wr) := HB1.out.trans (HI.out.2.mono HB1.out.size)
    by_cases hlt : i < m
    · obtain ⟨y, hy⟩ : ∃ y, ps[i]? = some y := ⟨_, List.getElem?_eq_getElem (by rw [← HM.out]; omega)⟩
      have hfl : ps.flatten = l := by
        rcases HFL.out with hf | hf
        · exact hf
        · rw [hf] at hy; simp at hy
      obtain ⟨hp1, hp2, hp3⟩ := part_piece hy
      rw [hfl, ← HN.out] at hp2
      rw [hfl] at hp3
      obtain ⟨b, o, ha, c1⟩ := HEN.out i y hy
      have g1 := below_keeps HI.out.2 _ _ c1
      have hix := index_run1 Tryz.underlying56 size_int ha i hlt (cap := oc)
      obtain ⟨fr, HFR⟩ : ∃ fr, Hid (fr = (ps.take i).flatten.length) := ⟨_, rfl⟩
      obtain ⟨en, HEE⟩ : ∃ en, Hid (en = (ps.take (i + 1)).flatten.length) := ⟨_, rfl⟩
      rw [← HFR.out, ← HEE.out] at hp1 hp3
      rw [← HEE.out] at hp2 g1
      have hV : Bytes wr (.slice a n cap) l := H.out.keep (below_keeps HBW.out)
      have hcap : n ≤ cap := by obtain ⟨_, _, a', c', e', h3, _⟩ := hV; cases e'; exact h3
      have hsl := slice_lh_run under_bytes size_u8 a n cap fr en (by omega) (by omega)
      have hxb := hV.sub HN.out fr en (by omega) hp2
      rw [hp3] at hxb
      have HXB := hid hxb
      obtain ⟨zw, HZW⟩ : ∃ zw, Hid (zw = kread k y) := ⟨_, rfl⟩
      obtain ⟨z1, z2⟩ := zw
      obtain ⟨v2, W2, hr2, hO2, hg2⟩ := HI.out.1.one z1 (by rw [hlen8]; omega) HI.out.2.size
      have HR2 := hid hr2
      have HO2 := hid hO2
      have HG2 := hid hg2
      have HY := hid hy
      obtain ⟨sv, HSV⟩ : ∃ sv, Hid (sliced a fr en cap 1 = sv) := ⟨_, rfl⟩
      rw [HSV.out] at hsl HXB
      have hfin : Hid (WordsOwn W2 w1.heap.size v2 ((ps.take (i + 1)).map (fun x => (kread k x).1)) ∧ Below w1.heap.size w1 W2) := by
        refine ⟨?_, ?_⟩
        · rw [List.take_add_one, HY.out, List.map_append]
          have := HO2.out
          have hz : (kread k y).1 = z1 := by rw [← HZW.out]
          simpa [hz] using this
        · exact HI.out.2.grown HG2.out HI.out.2.size (fun q e => by
            rcases World.ownsRow.lt HI.out.1 q e with ⟨h5, h6⟩
            exact h5)
      clear c1 ha hp1 hp3 hV hxb hr2 hO2 hg2 hy hfl
      by_cases hi0 : i = 0
      · have hfr : fr = 0 := by rw [HFR.out, hi0]; rfl
        subst hfr
        simp only [Int.natCast_zero] at hsl
        have hng : ¬ ((i : Int) > 0) := by omega
        clear hi0
        go_wp2_with (first | (go_at_call 44; refine (ref08_Read HK.out HXB.out).mono ?_; rintro e w' ⟨rfl, rfl⟩; rw [← HZW.out]) | (at_builtin; refine wpList_append_eq rfl _ _ _ rfl _ _ rfl rfl HR2.out ?_))
        go_roundw
        case rel => exact ⟨i + 1, by go_num, hlt, hfin⟩
        case measure => simp [intOf]; omega
      · obtain ⟨j, HJ⟩ : ∃ j, Hid (i = j + 1) := ⟨i - 1, by rw [Hid]; omega⟩
        obtain ⟨x', hx'⟩ : ∃ y, ps[j]? = some y := ⟨_, List.getElem?_eq_getElem (by have := HJ.out; rw [← HM.out]; omega)⟩
        obtain ⟨b', o', ha', c1'⟩ := HEN.out j x' hx'
        rw [← HJ.out, ← HFR.out] at c1'
        have g2 := below_keeps HI.out.2 _ _ c1'
        have hix2 := index_run1 Tryz.underlying56 size_int ha' j (show j < m by have := HJ.out; omega) (cap := oc)
        have hij : (i : Int) - 1 = j := by have := HJ.out; omega
        have hgt : ((i : Int) > 0) := by omega
        have hji : j < i := by have := HJ.out; omega
        clear hi0 ha' c1' hx'
        go_wp2_with (first | (go_at_call 44; refine (ref08_Read HK.out HXB.out).mono ?_; rintro e w' ⟨rfl, rfl⟩; rw [← HZW.out]) | (at_builtin; refine wpList_append_eq rfl _ _ _ rfl _ _ rfl rfl HR2.out ?_))
        go_roundw
        case rel => exact ⟨i + 1, by go_num, hlt, hfin⟩
        case measure => simp [intOf]; omega
    · obtain rfl : i = m := by omega
      have hfin : Hid (WordsOwn wr w.heap.size (.slice va i vc) (ps.map (fun x => (kread k x).1)) ∧ Below w.heap.size w wr) := by
        have h1 := HI.out.1
        rw [List.take_of_length_le (by rw [← HM.out]; exact Nat.le_refl _)] at h1
        exact ⟨h1.mono HB1.out.size, HBW.out⟩
      go_wp2_with fail
      rw [HQ.out]
      exact ⟨_, rfl, hfin.out⟩
end Go.Proofs.YtfimpmennkfjcaaGreatDoor
