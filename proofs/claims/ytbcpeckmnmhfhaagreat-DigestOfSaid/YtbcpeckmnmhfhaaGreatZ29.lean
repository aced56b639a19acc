/- darningref07.Sorted: the places of the fields by rising numbers (sortedF). At most 2^39 fields. What (*tree.pieces).value has in memory while it runs (ValSt, ValL). No condition. -/
import Derived.Test.YtbcpeckmnmhfhaaGreatZ07
import Derived.Test.YtbcpeckmnmhfhaaGreatZ09
import Derived.Test.YtbcpeckmnmhfhaaGreatZ21
import Derived.Test.YtbcpeckmnmhfhaaGreatZ26
import Derived.Test.YtbcpeckmnmhfhaaGreatZ27
import Derived.Test.YtbcpeckmnmhfhaaGreatZ28
import Derived.StillTailTactics
import Derived.BigRegion
import Derived.Deep.CutBlock
import Derived.Deep.CutRange
import Derived.Deep.RegionLaw
namespace Go.Proofs.YtbcpeckmnmhfhaaGreat
open Go.RowKit
theorem size_intq (w : World) : (sizeOf 3).run Tryz.prog w = .ok 1 w := by kernel_rfl
theorem Seg.hd1 {P : Program} {t e : TypeId} (ht : P.underlying t = some (.slice e)) (hs : ∀ w : World, (sizeOf e).run P w = .ok 1 w) {w : World} {a : Option Addr} {n cap : Nat} {xs : List Value} (h : Seg w (.slice a n cap) 1 n xs) (j : Nat) (hj : j ≤ n) :
    ∃ a' cap', (∀ W, (Instr.slice t (.slice a n cap) none (some (.int .i64 (j : Int))) none).run P W = .ok (.slice a' j cap') W) ∧ Seg w (.slice a' j cap') 1 j (xs.take j) := by
  have hcap : n ≤ cap := by obtain ⟨_, _, a', cap', hv, h3, _⟩ := h; cases hv; exact h3
  have hr := fun W => slice_h_run ht hs a n cap j (by omega) W
  have hsb := Seg.sub h 0 j (by omega) hj
  unfold sliced at hr hsb
  refine ⟨_, _, hr, ?_⟩
  simpa using hsb
theorem Seg.tl1 {P : Program} {t e : TypeId} (ht : P.underlying t = some (.slice e)) (hs : ∀ w : World, (sizeOf e).run P w = .ok 1 w) {w : World} {a : Option Addr} {n cap : Nat} {xs : List Value} (h : Seg w (.slice a n cap) 1 n xs) (i : Nat) (hi : i ≤ n) :
    ∃ a' cap', (∀ W, (Instr.slice t (.slice a n cap) (some (.int .i64 (i : Int))) none none).run P W = .ok (.slice a' (n - i) cap') W) ∧ Seg w (.slice a' (n - i) cap') 1 (n - i) (xs.drop i) := by
  have hr := fun W => slice_l_run ht hs a n cap i hi W
  have hsb := Seg.sub h i n hi (Nat.le_refl _)
  have hl := h.1
  unfold sliced at hr hsb
  refine ⟨_, _, hr, ?_⟩
  rw [List.take_of_length_le (by simp [hl])] at hsb
  simpa using hsb
theorem ints_hd {w : World} {a : Option Addr} {n cap : Nat} {l : List Int} (h : IntsAt w (.slice a n cap) l) (hn : n = l.length) (j : Nat) (hj : j ≤ n) :
    ∃ a' cap', (∀ W, (Instr.slice 45 (.slice a n cap) none (some (.int .i64 (j : Int))) none).run Tryz.prog W = .ok (.slice a' j cap') W) ∧ IntsAt w (.slice a' j cap') (l.take j) := by
  obtain ⟨h1, h2⟩ := h
  rw [← hn] at h1
  obtain ⟨a', c', hr, hs⟩ := Seg.hd1 (P := Tryz.prog) under_ints size_intq h1 j hj
  refine ⟨a', c', hr, ?_, fun x hx => h2 x (List.mem_of_mem_take hx)⟩
  rw [show (l.take j).length = j by rw [List.length_take]; omega, List.map_take]
  exact hs
theorem ints_tl {w : World} {a : Option Addr} {n cap : Nat} {l : List Int} (h : IntsAt w (.slice a n cap) l) (hn : n = l.length) (i : Nat) (hi : i ≤ n) :
    ∃ a' cap', (∀ W, (Instr.slice 45 (.slice a n cap) (some (.int .i64 (i : Int))) none none).run Tryz.prog W = .ok (.slice a' (n - i) cap') W) ∧ IntsAt w (.slice a' (n - i) cap') (l.drop i) := by
  obtain ⟨h1, h2⟩ := h
  rw [← hn] at h1
  obtain ⟨a', c', hr, hs⟩ := Seg.tl1 (P := Tryz.prog) under_ints size_intq h1 i hi
  refine ⟨a', c', hr, ?_, fun x hx => h2 x (List.mem_of_mem_drop hx)⟩
  rw [show (l.drop i).length = n - i by rw [List.length_drop]; omega, List.map_drop]
  exact hs
theorem ints_single (W : World) (y : Int) (hy : i64ok y) : IntsAt (W.alloc (.cells #[.int .i64 y] 3)) (.slice (some ⟨W.heap.size, 0, none⟩) 1 1) [y] := by
  refine ⟨⟨rfl, by simp, _, _, rfl, Nat.le_refl _, by simp, by simp, fun j u hu => ⟨_, _, rfl, ?_⟩⟩, by simpa using hy⟩
  rw [Nat.zero_add, cell_of_row _ _ _ #[.int .i64 y] _ (0, 0) (heap_alloc_new W _)]
  simpa [intV] using hu
theorem row_mono' {w : World} {base base' size n : Nat} {e : TypeId} {v : Value} {xs : List Value} (h : w.ownsRow base e size v n xs) (hb : base' ≤ base) : w.ownsRow base' e size v n xs := by
  refine ⟨h.1, ?_⟩
  rcases h.2 with h2 | ⟨g, cap, cur, hv, hg, h3⟩
  · exact .inl h2
  · exact .inr ⟨g, cap, cur, hv, by omega, h3⟩
/-- 'x := append([]int{}, out[:k]...); x = append(x, y); append(x, out[k:]...)' -/
theorem ins_chain {w : World} {base i k : Nat} {oa : Option Addr} {oc : Nat} {l : List Int} (h : IntsAt w (.slice oa i oc) l) (hi : i = l.length) (hi40 : i ≤ 549755813888) (hk : k ≤ i) (y : Int) (hy : i64ok y) (hb : base ≤ w.heap.size) :
    ∃ a5 c5 a6 c6 w6 a8 c8 w8 a9 c9 a10 c10 w10,
      (∀ W, (Instr.slice 45 (.slice oa i oc) none (some (.int .i64 (k : Int))) none).run Tryz.prog W = .ok (.slice a5 k c5) W) ∧
      (Builtin.append_ #[45, 45] 45 #[.slice (some ⟨w.heap.size, 0, none⟩) 0 0, .slice a5 k c5]).run Tryz.prog (w.alloc (.cells #[] 3)) = .ok (.slice a6 k c6) w6 ∧
      (Builtin.append_ #[45, 45] 45 #[.slice a6 k c6, .slice (some ⟨w6.heap.size, 0, none⟩) 1 1]).run Tryz.prog (w6.alloc (.cells #[.int .i64 y] 3)) = .ok (.slice a8 (k + 1) c8) w8 ∧
      (∀ W, (Instr.slice 45 (.slice oa i oc) (some (.int .i64 (k : Int))) none none).run Tryz.prog W = .ok (.slice a9 (i - k) c9) W) ∧
      (Builtin.append_ #[45, 45] 45 #[.slice a8 (k + 1) c8, .slice a9 (i - k) c9]).run Tryz.prog w8 = .ok (.slice a10 (i + 1) c10) w10 ∧
      IntsOwn w10 base (.slice a10 (i + 1) c10) (l.take k ++ y :: l.drop k) ∧ Below w.heap.size w w10 := by
  have own0 : IntsOwn (w.alloc (.cells #[] 3)) w.heap.size (.slice (some ⟨w.heap.size, 0, none⟩) 0 0) [] := World.ownsRow_made (base := w.heap.size) (e := 3) (size := 1) w #[] 0 (Nat.le_refl _) (by unfold maxLen; omega) rfl
  have hA : Below w.heap.size w (w.alloc (.cells #[] 3)) := (Below.refl _ _).alloc (Nat.le_refl _) _
  obtain ⟨a5, c5, hs5, I5⟩ := ints_hd h hi k hk
  have hl5 : (l.take k).length = k := by rw [List.length_take]; omega
  obtain ⟨v6, w6, hr6, own6, hg6, -⟩ := ints_append own0 (I5.below hA) (by rw [hl5]; simp; omega) (by simp)
  have hB6 : Below w.heap.size w w6 := hA.grown hg6 (by simp) (by intro q e; simp [Value.ownBlock] at e; omega)
  obtain ⟨a6, c6, e6⟩ := own6.form
  rw [List.nil_append, hl5] at e6
  rw [List.nil_append] at own6
  subst e6
  have hA6 : Below w6.heap.size w6 (w6.alloc (.cells #[.int .i64 y] 3)) := (Below.refl _ _).alloc (Nat.le_refl _) _
  obtain ⟨v8, w8, hr8, own8, hg8, -⟩ := ints_append (own6.later hA6) (ints_single w6 y hy) (by rw [hl5]; simp; omega) (by have := hB6.size; simp; omega)
  have hB8 : Below w.heap.size w w8 := (hB6.alloc hB6.size _).grown hg8 (by have := hB6.size; simp; omega) (fun q e => (World.ownsRow.lt own6 q e).1)
  obtain ⟨a8, c8, e8⟩ := own8.form
  rw [List.length_append, hl5] at e8
  have e8' : v8 = .slice a8 (k + 1) c8 := e8
  subst e8'
  obtain ⟨a9, c9, hs9, I9⟩ := ints_tl h hi k hk
  have hl9 : (l.drop k).length = i - k := by rw [List.length_drop]; omega
  obtain ⟨v10, w10, hr10, own10, hg10, -⟩ := ints_append own8 (I9.below hB8) (by rw [List.length_append, hl5, hl9]; simp; omega) hB8.size
  have hB10 : Below w.heap.size w w10 := hB8.grown hg10 hB8.size (fun q e => (World.ownsRow.lt own8 q e).1)
  obtain ⟨a10, c10, e10⟩ := own10.form
  have hl10 : (l.take k ++ [y] ++ l.drop k).length = i + 1 := by simp only [List.length_append, hl5, hl9, List.length_singleton]; omega
  rw [hl10] at e10
  subst e10
  refine ⟨a5, c5, a6, c6, w6, a8, c8, w8, a9, c9, a10, c10, w10, hs5, hr6, hr8, hs9, hr10, ?_, hB10⟩
  rw [List.append_assoc] at own10
  exact row_mono' own10 hb
set_option maxRecDepth 100000 in
set_option maxHeartbeats 8000000 in
theorem ref07_Sorted {w : World} {v : Value} {fs : List Fld} (nm : ByteArray) (h : FieldsAt w v fs) (hl : fs.length ≤ 549755813888) :
    Calls Tryz.prog 25 #[.agg #[.string nm, v]] w fun e w' => ∃ v', e = .returned v' ∧ IntsOwn w' w.heap.size v' (sortedF fs) ∧ Below w.heap.size w w' := by
  have HF := hid h
  obtain ⟨-, a, cap, rfl, -⟩ := h.open
  obtain ⟨n, HN⟩ : ∃ n, Hid (n = fs.length) := ⟨_, rfl⟩
  rw [← HN.out] at hl HF ⊢
  obtain ⟨w1, HW1⟩ : ∃ w1, Hid (w1 = w.alloc (.cells #[.string nm, .slice a n cap] 55)) := ⟨_, rfl⟩
  have hb1 : Below w.heap.size w w1 := by rw [HW1.out]; (repeat (first | with_reducible exact Below.refl _ _ | with_reducible refine Below.setCell ?_ (by first | omega | (simp; omega) | (simp; done)) _ | with_reducible refine Below.alloc ?_ (by first | omega | (simp; omega) | (simp; done)) _ | with_reducible refine below_drewN ?_ _ | with_reducible refine Below.drew ?_))
  have hbx : Blk w1 w.heap.size [.string nm, .slice a n cap] 55 := by rw [HW1.out]; exact Blk.new w [.string nm, .slice a n cap] _
  have HB1 := hid hb1
  have HBX := hid hbx
  have HAT : Hid (∀ k, k < n → ∃ b o, a = some ⟨b, o, none⟩ ∧ w1.cell? ⟨b, o + k * 6 + 1, none⟩ = some (.int .i64 (numAt fs (k : Int)))) := by
    obtain ⟨-, a', cap', he, hat⟩ := (HF.out.below hb1).open
    cases he
    intro k hk
    obtain ⟨b, o, ha, -, -, g1, -⟩ := hat k (by rw [← HN.out]; exact hk)
    exact ⟨b, o, ha, g1⟩
  obtain ⟨Q, HQ⟩ : ∃ Q : Ending → World → Prop, Hid (Q = fun e w' => ∃ v', e = .returned v' ∧ IntsOwn w' w.heap.size v' (sortedF fs) ∧ Below w.heap.size w w') := ⟨_, rfl⟩
  rw [← HQ.out]
  clear h hb1 hbx
  go_enter Tryz.func25, Tryz.ntmps25
  go_wp2_with fail
  rw [← HW1.out]
  go_loopw [3, 4] (fun v3 v4 wr => ∃ i : Nat, v4 = .int .i64 (i : Int) ∧ i ≤ n ∧ Hid (IntsOwn wr w.heap.size v3 (sortF fs i) ∧ Below w1.heap.size w1 wr)) (fun _ v4 _ => n - (intOf v4).toNat)
  case atStart => exact ⟨0, rfl, by omega, World.ownsRow_nil _ _ _ _, Below.refl _ _⟩
  case round =>
    obtain ⟨i, rfl, hi, HI⟩ := hrel
    obtain ⟨oa, oc, hoe⟩ := HI.out.1.form
    rw [sortF_len] at hoe
    subst hoe
    have k1 := (HBX.out.below HI.out.2).cell 1 _ rfl
    by_cases hlt : i < n
    · obtain ⟨pw, HPW⟩ : ∃ pw, Hid (pw = posF fs (i : Int) (sortF fs i)) := ⟨_, rfl⟩
      have hpw : pw ≤ i := by have := posF_le fs (i : Int) (sortF fs i); rw [sortF_len] at this; rw [HPW.out]; exact this
      have HPF := hid (posF_from fs (i : Int) (sortF fs i))
      rw [← HPW.out] at HPF
      obtain ⟨b, o, ha, g1⟩ := HAT.out i hlt
      have hix := index_run Tryz.underlying53 size_fld ha i hlt (cap := cap)
      have HG1 := hid g1
      have HA := hid ha
      have HIA : Hid (IntsAt wr (.slice oa i oc) (sortF fs i)) := HI.out.1.ints (by rw [sortF_len]; omega) (fun x hx => by
        have := upTo_mem.1 ((sortF_ok fs i).1.mem_iff.1 hx)
        constructor <;> omega)
      have HBW : Hid (Below w.heap.size w wr) := HB1.out.trans (HI.out.2.mono HB1.out.size)
      obtain ⟨wo, rfl⟩ : ∃ wo : World, wo = wr := ⟨_, rfl⟩
      clear g1 ha
      go_wp2_with fail
      go_loopw [5] (fun v5 wr => ∃ k : Nat, v5 = .int .i64 (k : Int) ∧ k ≤ pw ∧ Hid (Drew wo wr)) (fun v5 _ => pw - (intOf v5).toNat)
      case atStart => exact ⟨0, rfl, by omega, Drew.refl _⟩
      case round =>
        obtain ⟨k, rfl, hk, HD⟩ := hrel
        replace k1 := HD.out.keeps _ _ k1
        have g1 := HD.out.keeps _ _ (below_keeps HI.out.2 _ _ HG1.out)
        obtain ⟨y, HY⟩ : ∃ y, Hid (y = numAt fs (i : Int)) := ⟨_, rfl⟩
        rw [← HY.out] at g1
        by_cases hki : k < i
        · obtain ⟨u, hu⟩ : ∃ u, (sortF fs i)[k]? = some u := ⟨_, List.getElem?_eq_getElem (by rw [sortF_len]; exact hki)⟩
          have hub := upTo_mem.1 ((sortF_ok fs i).1.mem_iff.1 (List.mem_of_getElem? hu))
          obtain ⟨q, rfl⟩ : ∃ q : Nat, u = q := ⟨u.toNat, by omega⟩
          have hqn : q < n := by omega
          obtain ⟨b2, o2, ha2, g2⟩ := HAT.out q hqn
          have hix2 := index_run Tryz.underlying53 size_fld ha2 q hqn (cap := cap)
          replace g2 := HD.out.keeps _ _ (below_keeps HI.out.2 _ _ g2)
          obtain ⟨x, HX⟩ : ∃ x, Hid (x = numAt fs (q : Int)) := ⟨_, rfl⟩
          rw [← HX.out] at g2
          obtain ⟨-, oa', oc', hoe, -, hoat⟩ := HIA.out.open
          rw [sortF_len] at hoe
          cases hoe
          obtain ⟨-, b3, o3, ha3, g3⟩ := hoat k _ hu
          have hix3 := index_run1 Tryz.underlying45 size_intq ha3 k hki (cap := oc)
          replace g3 := HD.out.keeps _ _ g3
          have HU := hid hu
          clear hu hub ha2 hoat ha3
          by_cases hkp : k < pw
          · have hle : x ≤ y := by
              obtain ⟨u, hu, h1⟩ := HPF.out.1 k hkp
              rw [HU.out] at hu; cases hu
              rw [HX.out, HY.out]; exact h1
            have hd : decide (x ≤ y) = true := decide_eq_true hle
            clear hle
            go_wp2_with fail
            go_quiet (fail)
            go_wp2_with fail
            go_roundw
            case rel => exact ⟨k + 1, by go_num, hkp, HD.out.step _⟩
            case measure => simp [intOf]; omega
          · obtain rfl : k = pw := by omega
            have hd : decide (x ≤ y) = false := decide_eq_false (by have := HPF.out.2 _ HU.out; rw [HX.out, HY.out]; omega)
            clear hkp
            go_wp2_with fail
            go_quiet (fail)
            obtain ⟨w3, HW3⟩ : ∃ w3, Hid (w3 = wr.drewN nq) := ⟨_, rfl⟩
            have HD3 : Hid (Drew wo w3) := by rw [HW3.out]; exact HD.out.step _
            rw [← HW3.out]
            have hbo : Below wo.heap.size wo w3 := HD3.out.below
            obtain ⟨a5, c5, a6, c6, w6, a8, c8, w8, a9, c9, a10, c10, w10, hs5, hr6, hr8, hs9, hr10, own10, hB10⟩ := ins_chain (base := w.heap.size) (k := k) (HIA.out.below hbo) (sortF_len fs i).symm (by omega) hpw (i : Int) (by constructor <;> omega) (Nat.le_trans HBW.out.size hbo.size)
            have HREL : Hid (IntsOwn w10 w.heap.size (.slice a10 (i + 1) c10) (sortF fs (i + 1)) ∧ Below w1.heap.size w1 w10) := by
              refine ⟨?_, below_step (below_step HI.out.2 hbo HI.out.2.size) hB10 (Nat.le_trans HI.out.2.size hbo.size)⟩
              rw [sortF, insF, ← HPW.out]; exact own10
            clear hbo own10 hB10
            go_wp2_with (at_builtin; first | refine wpList_append_eq (o := ⟨some 42, _, _, _, _, _⟩) rfl _ _ _ rfl _ _ rfl rfl hr6 ?_ | refine wpList_append_eq (o := ⟨some 46, _, _, _, _, _⟩) rfl _ _ _ rfl _ _ rfl rfl hr8 ?_ | refine wpList_append_eq (o := ⟨some 51, _, _, _, _, _⟩) rfl _ _ _ rfl _ _ rfl rfl hr10 ?_)
            go_roundw
            case rel => exact ⟨i + 1, by go_num, hlt, HREL.out⟩
            case measure => simp [intOf]; omega
        · have hd1 : decide ((k : Int) < (i : Int)) = false := decide_eq_false (by omega)
          have hd2 : decide (k < i) = false := decide_eq_false hki
          obtain rfl : k = pw := by omega
          have HKI := hid hki
          clear hki
          go_wp2_with fail
          go_quiet (fail)
          obtain ⟨w3, HW3⟩ : ∃ w3, Hid (w3 = wr.drewN nq) := ⟨_, rfl⟩
          have HD3 : Hid (Drew wo w3) := by rw [HW3.out]; exact HD.out.step _
          rw [← HW3.out]
          have hbo : Below wo.heap.size wo w3 := HD3.out.below
          obtain ⟨a5, c5, a6, c6, w6, a8, c8, w8, a9, c9, a10, c10, w10, hs5, hr6, hr8, hs9, hr10, own10, hB10⟩ := ins_chain (base := w.heap.size) (k := k) (HIA.out.below hbo) (sortF_len fs i).symm (by omega) hpw (i : Int) (by constructor <;> omega) (Nat.le_trans HBW.out.size hbo.size)
          have HREL : Hid (IntsOwn w10 w.heap.size (.slice a10 (i + 1) c10) (sortF fs (i + 1)) ∧ Below w1.heap.size w1 w10) := by
            refine ⟨?_, below_step (below_step HI.out.2 hbo HI.out.2.size) hB10 (Nat.le_trans HI.out.2.size hbo.size)⟩
            rw [sortF, insF, ← HPW.out]; exact own10
          clear hbo own10 hB10
          go_wp2_with (at_builtin; first | refine wpList_append_eq (o := ⟨some 42, _, _, _, _, _⟩) rfl _ _ _ rfl _ _ rfl rfl hr6 ?_ | refine wpList_append_eq (o := ⟨some 46, _, _, _, _, _⟩) rfl _ _ _ rfl _ _ rfl rfl hr8 ?_ | refine wpList_append_eq (o := ⟨some 51, _, _, _, _, _⟩) rfl _ _ _ rfl _ _ rfl rfl hr10 ?_)
          go_roundw
          case rel => exact ⟨i + 1, by go_num, hlt, HREL.out⟩
          case measure => simp [intOf]; omega
    · obtain rfl : i = n := by omega
      go_wp2_with fail
      rw [HQ.out]
      have h1 : sortF fs i = sortedF fs := by rw [sortedF, ← HN.out]
      have h2 := HI.out.1
      rw [h1] at h2
      exact ⟨_, rfl, h2, HB1.out.trans (HI.out.2.mono HB1.out.size)⟩
end Go.Proofs.YtbcpeckmnmhfhaaGreat
namespace Go.Proofs.YtbcpeckmnmhfhaaGreat
open Go.RowKit Go.Shelf
theorem WordsOwn.tail {w : World} {base : Nat} {a : Option Addr} {n c : Nat} {ws : List Nat} (h : WordsOwn w base (.slice a n c) ws) (hn : ws.length ≤ 1099511627776) (i : Nat) (hi : i ≤ n) :
    ∃ a' c', (∀ W, (Instr.slice 46 (.slice a n c) (some (.int .i64 (i : Int))) none none).run Tryz.prog W = .ok (.slice a' (n - i) c') W) ∧ n = ws.length ∧
      ∀ w2, (∀ b, (Value.slice a n c).ownBlock = some b → w2.heap[b]? = w.heap[b]?) → Seg w2 (.slice a' (n - i) c') 1 (n - i) ((ws.map wordV).drop i) := by
  obtain ⟨_, _, e⟩ := h.form
  have hnl : n = ws.length := by cases e; rfl
  have hr := fun W => slice_l_run (P := Tryz.prog) under_words (fun w => (by kernel_rfl : (sizeOf 27).run Tryz.prog w = .ok 1 w)) a n c i hi W
  have hs : ∀ w2, (∀ b, (Value.slice a n c).ownBlock = some b → w2.heap[b]? = w.heap[b]?) → Seg w2 (sliced a i n c 1) 1 (n - i) ((ws.map wordV).drop i) := by
    intro w2 hw2
    have h2 : Seg w2 (.slice a n c) 1 n (ws.map wordV) := by
      have := row_seg (WordsOwn.keep h hw2) (by omega)
      rwa [← hnl] at this
    have hsb := Seg.sub h2 i n hi (Nat.le_refl _)
    rw [List.take_of_length_le (by simp [hnl])] at hsb
    simpa using hsb
  unfold sliced at hr hs
  exact ⟨_, _, hr, hnl, hs⟩
theorem PcsOwn.tail {n0 : Nat} {w : World} {base : Nat} {a : Option Addr} {n c : Nat} {bs : List (List UInt8)} (h : PcsOwn n0 w base (.slice a n c) bs) (hn : bs.length ≤ 1099511627776) (i : Nat) (hi : i ≤ n) :
    ∃ a' c', (∀ W, (Instr.slice 134 (.slice a n c) (some (.int .i64 (i : Int))) none none).run Tryz.prog W = .ok (.slice a' (n - i) c') W) ∧ n = bs.length ∧
      ∀ w2, (∀ b, (Value.slice a n c).ownBlock = some b → w2.heap[b]? = w.heap[b]?) → (∀ b, b < n0 → w2.heap[b]? = w.heap[b]?) → PcsAt w2 (.slice a' (n - i) c') (bs.drop i) := by
  obtain ⟨_, _, e⟩ := h.form
  have hnl : n = bs.length := by cases e; rfl
  have hr := fun W => slice_l_run (P := Tryz.prog) under_bytesl (fun w => (by kernel_rfl : (sizeOf 24).run Tryz.prog w = .ok 1 w)) a n c i hi W
  have hs : ∀ w2, (∀ b, (Value.slice a n c).ownBlock = some b → w2.heap[b]? = w.heap[b]?) → (∀ b, b < n0 → w2.heap[b]? = w.heap[b]?) → PcsAt w2 (sliced a i n c 1) (bs.drop i) := by
    intro w2 hw2 h0
    obtain ⟨vs, g1, g2, g3⟩ := (h.keep hw2 h0).at (by omega)
    rw [← hnl] at g2
    have hsb := Seg.sub g2 i n hi (Nat.le_refl _)
    rw [List.take_of_length_le (by simp; omega)] at hsb
    refine ⟨vs.drop i, by rw [List.length_drop, List.length_drop, g1], ?_, fun j u t hu ht => ?_⟩
    · rw [List.length_drop, ← hnl]; simpa using hsb
    · rw [List.getElem?_drop] at hu ht
      exact g3 _ u t hu ht
  unfold sliced at hr hs
  exact ⟨_, _, hr, hnl, hs⟩
/-- a message's call in tree.of -/
def SubCallT (w0 : World) (sv : Value) (s : List Mes) (d : Nat) (f : Fld) : Prop := ∀ (W : World) (v : Value) (b : List UInt8), Below w0.heap.size w0 W → Bytes W v b → b.length ≤ 1099511627776 → SubOk s d f.of b →
    Calls Tryz.prog 36 #[sv, .int .i64 f.of, v] W fun e w' => ∃ u1 u2 y, (u1.oneCell' = true ∧ u2.oneCell' = true) ∧ tsub s d f.of b = [y] ∧ e = .returned (.agg #[u1, u2]) ∧ Below W.heap.size W w' ∧ Apart 0 W.heap.size w' fun w2 => MsgAt d w2 (.agg #[u1, u2]) y
theorem sub_callT {w0 : World} {sv : Value} {s : List Mes} (hs : sright s = true) {d : Nat} (hrec : ∀ d', d = d' + 1 → TOfOk w0 sv s d') {m q : Nat} (hm : m < s.length) (hq : q < (s.getD m .zero).fields.length) : SubCallT w0 sv s d ((s.getD m .zero).fields.getD q .zero) := by
  rintro W v b hB hb hl ⟨d', rfl, hv⟩
  have hr := of_range hs hm hq
  obtain ⟨f, hf⟩ : ∃ f, f = (s.getD m .zero).fields.getD q .zero := ⟨_, rfl⟩
  rw [← hf] at hr hv ⊢
  obtain ⟨o, ho⟩ : ∃ o : Nat, f.of = o := ⟨f.of.toNat, by omega⟩
  rw [ho, Int.toNat_natCast] at hv
  rw [ho]
  refine (hrec d' rfl o W v b (by omega) hB hb hl hv).mono ?_
  rintro e w' ⟨v', rfl, h2, h3⟩
  obtain ⟨a1, n1, c1, a2, n2, c2, rfl⟩ := h3.here.form
  exact ⟨_, _, _, ⟨rfl, rfl⟩, rfl, rfl, h2, h3⟩
theorem PcsAt.tail {w : World} {a : Option Addr} {n c : Nat} {bs : List (List UInt8)} (h : PcsAt w (.slice a n c) bs) (i : Nat) (hi : i ≤ n) : PcsAt w (sliced a i n c 1) (bs.drop i) := by
  obtain ⟨vs, g1, g2, g3⟩ := h
  have hn : n = bs.length := by obtain ⟨-, -, a', c', e, -⟩ := g2; cases e; rfl
  rw [← hn] at g2
  have hsb := Seg.sub g2 i n hi (Nat.le_refl _)
  rw [List.take_of_length_le (by simp; omega)] at hsb
  refine ⟨vs.drop i, by rw [List.length_drop, List.length_drop, g1], ?_, fun j u t hu ht => ?_⟩
  · rw [List.length_drop, ← hn]; simpa using hsb
  · rw [List.getElem?_drop] at hu ht
    exact g3 _ u t hu ht
/-- the pieces' box while the value is made: the words s1 lie in the words' own block, the values s2 may be read while V changes -/
def ValSt (w : World) (g V : Nat) (f : Fld) (wv : Value) (ws : List Nat) (bs : List (List UInt8)) (wx : World) (s1 s2 : Value) : Prop :=
  w.grownBy wx (some g) ∧ Blk wx g (f.cells ++ [s1, s2]) 136 ∧ Blk wx V [.int .i64 f.number, noneS, noneS, noneS] 103 ∧
  (∀ w2, (∀ b, wv.ownBlock = some b → w2.heap[b]? = w.heap[b]?) → Seg w2 s1 1 ws.length (ws.map wordV)) ∧
  (∀ w2, (∀ b, b < wx.heap.size → b ≠ V → b ≠ g → w2.heap[b]? = wx.heap[b]?) → PcsAt w2 s2 bs) ∧ V < wx.heap.size ∧ g < V ∧ w.heap.size < V
/-- the words' and the values' last ones, stored -/
theorem ValSt.last {w : World} {g V : Nat} {f : Fld} {wv : Value} {ws : List Nat} {bs : List (List UInt8)} {wx : World} {a1 a2 : Option Addr} {n1 c1 n2 c2 : Nat} (h : ValSt w g V f wv ws bs wx (.slice a1 n1 c1) (.slice a2 n2 c2)) :
    ValSt w g V f wv (lastOf ws) (lastOf bs) ((wx.setCell ⟨g, 6, none⟩ (sliced a1 (n1 - 1) n1 c1 1)).setCell ⟨g, 7, none⟩ (sliced a2 (n2 - 1) n2 c2 1)) (sliced a1 (n1 - 1) n1 c1 1) (sliced a2 (n2 - 1) n2 c2 1) := by
  obtain ⟨h1, h2, h3, h4, h5, h6, h7, h8⟩ := h
  have hn1 : n1 = ws.length := by obtain ⟨-, -, a', c', e, -⟩ := h4 w (fun _ _ => rfl); cases e; rfl
  have hn2 : n2 = bs.length := by obtain ⟨vs, -, ⟨-, -, a', c', e, -⟩, -⟩ := h5 wx (fun _ _ _ _ => rfl); cases e; rfl
  have hk : ∀ b, b ≠ g → ((wx.setCell ⟨g, 6, none⟩ (sliced a1 (n1 - 1) n1 c1 1)).setCell ⟨g, 7, none⟩ (sliced a2 (n2 - 1) n2 c2 1)).heap[b]? = wx.heap[b]? := fun b hb => by
    rw [Below.heap_setCell _ _ _ b (by show b ≠ g; exact hb), Below.heap_setCell _ _ _ b (by show b ≠ g; exact hb)]
  refine ⟨grown_grown (grown_grown h1 (cell_grown _ _ _)) (cell_grown _ _ _), by simpa [Fld.cells] using (h2.set 6 (sliced a1 (n1 - 1) n1 c1 1)).set 7 (sliced a2 (n2 - 1) n2 c2 1), (hk V (by omega)).trans h3, fun w2 hw2 => ?_, fun w2 hw2 => ?_, by simpa using h6, h7, h8⟩
  · have hs := h4 w2 hw2
    rw [← hn1] at hs
    have hsb := Seg.sub hs (n1 - 1) n1 (by omega) (Nat.le_refl _)
    rw [List.take_of_length_le (by simp; omega)] at hsb
    unfold lastOf
    rw [List.length_drop, List.map_drop, ← hn1]
    simpa using hsb
  · have hs := h5 w2 fun b hb h1 h2 => (hw2 b (by simpa using hb) h1 h2).trans (hk b h2)
    unfold lastOf
    rw [← hn2]
    exact hs.tail (n2 - 1) (by omega)
theorem ValSt.joined {w : World} {g V : Nat} {f : Fld} {wv : Value} {ws : List Nat} {bs : List (List UInt8)} {W2 w3 : World} {s1 s2 v3 : Value} {j : List UInt8} (h : ValSt w g V f wv ws bs W2 s1 s2) (hO : Own w3 W2.heap.size v3 j) (hj : j.length ≤ 140737488355328) (hb : Below W2.heap.size W2 w3) :
    ∀ W6, W6 = (w3.setCell ⟨g, 7, none⟩ (.slice (some ⟨w3.heap.size, 0, none⟩) 1 1)).alloc (.cells #[v3] 24) → ValSt w g V f wv ws [j] W6 s1 (.slice (some ⟨w3.heap.size, 0, none⟩) 1 1) ∧
      ∀ b cs T, b ≠ g → b < W2.heap.size → Blk W2 b cs T → Blk W6 b cs T := by
  rintro W6 rfl
  obtain ⟨h1, h2, h3, h4, h5, h6, h7, h8⟩ := h
  have hz := hb.size
  have hsz : (w3.setCell ⟨g, 7, none⟩ (.slice (some ⟨w3.heap.size, 0, none⟩) 1 1)).heap.size = w3.heap.size := by simp
  have hk : ∀ b, b ≠ g → b < w3.heap.size → ((w3.setCell ⟨g, 7, none⟩ (.slice (some ⟨w3.heap.size, 0, none⟩) 1 1)).alloc (.cells #[v3] 24)).heap[b]? = w3.heap[b]? := fun b hb1 hb2 => by
    rw [Below.heap_alloc _ _ b (by rw [hsz]; exact hb2), Below.heap_setCell _ _ _ b (by show b ≠ g; exact hb1)]
  have hkb : ∀ b cs T, b ≠ g → b < W2.heap.size → Blk W2 b cs T → Blk ((w3.setCell ⟨g, 7, none⟩ (.slice (some ⟨w3.heap.size, 0, none⟩) 1 1)).alloc (.cells #[v3] 24)) b cs T :=
    fun b cs T g1 g2 g3 => (hk b g1 (by omega)).trans ((hb.block b g2).trans g3)
  refine ⟨⟨?_, by simpa [Fld.cells] using ((h2.below hb).set 7 (.slice (some ⟨w3.heap.size, 0, none⟩) 1 1)).alloc (.cells #[v3] 24), hkb V _ _ (by omega) h6 h3, h4, fun w2 hw2 => ?_, by simp; omega, h7, h8⟩, hkb⟩
  · refine grown_grown h1 (grown_grown (below_grown hb _) (grown_grown (cell_grown _ ⟨g, 7, none⟩ (.slice (some ⟨w3.heap.size, 0, none⟩) 1 1)) (below_grown ?_ _)))
    exact (Below.refl _ _).alloc (Nat.le_refl _) _
  · have hnew : w2.heap[w3.heap.size]? = some (.cells #[v3] 24 (0, 0)) := by
      refine (hw2 w3.heap.size (by simp) (by omega) (by omega)).trans ?_
      have := Blk.new' (w3.setCell ⟨g, 7, none⟩ (.slice (some ⟨w3.heap.size, 0, none⟩) 1 1)) [v3] 24 w3.heap.size hsz.symm
      exact this
    refine ⟨[v3], rfl, seg_blk (cs := [v3]) (T := 24) hnew 1 1 rfl (by omega), fun i u t hu ht => ?_⟩
    have hi : i = 0 := by have := (List.getElem?_eq_some_iff.1 hu).1; simp at this; omega
    subst hi
    simp at hu ht
    subst hu
    subst ht
    refine row_seg (row_keep hO fun b cur hbb he => ?_) hj
    have hlt := (Array.getElem?_eq_some_iff.1 he).1
    exact (hw2 b (by simp; omega) (by omega) (by omega)).trans (hk b (by omega) hlt)
theorem ValSt.drew {w : World} {g V : Nat} {f : Fld} {wv : Value} {ws : List Nat} {bs : List (List UInt8)} {wx : World} {s1 s2 : Value} (h : ValSt w g V f wv ws bs wx s1 s2) : ValSt w g V f wv ws bs wx.drew s1 s2 :=
  ⟨grown_grown h.1 (below_grown (Below.refl wx.heap.size wx).drew _), h.2.1, h.2.2.1, h.2.2.2.1, h.2.2.2.2.1, h.2.2.2.2.2⟩
theorem own_form' {w : World} {base : Nat} {v : Value} {l : List UInt8} (h : Own w base v l) : ∃ a n c, v = .slice a n c := by
  obtain ⟨a, c, e⟩ := own_form h; exact ⟨a, _, c, e⟩
theorem info_tmsg : (Tryz.prog.info? 63).map (fun i => (i.zero, i.size, i.bytes)) = some (some (.agg #[.slice none 0 0, .slice none 0 0]), 2, 48) := by kernel_rfl
/-- the value's box V while its values are gone through -/
def ValL (W7 : World) (V : Nat) (s : List Mes) (d : Nat) (f : Fld) (bs : List (List UInt8)) (w : World) (s1 s2 s3 : Value) : Prop :=
  W7.grownBy w (some V) ∧ Blk w V [.int .i64 f.number, s1, s2, s3] 103 ∧
  (f.kind = 17 → s2 = noneS ∧ RowsOwn (SubP d) 63 2 0 W7.heap.size w s3 (bs.flatMap (tsub s d f.of))) ∧
  (f.kind ≠ 17 → s3 = noneS ∧ StrsOwn w W7.heap.size s2 bs)
theorem grown_own {W7 w w7 : World} {V : Nat} {o : Option Nat} (h : W7.grownBy w (some V)) (hg : w.grownBy w7 o) (ho : ∀ b, o = some b → W7.heap.size ≤ b) : W7.grownBy w7 (some V) :=
  ⟨hg.os.trans h.os, hg.tape.trans h.tape, hg.output.trans h.output, Nat.le_trans h.size hg.size, fun b hb hne => (hg.block b (Nat.lt_of_lt_of_le hb h.size) (fun e => by have := ho b e.symm; omega)).trans (h.block b hb hne)⟩
theorem ValL.text_push {W7 : World} {V : Nat} {s : List Mes} {d : Nat} {f : Fld} {bs : List (List UInt8)} {w : World} {s1 s2 s3 : Value} (h : ValL W7 V s d f bs w s1 s2 s3) (hV : V < W7.heap.size) (h17 : f.kind ≠ 17) (hl : bs.length + 1 ≤ 1099511627777) (t : List UInt8) :
    ∃ a5 n5 c5 w7, (Builtin.append_ #[39, 39] 39 #[s2, .slice (some ⟨w.heap.size, 0, none⟩) 1 1]).run Tryz.prog (w.alloc (.cells #[.string ⟨t.toArray⟩] 9)) = .ok (.slice a5 n5 c5) w7 ∧ Blk w7 V [.int .i64 f.number, s1, s2, s3] 103 ∧
      ValL W7 V s d f (bs ++ [t]) (w7.setCell ⟨V, 2, none⟩ (.slice a5 n5 c5)) s1 (.slice a5 n5 c5) s3 := by
  obtain ⟨rfl, ho⟩ := h.2.2.2 h17
  obtain ⟨v', w7, hr, hO, hg⟩ := ho.one t hl h.1.size
  obtain ⟨a5, c5, rfl⟩ := hO.form
  have hown : ∀ b, s2.ownBlock = some b → W7.heap.size ≤ b := fun b e => (World.ownsRow.lt ho b e).1
  have b7 : Blk w7 V [.int .i64 f.number, s1, s2, noneS] 103 := (hg.block V h.2.1.lt (fun e => by have := hown V e.symm; omega)).trans h.2.1
  refine ⟨a5, _, c5, w7, hr, b7, grown_grown (grown_own h.1 hg hown) (cell_grown _ _ _), by simpa using b7.set 2 _, fun e => absurd e h17, fun _ => ⟨rfl, ?_⟩⟩
  exact row_keep hO fun b _ hb _ => Below.heap_setCell w7 _ _ b (by show b ≠ V; omega)
theorem ValL.sub_push {W7 : World} {V : Nat} {s : List Mes} {d : Nat} {f : Fld} {bs : List (List UInt8)} {w w1 : World} {s1 s2 : Value} {a3 : Option Addr} {n3 c3 : Nat} (h : ValL W7 V s d f bs w s1 s2 (.slice a3 n3 c3)) (hV : V < W7.heap.size) (h17 : f.kind = 17)
    (hl : bs.length ≤ 1099511627776) (hb : Below w.heap.size w w1) {u1 u2 : Value} (h1 : u1.oneCell' = true) (h2 : u2.oneCell' = true) {t : List UInt8} {y : M d} (hy : tsub s d f.of t = [y]) (hap : Apart 0 w.heap.size w1 fun w' => MsgAt d w' (.agg #[u1, u2]) y) :
    ∃ a5 c5 w5, (Builtin.append_ #[101, 101] 101 #[.slice a3 n3 c3, .slice (some ⟨w1.heap.size, 0, none⟩) 1 1]).run Tryz.prog (w1.alloc (.cells #[u1, u2] 63)) = .ok (.slice a5 (n3 + 1) c5) w5 ∧
      Below W7.heap.size w (w1.alloc (.cells #[u1, u2] 63)) ∧ Below W7.heap.size w w5 ∧
      ValL W7 V s d f (bs ++ [t]) (w5.setCell ⟨V, 3, none⟩ (.slice a5 (n3 + 1) c5)) s1 s2 (.slice a5 (n3 + 1) c5) := by
  obtain ⟨rfl, ho⟩ := h.2.2.1 h17
  have hbl : ∀ bs : List (List UInt8), (bs.flatMap (tsub s d f.of)).length ≤ bs.length := by
    intro bs
    induction bs with
    | nil => simp
    | cons c r ih =>
      have := tsub_len s d f.of c
      rw [List.flatMap_cons, List.length_append, List.length_cons]; omega
  have hbd := hbl bs
  obtain ⟨a', c', he⟩ := ho.form
  have hn3 : (bs.flatMap (tsub s d f.of)).length = n3 := by cases he; rfl
  obtain ⟨a5, c5, w5, hr5, hO5, hB4, hB5⟩ := RowsOwn.step ho hb (by decide) (Nat.zero_le _) h.1.size hn3 101 _ 48 Tryz.underlying101 info_tmsg rfl #[u1, u2] rfl (by intro u hu; simp at hu; rcases hu with rfl | rfl <;> assumption) y hap (by omega) (by decide)
  have hg5 : W7.grownBy w5 (some V) := ⟨hB5.os.trans h.1.os, hB5.tape.trans h.1.tape, hB5.output.trans h.1.output, Nat.le_trans h.1.size hB5.size, fun b hb hne => (hB5.block b hb).trans (h.1.block b hb hne)⟩
  have b5 : Blk w5 V [.int .i64 f.number, s1, noneS, .slice a3 n3 c3] 103 := (hB5.block V hV).trans h.2.1
  refine ⟨a5, c5, w5, hr5, hB4, hB5, grown_grown hg5 (cell_grown _ _ _), by simpa using b5.set 3 _, fun _ => ⟨rfl, ?_⟩, fun e => absurd h17 e⟩
  rw [List.flatMap_append, List.flatMap_cons, List.flatMap_nil, List.append_nil, hy]
  refine hO5.later (fun b _ hc => Below.heap_setCell w5 _ _ b ?_) (by simp)
  show b ≠ V
  omega
theorem ValL.start {W7 : World} {V : Nat} {s : List Mes} {d : Nat} {f : Fld} {s1 : Value} (h : Blk W7 V [.int .i64 f.number, s1, noneS, noneS] 103) : ValL W7 V s d f [] W7 s1 noneS noneS :=
  ⟨grown_refl _ _, h, fun _ => ⟨rfl, RowsOwn.nil _ _ _ _ _ _⟩, fun _ => ⟨rfl, World.ownsRow_nil _ _ _ _⟩⟩
theorem ValL.form {W7 : World} {V : Nat} {s : List Mes} {d : Nat} {f : Fld} {bs : List (List UInt8)} {w : World} {s1 s2 s3 : Value} (h : ValL W7 V s d f bs w s1 s2 s3) : ∃ a2 n2 c2 a3 n3 c3, s2 = .slice a2 n2 c2 ∧ s3 = .slice a3 n3 c3 := by
  by_cases h17 : f.kind = 17
  · obtain ⟨rfl, ho⟩ := h.2.2.1 h17
    obtain ⟨a, c, rfl⟩ := ho.form
    exact ⟨_, _, _, _, _, _, rfl, rfl⟩
  · obtain ⟨rfl, ho⟩ := h.2.2.2 h17
    obtain ⟨a, c, rfl⟩ := ho.form
    exact ⟨_, _, _, _, _, _, rfl, rfl⟩
/-- the value, read in each world that agrees on the new blocks and on the words' -/
theorem ValL.done {W7 : World} {V : Nat} {s : List Mes} {d : Nat} {f : Fld} {l : List UInt8} {xs : List VW} {w wi : World} {wv s1 s2 s3 : Value} (h : ValL W7 V s d f (pcsB f (xs.flatMap (pieceB f l))) wi s1 s2 s3) (hV : V < W7.heap.size) (hw : w.heap.size ≤ V) (hg : ∀ b, wv.ownBlock = some b → wi.heap[b]? = w.heap[b]?) (hwb : ∀ b, wv.ownBlock = some b → b < wi.heap.size)
    (hrun : ∀ x ∈ xs, x.run = true → knumber f.kind = true) (ht : ∀ x ∈ xs, Thin x) (hv : vsum xs ≤ 1099511627776) (hne : xs ≠ []) (hn : -9223372036854775808 ≤ f.number ∧ f.number ≤ 9223372036854775807)
    (hws : ∀ w2, (∀ b, wv.ownBlock = some b → w2.heap[b]? = w.heap[b]?) → Seg w2 s1 1 ((counts f xs).flatMap (pieceW f l)).length (((counts f xs).flatMap (pieceW f l)).map wordV)) :
    ∀ w2, (∀ b, b < wi.heap.size → (w.heap.size ≤ b ∧ b ≠ w.heap.size ∧ b ≠ V ∨ wv.ownBlock = some b) → w2.heap[b]? = wi.heap[b]?) → ValP' d w2 [.int .i64 f.number, s1, s2, s3] (fieldV (tsub s d) f l xs) := by
  intro w2 hw2
  have hpl := @pcsB_len f l xs ht hv
  have hW : WordsAt w2 s1 (fieldV (tsub s d) f l xs).words := by
    refine ⟨hws w2 fun b e => (hw2 b (hwb b e) (.inr e)).trans (hg b e), fun y hy => ?_⟩
    obtain ⟨x, -, hx⟩ := List.mem_flatMap.1 (show y ∈ (counts f xs).flatMap (pieceW f l) from hy)
    exact pieceW_lt hx
  have hag : ∀ b, W7.heap.size ≤ b → b < wi.heap.size → w2.heap[b]? = wi.heap[b]? := fun b h1 h2 => hw2 b h2 (.inl (by omega))
  have hnil2 : StrsAt w2 noneS [] := ⟨row_seg (World.ownsRow_nil w2 0 9 1) (Nat.zero_le _), by simp⟩
  have hnil3 : SubsAt (MsgAt d) w2 noneS [] := (RowsOwn.nil (SubP d) 63 2 0 0 w2).at (by simp) fun _ _ _ => rfl
  by_cases h17 : f.kind = 17
  · obtain ⟨rfl, ho⟩ := h.2.2.1 h17
    have htt : (fieldV (tsub s d) f l xs).texts = [] := by unfold fieldV; simp only; rw [if_pos h17]
    refine ⟨s1, noneS, s3, rfl, hn, hW, by rw [htt]; exact hnil2, ?_⟩
    rw [pcs_subs hrun h17 hne] at ho
    have hbl : (fieldV (tsub s d) f l xs).subs.length ≤ 140737488355328 := by
      rw [← pcs_subs hrun h17 hne]
      have : ∀ bs : List (List UInt8), (bs.flatMap (tsub s d f.of)).length ≤ bs.length := by
        intro bs
        induction bs with
        | nil => simp
        | cons c r ih =>
          have := tsub_len s d f.of c
          rw [List.flatMap_cons, List.length_append, List.length_cons]; omega
      have := this (pcsB f (xs.flatMap (pieceB f l)))
      omega
    exact ho.at hbl fun b h1 h2 => hag b (by omega) h1
  · obtain ⟨rfl, ho⟩ := h.2.2.2 h17
    have htt : (fieldV (tsub s d) f l xs).texts = pcsB f (xs.flatMap (pieceB f l)) := by rw [pcs_texts hrun h17]; unfold fieldV; simp only; rw [if_neg h17]
    have hss : (fieldV (tsub s d) f l xs).subs = [] := by unfold fieldV; simp only; rw [if_neg h17]
    refine ⟨s1, s2, noneS, rfl, hn, hW, ?_, by rw [hss]; exact hnil3⟩
    rw [htt]
    refine StrsOwn.strs (base := W7.heap.size) (row_keep ho fun b _ hb he => hag b hb (Array.getElem?_eq_some_iff.1 he).1) (by omega) fun t htm => ?_
    have := hpl.2.1 t htm
    omega
end Go.Proofs.YtbcpeckmnmhfhaaGreat
