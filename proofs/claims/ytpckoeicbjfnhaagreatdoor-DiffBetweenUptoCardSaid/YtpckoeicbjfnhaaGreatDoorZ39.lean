/- darninglaw24.DiffBetween returns true. No condition. -/
import Derived.Test.YtpckoeicbjfnhaaGreatDoorZ12
import Derived.Test.YtpckoeicbjfnhaaGreatDoorZ32
import Derived.Test.YtpckoeicbjfnhaaGreatDoorZ38
import Derived.Deep.CutRange
import Derived.BigQuiet
namespace Go.Proofs.YtpckoeicbjfnhaaGreatDoor
open Go.RowKit
theorem waysC_zero {s : List Mes} {root d : Int} {a b : List UInt8} (h : (waysC s root a b d).1 = 0) : (vcheck s root a d).2 = 0 ∧ (vcheck s root b d).2 = 0 ∧
    waysC s root a b d = (0, diffW s (d.toNat + 1) (d.toNat + 1) root (tof s d.toNat root.toNat a) (tof s d.toNat root.toNat b), !unkB (d.toNat + 1) (d.toNat + 1) (tof s d.toNat root.toNat a) (tof s d.toNat root.toNat b)) := by
  by_cases hb : bothC s root a b d = 0
  · obtain ⟨h1, h2⟩ := bothC_zero hb
    refine ⟨h1, h2, ?_⟩
    obtain ⟨g1, g2, -, g4⟩ := vcheck_ok h1
    obtain ⟨-, -, -, g5⟩ := vcheck_ok h2
    have r1 := tof_right g1 d.toNat root.toNat a (by omega) g4
    have r2 := tof_right g1 d.toNat root.toNat b (by omega) g5
    rw [show ((root.toNat : Nat) : Int) = root by omega] at r1 r2
    unfold waysC
    rw [if_neg (fun h => h hb)]
    unfold treesC
    rw [if_neg (by rw [g1]; decide), if_neg (by omega), if_neg (by rw [r1, r2]; decide)]
  · unfold waysC at h
    rw [if_pos hb] at h
    exact absurd h hb
theorem waysC_code (s : List Mes) (root : Int) (a b : List UInt8) (d : Int) : (waysC s root a b d).1 < 256 := by
  unfold waysC
  split
  · unfold bothC
    split
    · exact vcheck_code s root a d
    · exact vcheck_code s root b d
  · unfold treesC
    split
    · simp
    · split
      · simp
      · split <;> simp
theorem any_of {α : Type} {p : α → Bool} {l : List α} {x : α} (h : x ∈ l) (hp : p x = true) : l.any p = true := List.any_eq_true.2 ⟨x, h, hp⟩
/-- the plain law -/
theorem between_plain {s : List Mes} {root d : Int} {a b c : List UInt8} (h1 : (waysC s root a c d).1 = 0) (h2 : (waysC s root a b d).1 = 0) (h3 : (waysC s root b c d).1 = 0) :
    ((waysC s root a c d).2.2 = true → (waysC s root a b d).2.2 = false → (waysC s root b c d).2.2 = true) ∧
      ∀ u ∈ (waysC s root a c d).2.1, ((waysC s root a b d).2.1 ++ (waysC s root b c d).2.1).any (fun l => beginsW u l || beginsW l u) = true := by
  obtain ⟨va, vc, e1⟩ := waysC_zero h1
  obtain ⟨-, vb, e2⟩ := waysC_zero h2
  obtain ⟨-, -, e3⟩ := waysC_zero h3
  obtain ⟨g1, g2, -, g4⟩ := vcheck_ok va
  obtain ⟨-, -, -, g5⟩ := vcheck_ok vb
  obtain ⟨-, -, -, g6⟩ := vcheck_ok vc
  have r1 := tof_right g1 d.toNat root.toNat a (by omega) g4
  have r2 := tof_right g1 d.toNat root.toNat b (by omega) g5
  have r3 := tof_right g1 d.toNat root.toNat c (by omega) g6
  rw [show ((root.toNat : Nat) : Int) = root by omega] at r1 r2 r3
  rw [e1, e2, e3]
  generalize tof s d.toNat root.toNat a = x at *
  generalize tof s d.toNat root.toNat b = y at *
  generalize tof s d.toNat root.toNat c = z at *
  refine ⟨fun t1 t2 => ?_, fun u hu => ?_⟩
  · simp only [Bool.not_eq_true', Bool.not_eq_false'] at *
    cases hyz : unkB (d.toNat + 1) (d.toNat + 1) y z with
    | false => rfl
    | true => rw [unkB_trans _ _ _ _ t2 hyz] at t1; cases t1
  · obtain ⟨l, hl, hp⟩ := diff_between (numsOne g1) _ _ x y z r1 r2 r3 u hu
    refine any_of (List.mem_append.2 hl) ?_
    rw [Bool.or_eq_true, beginsW_iff, beginsW_iff]
    exact hp
set_option maxRecDepth 100000 in
set_option maxHeartbeats 16000000 in
theorem law24_DiffBetween {w : World} {vs av bv cv : Value} {s : List Mes} {x y z : List UInt8} (hS : SchemaAt w vs s) (ha : Bytes w av x) (hb : Bytes w bv y) (hc : Bytes w cv z) (root d : Int) :
    Calls Tryz.prog 4 #[vs, .int .i64 root, av, bv, cv, .int .i64 d] w fun e w' => e = .returned (.bool true) ∧ Below w.heap.size w w' := by
  have HS := hid hS
  have HA := hid ha
  have HB := hid hb
  have HC := hid hc
  obtain ⟨-, sa, sc, rfl, -⟩ := hS.open
  obtain ⟨hxl, a, ac, rfl, -⟩ := ha.open
  obtain ⟨hyl, b, bc, rfl, -⟩ := hb.open
  obtain ⟨hzl, c, cc, rfl, -⟩ := hc.open
  obtain ⟨sn, HSN⟩ : ∃ n, Hid (n = s.length) := ⟨_, rfl⟩
  obtain ⟨nx, HNX⟩ : ∃ n, Hid (n = x.length) := ⟨_, rfl⟩
  obtain ⟨ny, HNY⟩ : ∃ n, Hid (n = y.length) := ⟨_, rfl⟩
  obtain ⟨nz, HNZ⟩ : ∃ n, Hid (n = z.length) := ⟨_, rfl⟩
  rw [← HSN.out] at HS ⊢
  rw [← HNX.out] at HA hxl ⊢
  rw [← HNY.out] at HB hyl ⊢
  rw [← HNZ.out] at HC hzl ⊢
  obtain ⟨R, HR⟩ : ∃ R : Ending → World → Prop, Hid (R = fun e w' => e = .returned (.bool true) ∧ Below w.heap.size w w') := ⟨_, rfl⟩
  rw [← HR.out]
  have HTRUE : Hid (∀ w', Below w.heap.size w w' → R (.returned (.bool true)) w') := fun w' hb => by rw [HR.out]; exact ⟨rfl, hb⟩
  have HPL := hid (between_plain (s := s) (root := root) (d := d) (a := x) (b := y) (c := z))
  have HLT : Hid (x.length ≤ 1073741824 → y.length ≤ 1073741824 → z.length ≤ 1073741824 → (waysC s root x z d).2.1.length ≤ 1099511627776 ∧ (waysC s root x y d).2.1.length ≤ 1099511627776 ∧ (waysC s root y z d).2.1.length ≤ 1099511627776) := fun h1 h2 h3 =>
    ⟨(waysC_light h1 h3).1, (waysC_light h1 h2).1, (waysC_light h2 h3).1⟩
  have HCD := hid (And.intro (waysC_code s root x z d) (And.intro (waysC_code s root x y d) (waysC_code s root y z d)))
  have HW1 := hid fun (W : World) (hW : Below w.heap.size w W) (h1 : x.length ≤ 1073741824) (h2 : z.length ≤ 1073741824) => diff_Ways (HS.out.below hW) (HA.out.below hW) (HC.out.below hW) h1 h2 root d
  have HW2 := hid fun (W : World) (hW : Below w.heap.size w W) (h1 : x.length ≤ 1073741824) (h2 : y.length ≤ 1073741824) => diff_Ways (HS.out.below hW) (HA.out.below hW) (HB.out.below hW) h1 h2 root d
  have HW3 := hid fun (W : World) (hW : Below w.heap.size w W) (h1 : y.length ≤ 1073741824) (h2 : z.length ≤ 1073741824) => diff_Ways (HS.out.below hW) (HB.out.below hW) (HC.out.below hW) h1 h2 root d
  unfold TreesPost at HW1 HW2 HW3
  generalize waysC s root x z d = c1 at *
  generalize waysC s root x y d = c2 at *
  generalize waysC s root y z d = c3 at *
  obtain ⟨e1, X, t1⟩ := c1
  obtain ⟨e2, Y, t2⟩ := c2
  obtain ⟨e3, Z, t3⟩ := c3
  simp only at HPL HLT HCD HW1 HW2 HW3
  clear hS ha hb hc HR
  go_enter Tryz.func4, Tryz.ntmps4
  go_wp2_with fail
  refine (law24_alive _).mono ?_
  rintro e w1 ⟨rfl, hb1⟩
  have HB1 := hid hb1
  clear hb1
  go_wp2_with fail
  refine (law07_Few (HS.out.keep (below_keeps HB1.out))).mono ?_
  rintro e w2 ⟨⟨fw, rfl⟩, hb2⟩
  have HB2 := hid (HB1.out.trans (hb2.mono HB1.out.size))
  clear hb2
  cases fw with
  | false =>
    go_wp2_with fail
    exact HTRUE.out _ HB2.out
  | true =>
    by_cases hlong : (1500 : Int) < nx + ny + nz
    · go_wp2_with fail
      exact HTRUE.out _ HB2.out
    · have hlx : x.length ≤ 1073741824 := by have := HNX.out; omega
      have hly : y.length ≤ 1073741824 := by have := HNY.out; omega
      have hlz : z.length ≤ 1073741824 := by have := HNZ.out; omega
      have HLL := hid (And.intro hlx (And.intro hly hlz))
      have HL3 := hid (HLT.out hlx hly hlz)
      have HO1 := hid (HW1.out w2 HB2.out hlx hlz)
      clear hlx hly hlz
      go_upto_region 6 with (go_at_call 16; refine HO1.out.mono ?_; rintro e w3 ⟨v3, rfl, hN3, hb3⟩; obtain ⟨xa, xc, rfl⟩ : ∃ xa xc, v3 = .slice xa X.length xc := (by obtain ⟨-, xa, xc, h, -⟩ := hN3.here.open; exact ⟨xa, xc, h⟩); obtain ⟨xn, HXN⟩ : ∃ n, Hid (n = X.length) := ⟨_, rfl⟩; rw [← HXN.out] at hN3 ⊢; unfold maskV)
      obtain ⟨V3, HV3⟩ : ∃ W, Hid (W = w3.alloc (.cells #[.slice xa xn xc] 33)) := ⟨_, rfl⟩
      obtain ⟨P3, HP3⟩ : ∃ W, Hid (W = w3.heap.size) := ⟨_, rfl⟩
      rw [← HV3.out, ← HP3.out]
      have hb3' : Below w3.heap.size w3 V3 := by rw [HV3.out]; (repeat (first | with_reducible exact Below.refl _ _ | with_reducible refine Below.setCell ?_ (by first | omega | (simp; omega) | (simp; done)) _ | with_reducible refine Below.alloc ?_ (by first | omega | (simp; omega) | (simp; done)) _ | with_reducible refine below_drewN ?_ _ | with_reducible refine Below.drew ?_))
      have HK3 : Hid (Blk V3 P3 [.slice xa xn xc] 33) := by rw [HV3.out, HP3.out]; exact Blk.new w3 [.slice xa xn xc] _
      have HX3 := hid (hN3.here.below hb3')
      have HB3 := hid (HB2.out.trans ((hb3.trans (hb3'.mono hb3.size)).mono HB2.out.size))
      have HO2 := hid (HW2.out V3 HB3.out HLL.out.1 HLL.out.2.1)
      clear hN3 hb3 hb3' HO1
      go_upto_region 7 with (go_at_call 16; refine HO2.out.mono ?_; rintro e w4 ⟨v4, rfl, hN4, hb4⟩; obtain ⟨ya, yc, rfl⟩ : ∃ xa xc, v4 = .slice xa Y.length xc := (by obtain ⟨-, xa, xc, h, -⟩ := hN4.here.open; exact ⟨xa, xc, h⟩); obtain ⟨yn, HYN⟩ : ∃ n, Hid (n = Y.length) := ⟨_, rfl⟩; rw [← HYN.out] at hN4 ⊢; unfold maskV)
      obtain ⟨V4, HV4⟩ : ∃ W, Hid (W = w4.alloc (.cells #[.slice ya yn yc] 33)) := ⟨_, rfl⟩
      obtain ⟨P4, HP4⟩ : ∃ W, Hid (W = w4.heap.size) := ⟨_, rfl⟩
      rw [← HV4.out, ← HP4.out]
      have hb4' : Below w4.heap.size w4 V4 := by rw [HV4.out]; (repeat (first | with_reducible exact Below.refl _ _ | with_reducible refine Below.setCell ?_ (by first | omega | (simp; omega) | (simp; done)) _ | with_reducible refine Below.alloc ?_ (by first | omega | (simp; omega) | (simp; done)) _ | with_reducible refine below_drewN ?_ _ | with_reducible refine Below.drew ?_))
      have HK4 : Hid (Blk V4 P4 [.slice ya yn yc] 33) := by rw [HV4.out, HP4.out]; exact Blk.new w4 [.slice ya yn yc] _
      have HY4 := hid (hN4.here.below hb4')
      have HB34 := hid (hb4.trans (hb4'.mono hb4.size))
      have HB4 := hid (HB3.out.trans (HB34.out.mono HB3.out.size))
      have HO3 := hid (HW3.out V4 HB4.out HLL.out.2.1 HLL.out.2.2)
      clear hN4 hb4 hb4' HO2
      go_upto_region 8 with (go_at_call 16; refine HO3.out.mono ?_; rintro e w5 ⟨v5, rfl, hN5, hb5⟩; obtain ⟨za, zc, rfl⟩ : ∃ xa xc, v5 = .slice xa Z.length xc := (by obtain ⟨-, xa, xc, h, -⟩ := hN5.here.open; exact ⟨xa, xc, h⟩); obtain ⟨zn, HZN⟩ : ∃ n, Hid (n = Z.length) := ⟨_, rfl⟩; rw [← HZN.out] at hN5 ⊢; unfold maskV)
      obtain ⟨V5, HV5⟩ : ∃ W, Hid (W = w5.alloc (.cells #[.slice za zn zc] 33)) := ⟨_, rfl⟩
      obtain ⟨P5, HP5⟩ : ∃ W, Hid (W = w5.heap.size) := ⟨_, rfl⟩
      rw [← HV5.out, ← HP5.out]
      have hb5' : Below w5.heap.size w5 V5 := by rw [HV5.out]; (repeat (first | with_reducible exact Below.refl _ _ | with_reducible refine Below.setCell ?_ (by first | omega | (simp; omega) | (simp; done)) _ | with_reducible refine Below.alloc ?_ (by first | omega | (simp; omega) | (simp; done)) _ | with_reducible refine below_drewN ?_ _ | with_reducible refine Below.drew ?_))
      have HK5 : Hid (Blk V5 P5 [.slice za zn zc] 33) := by rw [HV5.out, HP5.out]; exact Blk.new w5 [.slice za zn zc] _
      have HZ5 := hid (hN5.here.below hb5')
      have HB45 := hid (hb5.trans (hb5'.mono hb5.size))
      have HB5 := hid (HB4.out.trans (HB45.out.mono HB4.out.size))
      have HX5 := hid ((HX3.out.below HB34.out).below HB45.out)
      have HY5 := hid (HY4.out.below HB45.out)
      have HK35 := hid ((HK3.out.below HB34.out).below HB45.out)
      have HK45 := hid (HK4.out.below HB45.out)
      clear hN5 hb5 hb5' HO3
      have hc1 := HCD.out.1
      have hc2 := HCD.out.2.1
      have hc3 := HCD.out.2.2
      by_cases h1 : e1 = 0
      · subst h1
        by_cases h2 : e2 = 0
        · subst h2
          by_cases h3 : e3 = 0
          · subst h3
            have HPLA := hid (HPL.out rfl rfl rfl)
            clear HPL HW1 HW2 HW3 HCD hc1 hc2 hc3 HLT
            go_upto_region 10 with fail
            go_cut [14, 17, 20, 93] from 42 to 92 (fun _ _ _ s93 wx => s93 = .bool false ∧ Hid (Below V5.heap.size V5 wx))
            case first =>
              have hpl := HPLA.out.1
              clear HPLA HX5 HY5 HZ5 HK35 HK45 HK5 HK3 HK4 HX3 HY4 HB34 HB45 HL3
              cases t1 with
              | false =>
                go_wp2_with fail
                go_meet
                exact ⟨rfl, Below.refl _ _⟩
              | true =>
                cases t2 with
                | true =>
                  go_wp2_with fail
                  go_meet
                  exact ⟨rfl, Below.refl _ _⟩
                | false =>
                  have e := hpl rfl rfl
                  subst e
                  go_wp2_with fail
                  go_meet
                  exact ⟨rfl, Below.refl _ _⟩
            case rest =>
              obtain ⟨rfl, HBC⟩ := hcut
              obtain ⟨W6, hW6⟩ : ∃ W, W = wc := ⟨wc, rfl⟩
              subst hW6
              have HB6 := hid (HB5.out.trans (HBC.out.mono HB5.out.size))
              have HX6 := hid (HX5.out.below HBC.out)
              have HY6 := hid (HY5.out.below HBC.out)
              have HZ6 := hid (HZ5.out.below HBC.out)
              have hk3 := HK35.out.below HBC.out
              have hk4 := HK45.out.below HBC.out
              have hk5 := HK5.out.below HBC.out
              have HK6 := hid hk3
              have HCAT := hid (ways_two (W := W6.drew) (HY6.out.below (Below.refl _ _).drew) (HZ6.out.below (Below.refl _ _).drew) (by have h1 := HL3.out.2.1; have h2 := HL3.out.2.2; omega))
              rw [← HYN.out, ← HZN.out] at HCAT
              obtain ⟨a7, n7, c7, w7, hr7, hb7, a8, c8, w8, hr8, hW8, hb8⟩ := HCAT.out
              obtain ⟨ln, HLN⟩ : ∃ n, Hid (n = yn + zn) := ⟨_, rfl⟩
              rw [← HLN.out] at hr8 hW8
              have HLQ : Hid (ln = (Y ++ Z).length) := by rw [Hid, HLN.out, HYN.out, HZN.out, List.length_append]
              have hq : W6.drew.cell? ⟨P4, 0, none⟩ = some (.slice ya yn yc) ∧ W6.drew.cell? ⟨P5, 0, none⟩ = some (.slice za zn zc) := ⟨hk4.cell 0 _ rfl, hk5.cell 0 _ rfl⟩
              have HQ0 := hid hq
              have HB7 := hid hb7
              have HB8 := hid hb8
              have HW8 := hid hW8
              have HPL2 := hid HPLA.out.2
              have HA6 := hid (show Below W6.heap.size W6 (W6.alloc (.cells #[] 50)).drew by (repeat (first | with_reducible exact Below.refl _ _ | with_reducible refine Below.setCell ?_ (by first | omega | (simp; omega) | (simp; done)) _ | with_reducible refine Below.alloc ?_ (by first | omega | (simp; omega) | (simp; done)) _ | with_reducible refine below_drewN ?_ _ | with_reducible refine Below.drew ?_)))
              replace hr7 : (Builtin.append_ #[31, 31] 31 #[.slice (some ⟨W6.heap.size, 0, none⟩) 0 0, .slice ya yn yc]).run Tryz.prog (W6.alloc (.cells #[] 50)).drew = .ok (.slice a7 n7 c7) w7 := hr7
              clear HPLA HX5 HY5 HZ5 HK35 HK45 HK5 HK3 HK4 HX3 HY4 HB34 HB45 HCAT hb7 hb8 hW8 hk3 hk4 hk5 HBC
              go_upto_region 12 with fail
              refine wp_region_perm (fun w' => w'.cell? ⟨P4, 0, none⟩ = some (.slice ya yn yc) ∧ w'.cell? ⟨P5, 0, none⟩ = some (.slice za zn zc)) (fun _ => True) 0 [(1, 0), (2, 0), (4, 0), (5, 0), (0, 2), (3, 2), (6, 2), (7, 0)] (by kernel_rfl) rfl rfl (by kernel_rfl) (fun _ _ dst _ _ h => by cases dst <;> exact h) hq trivial (fun OPS2 _ => ?_)
              clear hq
              simp only [List.map_cons, List.map_nil, List.filterMap_cons, List.filterMap_nil, List.getElem?_cons_succ, List.getElem?_cons_zero]
              refine seqG0 (v := ?v0) ?hy0 ?hr0
              case hy0 => (intro w hw; go_simp; all_goals rfl)
              simp only [Act.put, List.setIfInBounds_toArray, List.set_cons_zero, List.set_cons_succ]
              refine seqG0 (v := ?v1) ?hy1 ?hr1
              case hy1 => (intro w hw; go_simp; all_goals rfl)
              simp only [Act.put, List.setIfInBounds_toArray, List.set_cons_zero, List.set_cons_succ]
              refine seqG0 (v := ?v2) ?hy2 ?hr2
              case hy2 => (intro w hw; go_simp; all_goals rfl)
              simp only [Act.put, List.setIfInBounds_toArray, List.set_cons_zero, List.set_cons_succ]
              refine seqG0 (v := ?v3) ?hy3 ?hr3
              case hy3 => (intro w hw; go_simp; all_goals rfl)
              simp only [Act.put, List.setIfInBounds_toArray, List.set_cons_zero, List.set_cons_succ]
              refine seqG2 (fun K12 HK12 => ?_)
              go_wp2_with fail
              refine HK12.out _ _ (⟨below_keeps HA6.out _ _ HQ0.out.1, below_keeps HA6.out _ _ HQ0.out.2⟩) ?_
              clear HK12 K12
              intro _
              refine seqG2 (fun K12 HK12 => ?_)
              go_wp2_with (at_builtin; refine wpList_append_eq rfl _ _ _ rfl _ _ rfl rfl hr7 ?_)
              refine HK12.out _ _ (⟨below_keeps HB7.out _ _ HQ0.out.1, below_keeps HB7.out _ _ HQ0.out.2⟩) ?_
              clear HK12 K12
              intro _
              refine seqG2 (fun K12 HK12 => ?_)
              go_wp2_with (at_builtin; refine wpList_append_eq rfl _ _ _ rfl _ _ rfl rfl hr8 ?_)
              refine HK12.out _ _ (⟨below_keeps HB8.out _ _ HQ0.out.1, below_keeps HB8.out _ _ HQ0.out.2⟩) ?_
              clear HK12 K12 hr7 hr8
              intro _
              refine seqG0 (v := ?v10) ?hy10 ?hr10
              case hy10 => (intro w hw; go_simp; all_goals rfl)
              simp only [Act.put, List.setIfInBounds_toArray, List.set_cons_zero, List.set_cons_succ]
              refine seqG_end ?_
              have hb68 : Below W6.heap.size W6 w8 := (show Below W6.heap.size W6 W6.drew from (Below.refl _ _).drew).trans HB8.out
              have HB08 := hid (HB6.out.trans (hb68.mono HB6.out.size))
              have HX8 := hid (HX6.out.below hb68)
              have HK8 := hid (HK6.out.below hb68)
              clear hb68 HX6 HY6 HZ6 HK6 HB6 HB8 HB7 HA6 HQ0 HB5 HB4 HB3
              go_wp2_with fail
              go_loopw [23] (fun v23 wr => ∃ i : Nat, v23 = .int .i64 (i : Int) ∧ i ≤ xn ∧ Hid (Below w8.heap.size w8 wr)) (fun v23 _ => xn - (intOf v23).toNat)
              case atStart => exact ⟨0, rfl, by omega, Below.refl _ _⟩
              case round =>
                obtain ⟨i, rfl, hi, HI⟩ := hrel
                have hxl40 : xn ≤ 1099511627776 := by have := HL3.out.1; have := HXN.out; omega
                have hk3 := HK8.out.below HI.out
                have k0 := hk3.cell 0 _ rfl
                have kl := hk3.lt
                obtain ⟨wo, HWO⟩ : ∃ wo : World, Hid (wo = wr) := ⟨_, rfl⟩
                by_cases hlt : i < xn
                · obtain ⟨u, hu⟩ : ∃ u, X[i]? = some u := ⟨_, List.getElem?_eq_getElem (by rw [← HXN.out]; exact hlt)⟩
                  obtain ⟨-, xa', xc', e, -, hxat⟩ := HX8.out.open
                  obtain ⟨xb, xo, ua, uc, hxa, gu, hUI⟩ := hxat i u hu
                  obtain ⟨rfl, rfl⟩ : xa = xa' ∧ xc = xc' := by injection e with e1 e2 e3; exact ⟨e1, e3⟩
                  obtain ⟨un, HUN⟩ : ∃ n, Hid (n = u.length) := ⟨_, rfl⟩
                  rw [← HUN.out] at gu hUI
                  have HPU := hid (HPL2.out u (List.mem_of_getElem? hu))
                  have hixx := index_run1 Tryz.underlying31 size_ints hxa i hlt (cap := xc)
                  have HGU := hid gu
                  have HUI := hid hUI
                  have HJ0 := hid HI.out
                  clear hk3 hu hxat hxa gu hUI HI e
                  go_wp2_with fail
                  go_loopw [24, 25] (fun v24 v25 wx => ∃ (k : Nat) (ok : Bool), v25 = .int .i64 (k : Int) ∧ v24 = .bool ok ∧ k ≤ ln ∧ Hid (ok = ((Y ++ Z).take k).any (fun l => beginsW u l || beginsW l u)) ∧ Hid (Below w8.heap.size w8 wx)) (fun _ v25 _ => ln - (intOf v25).toNat)
                  case atStart => exact ⟨0, false, rfl, rfl, by omega, rfl, HJ0.out⟩
                  case round =>
                    obtain ⟨k, ok, rfl, rfl, hk, HOK, HJ⟩ := hrel
                    clear HJ0 k0 kl
                    have hln : ln ≤ 4398046511104 := by have := HLQ.out; have h1 := HL3.out.2.1; have h2 := HL3.out.2.2; rw [List.length_append] at this; omega
                    by_cases hkl : k < ln
                    · obtain ⟨l, hl⟩ : ∃ l, (Y ++ Z)[k]? = some l := ⟨_, List.getElem?_eq_getElem (by rw [← HLQ.out]; exact hkl)⟩
                      obtain ⟨-, la', lc', e, -, hlat⟩ := HW8.out.open
                      obtain ⟨lb, lo, va, vc, hla, gv, hVI⟩ := hlat k l hl
                      obtain ⟨rfl, rfl⟩ : a8 = la' ∧ c8 = lc' := by injection e with e1 e2 e3; exact ⟨e1, e3⟩
                      obtain ⟨vn, HVN⟩ : ∃ n, Hid (n = l.length) := ⟨_, rfl⟩
                      rw [← HVN.out] at gv hVI
                      have hixl := index_run1 Tryz.underlying31 size_ints hla k hkl (cap := c8)
                      have hk3 := HK8.out.below HJ.out
                      have q0 : wr.drew.cell? ⟨P3, 0, none⟩ = some (.slice xa xn xc) ∧ wr.drew.cell? ⟨xb, xo + i, none⟩ = some (.slice ua un uc) ∧ wr.drew.cell? ⟨lb, lo + k, none⟩ = some (.slice va vn vc) := ⟨hk3.cell 0 _ rfl, below_keeps HJ.out _ _ HGU.out, below_keeps HJ.out _ _ gv⟩
                      have HTK : Hid (((Y ++ Z).take (k + 1)).any (fun l => beginsW u l || beginsW l u) = (ok || (beginsW u l || beginsW l u))) := by
                        rw [Hid, List.take_add_one, hl, List.any_append, ← HOK.out]; simp
                      have HG1 := hid fun (W : World) (hW : Below w8.heap.size w8 W) => ref13_Begins (HUI.out.below hW) (hVI.below hW)
                      have HG2 := hid fun (W : World) (hW : Below w8.heap.size w8 W) => ref13_Begins (hVI.below hW) (HUI.out.below hW)
                      obtain ⟨b1, HB1⟩ : ∃ b, Hid (b = beginsW u l) := ⟨_, rfl⟩
                      obtain ⟨b2, HB2⟩ : ∃ b, Hid (b = beginsW l u) := ⟨_, rfl⟩
                      rw [← HB1.out] at HG1 HTK
                      rw [← HB2.out] at HG2 HTK
                      clear hlat hl hla hVI hk3 gv HOK e
                      cases ok with
                      | true =>
                        have HTK2 : Hid (true = ((Y ++ Z).take (k + 1)).any (fun l => beginsW u l || beginsW l u)) := by rw [HTK.out]; simp [Hid]
                        clear HTK HG1 HG2
                        go_upto_region 20 with fail
                        go_quiet (fail)
                        have HJ2 := hid (below_drewN HJ.out nq)
                        go_wp2_with fail
                        go_roundw
                        case rel => exact ⟨k + 1, true, by go_num, rfl, hkl, HTK2.out, HJ2.out⟩
                        case measure => simp [intOf]; omega
                      | false =>
                        have HG0 := hid (HG1.out wr.drew HJ.out.drew)
                        clear HG1
                        cases b1 with
                        | true =>
                          have HTK2 : Hid (true = ((Y ++ Z).take (k + 1)).any (fun l => beginsW u l || beginsW l u)) := by rw [HTK.out]; simp [Hid]
                          clear HTK HG2
                          have HQ3 := hid q0
                          go_upto_region 20 with fail
                          refine wp_region_guard (fun w' => w'.cell? ⟨P3, 0, none⟩ = some (.slice xa xn xc) ∧ w'.cell? ⟨xb, xo + i, none⟩ = some (.slice ua un uc) ∧ w'.cell? ⟨lb, lo + k, none⟩ = some (.slice va vn vc)) (fun _ => True) 11 [(0, 0, 0), (1, 0, 0), (2, 4, 115), (3, 4, 115), (4, 4, 115), (5, 4, 115), (6, 4, 115), (7, 4, 115), (8, 4, 115), (9, 4, 115), (10, 4, 115), (11, 6, 115), (12, 0, 0), (13, 0, 0), (14, 5, 127), (15, 5, 127), (16, 5, 127), (17, 5, 127), (18, 5, 127), (19, 5, 127), (20, 5, 127), (21, 5, 127), (22, 5, 127), (23, 5, 127), (24, 0, 0), (25, 0, 0)] (by kernel_rfl) rfl rfl (by kernel_rfl) (fun _ _ dst _ _ h => by cases dst <;> exact h) q0 trivial (fun OPS2 _ => ?_)
                          clear q0
                          simp only [List.map_cons, List.map_nil, List.filterMap_cons, List.filterMap_nil, List.getElem?_cons_succ, List.getElem?_cons_zero]
                          refine seqH0 (v := ?v30) ?hy30 ?hr30
                          case hy30 => (intro w hw; go_simp; all_goals rfl)
                          simp only [Act.put, List.setIfInBounds_toArray, List.set_cons_zero, List.set_cons_succ]
                          refine seqH0 (v := ?v31) ?hy31 ?hr31
                          case hy31 => (intro w hw; go_simp; all_goals rfl)
                          simp only [Act.put, List.setIfInBounds_toArray, List.set_cons_zero, List.set_cons_succ]
                          refine seqH4 (v := ?v32) ?ht32 ?hy32 ?hr32
                          case ht32 => rfl
                          case hy32 => (intro w hw; go_simp; all_goals rfl)
                          simp only [Act.put, List.setIfInBounds_toArray, List.set_cons_zero, List.set_cons_succ]
                          refine seqH4 (v := ?v33) ?ht33 ?hy33 ?hr33
                          case ht33 => rfl
                          case hy33 => (intro w hw; go_simp; all_goals rfl)
                          simp only [Act.put, List.setIfInBounds_toArray, List.set_cons_zero, List.set_cons_succ]
                          refine seqH4 (v := ?v34) ?ht34 ?hy34 ?hr34
                          case ht34 => rfl
                          case hy34 => (intro w hw; go_simp; all_goals rfl)
                          simp only [Act.put, List.setIfInBounds_toArray, List.set_cons_zero, List.set_cons_succ]
                          refine seqH4 (v := ?v35) ?ht35 ?hy35 ?hr35
                          case ht35 => rfl
                          case hy35 => (intro w hw; go_simp; all_goals rfl)
                          simp only [Act.put, List.setIfInBounds_toArray, List.set_cons_zero, List.set_cons_succ]
                          refine seqH4 (v := ?v36) ?ht36 ?hy36 ?hr36
                          case ht36 => rfl
                          case hy36 => (intro w hw; go_simp; all_goals rfl)
                          simp only [Act.put, List.setIfInBounds_toArray, List.set_cons_zero, List.set_cons_succ]
                          refine seqH4 (v := ?v37) ?ht37 ?hy37 ?hr37
                          case ht37 => rfl
                          case hy37 => (intro w hw; go_simp; all_goals rfl)
                          simp only [Act.put, List.setIfInBounds_toArray, List.set_cons_zero, List.set_cons_succ]
                          refine seqH4 (v := ?v38) ?ht38 ?hy38 ?hr38
                          case ht38 => rfl
                          case hy38 => (intro w hw; go_simp; all_goals rfl)
                          simp only [Act.put, List.setIfInBounds_toArray, List.set_cons_zero, List.set_cons_succ]
                          refine seqH4 (v := ?v39) ?ht39 ?hy39 ?hr39
                          case ht39 => rfl
                          case hy39 => (intro w hw; go_simp; all_goals rfl)
                          simp only [Act.put, List.setIfInBounds_toArray, List.set_cons_zero, List.set_cons_succ]
                          refine seqH4 (v := ?v40) ?ht40 ?hy40 ?hr40
                          case ht40 => rfl
                          case hy40 => (intro w hw; go_simp; all_goals rfl)
                          simp only [Act.put, List.setIfInBounds_toArray, List.set_cons_zero, List.set_cons_succ]
                          refine seqH6 (by rfl) (fun K12 HK12 => ?_)
                          go_wp2_with fail
                          refine HG0.out.mono ?_
                          rintro e w9 ⟨rfl, hd9⟩
                          have q1 : w9.cell? ⟨P3, 0, none⟩ = some (.slice xa xn xc) ∧ w9.cell? ⟨xb, xo + i, none⟩ = some (.slice ua un uc) ∧ w9.cell? ⟨lb, lo + k, none⟩ = some (.slice va vn vc) := ⟨below_keeps hd9.below _ _ HQ3.out.1, below_keeps hd9.below _ _ HQ3.out.2.1, below_keeps hd9.below _ _ HQ3.out.2.2⟩
                          have HJ9 := hid (HJ.out.drew.trans (hd9.below.mono HJ.out.size))
                          clear hd9 HG0
                          go_wp2_with fail
                          refine HK12.out _ _ q1 ?_
                          clear HK12 K12 q1
                          intro _
                          refine seqH0 (v := ?v50) ?hy50 ?hr50
                          case hy50 => (intro w hw; go_simp; all_goals rfl)
                          simp only [Act.put, List.setIfInBounds_toArray, List.set_cons_zero, List.set_cons_succ]
                          refine seqH0 (v := ?v51) ?hy51 ?hr51
                          case hy51 => (intro w hw; go_simp; all_goals rfl)
                          simp only [Act.put, List.setIfInBounds_toArray, List.set_cons_zero, List.set_cons_succ]
                          refine seqH5 ?ht52 ?hr52
                          case ht52 => rfl
                          simp only [Act.put, List.setIfInBounds_toArray, List.set_cons_zero, List.set_cons_succ]
                          refine seqH5 ?ht53 ?hr53
                          case ht53 => rfl
                          simp only [Act.put, List.setIfInBounds_toArray, List.set_cons_zero, List.set_cons_succ]
                          refine seqH5 ?ht54 ?hr54
                          case ht54 => rfl
                          simp only [Act.put, List.setIfInBounds_toArray, List.set_cons_zero, List.set_cons_succ]
                          refine seqH5 ?ht55 ?hr55
                          case ht55 => rfl
                          simp only [Act.put, List.setIfInBounds_toArray, List.set_cons_zero, List.set_cons_succ]
                          refine seqH5 ?ht56 ?hr56
                          case ht56 => rfl
                          simp only [Act.put, List.setIfInBounds_toArray, List.set_cons_zero, List.set_cons_succ]
                          refine seqH5 ?ht57 ?hr57
                          case ht57 => rfl
                          simp only [Act.put, List.setIfInBounds_toArray, List.set_cons_zero, List.set_cons_succ]
                          refine seqH5 ?ht58 ?hr58
                          case ht58 => rfl
                          simp only [Act.put, List.setIfInBounds_toArray, List.set_cons_zero, List.set_cons_succ]
                          refine seqH5 ?ht59 ?hr59
                          case ht59 => rfl
                          simp only [Act.put, List.setIfInBounds_toArray, List.set_cons_zero, List.set_cons_succ]
                          refine seqH5 ?ht60 ?hr60
                          case ht60 => rfl
                          simp only [Act.put, List.setIfInBounds_toArray, List.set_cons_zero, List.set_cons_succ]
                          refine seqH5 ?ht61 ?hr61
                          case ht61 => rfl
                          simp only [Act.put, List.setIfInBounds_toArray, List.set_cons_zero, List.set_cons_succ]
                          refine seqH0 (v := ?v62) ?hy62 ?hr62
                          case hy62 => (intro w hw; go_simp; all_goals rfl)
                          simp only [Act.put, List.setIfInBounds_toArray, List.set_cons_zero, List.set_cons_succ]
                          refine seqH0 (v := ?v63) ?hy63 ?hr63
                          case hy63 => (intro w hw; go_simp; all_goals rfl)
                          simp only [Act.put, List.setIfInBounds_toArray, List.set_cons_zero, List.set_cons_succ]
                          refine seqH_end ?_
                          go_wp2_with fail
                          go_roundw
                          case rel => exact ⟨k + 1, true, by go_num, rfl, hkl, HTK2.out, HJ9.out⟩
                          case measure => simp [intOf]; omega
                        | false =>
                          have HTK2 : Hid (b2 = ((Y ++ Z).take (k + 1)).any (fun l => beginsW u l || beginsW l u)) := by rw [HTK.out]; simp [Hid]
                          clear HTK
                          go_upto_region 20 with fail
                          go_region_held3 (fun w' => w'.cell? ⟨P3, 0, none⟩ = some (.slice xa xn xc) ∧ w'.cell? ⟨xb, xo + i, none⟩ = some (.slice ua un uc) ∧ w'.cell? ⟨lb, lo + k, none⟩ = some (.slice va vn vc)) (first | (with_reducible exact q0) | (with_reducible exact q1) | (with_reducible exact q2)) (first
                            | (go_at_call 17; (with_reducible refine HG0.out.mono ?_); rintro e w9 ⟨rfl, hd9⟩; have HJ9 := hid (HJ.out.drew.trans (hd9.below.mono HJ.out.size)); have q1 : w9.cell? ⟨P3, 0, none⟩ = some (.slice xa xn xc) ∧ w9.cell? ⟨xb, xo + i, none⟩ = some (.slice ua un uc) ∧ w9.cell? ⟨lb, lo + k, none⟩ = some (.slice va vn vc) := ⟨below_keeps hd9.below _ _ q0.1, below_keeps hd9.below _ _ q0.2.1, below_keeps hd9.below _ _ q0.2.2⟩; have HG3 := hid (HG2.out w9 HJ9.out))
                            | (go_at_call 17; (with_reducible refine HG3.out.mono ?_); rintro e w10 ⟨rfl, hd10⟩; have HJ10 := hid (HJ9.out.trans (hd10.below.mono HJ9.out.size)); have q2 : w10.cell? ⟨P3, 0, none⟩ = some (.slice xa xn xc) ∧ w10.cell? ⟨xb, xo + i, none⟩ = some (.slice ua un uc) ∧ w10.cell? ⟨lb, lo + k, none⟩ = some (.slice va vn vc) := ⟨below_keeps hd10.below _ _ q1.1, below_keeps hd10.below _ _ q1.2.1, below_keeps hd10.below _ _ q1.2.2⟩))
                          go_wp2_with fail
                          go_roundw
                          case rel => exact ⟨k + 1, b2, by go_num, rfl, hkl, HTK2.out, HJ10.out⟩
                          case measure => simp [intOf]; omega
                    · obtain rfl : k = ln := by omega
                      have hok : ok = true := by
                        rw [HOK.out, HLQ.out, List.take_length]
                        exact HPU.out
                      subst hok
                      clear HOK
                      go_wp2_with fail
                      go_roundw
                      case rel => exact ⟨i + 1, by go_num, hlt, HJ.out⟩
                      case measure => simp [intOf]; omega
                · obtain rfl : i = xn := by omega
                  have HF := hid (HTRUE.out wr (HB08.out.trans (HI.out.mono HB08.out.size)))
                  clear hk3 HI
                  go_wp2_with fail
                  exact HF.out
          · have i1 : ((e3 : Int) != 0) = true := by simpa using h3
            go_wp2_with fail
            exact HTRUE.out _ HB5.out
        · have i1 : ((e2 : Int) != 0) = true := by simpa using h2
          go_wp2_with fail
          exact HTRUE.out _ HB5.out
      · have i1 : ((e1 : Int) != 0) = true := by simpa using h1
        go_wp2_with fail
        exact HTRUE.out _ HB5.out
end Go.Proofs.YtpckoeicbjfnhaaGreatDoor
