/- darningref19.Has: wayHas. At most 2^30 bytes. darningref07.Named: the place of the field of a name (namedAt). No condition. darningref13.Way: the way of names (wayP). The schema is right; at most 2^40 names. -/
import Derived.Test.YtfimpmennkfjcaaGreatDoorZ09
import Derived.Test.YtfimpmennkfjcaaGreatDoorZ24
import Derived.Test.YtfimpmennkfjcaaGreatDoorZ37
import Derived.Test.YtfimpmennkfjcaaGreatDoorZ42
import Derived.Test.YtfimpmennkfjcaaGreatDoorZ43
import Derived.StillTailTactics
import Derived.Deep.RegionHeld3
import Derived.Deep.DeepCutAuto
namespace Go.Proofs.YtfimpmennkfjcaaGreatDoor
open Go.RowKit Go.Shelf
def RHasOk (w0 : World) (sv : Value) (s : List Mes) (way : List Int) : Prop := ∀ (m d : Nat) (w : World) (v wv : Value) (l : List UInt8), m < s.length → Below w0.heap.size w0 w → Bytes w v l → l.length ≤ 1073741824 → IntsAt w wv way → (∃ ns, namesW s (m : Int) way = some ns) → (vmsg s d m l).2 = 0 →
  Calls Tryz.prog 27 #[sv, .int .i64 (m : Int), v, wv] w fun e w' => e = .returned (.bool (wayHas s way m l)) ∧ Below w.heap.size w w'
set_option maxRecDepth 100000 in
set_option maxHeartbeats 8000000 in
theorem ref19_Has_step {w0 : World} {sv : Value} {s : List Mes} (hs : sright s = true) (hS0 : SchemaAt w0 sv s) (n : Int) (r : List Int) (hrec : r ≠ [] → RHasOk w0 sv s r) : RHasOk w0 sv s (n :: r) := by
  intro m d w v wv l hm hw hb hl hW hns hv
  obtain ⟨fs, HFS⟩ : ∃ fs, Hid (fs = (s.getD m .zero).fields) := ⟨_, rfl⟩
  obtain ⟨all, HALL⟩ : ∃ all, Hid (all = (vall fs l).1) := ⟨_, rfl⟩
  obtain ⟨zc, HZC⟩ : ∃ z, Hid (z = (vall fs l).2.1) := ⟨_, rfl⟩
  have hok := vall_ok hv
  rw [← HFS.out, ← HALL.out] at hok
  have hall := hok.1
  obtain ⟨C, HC⟩ : ∃ C : VW → Bool, Hid (C = fun x => decide ((x.r.number : Int) = n) && (decide (r = []) || wayHas s r (fs.getD x.k.toNat .zero).of.toNat (vbytes l x))) := ⟨_, rfl⟩
  obtain ⟨R, HR⟩ : ∃ R, Hid (R = wayHas s (n :: r) m l) := ⟨_, rfl⟩
  have HRES : Hid (R = all.any C) := by rw [Hid, HR.out, HALL.out, HC.out, HFS.out]; rfl
  rw [← HR.out]
  have HVS := hid hok.2
  have hS := hS0.below hw
  obtain ⟨-, sa, sc, rfl, hat⟩ := hS.open
  obtain ⟨sb, so, fv, hsa, -, c0, c1, hF⟩ := hat m hm
  subst hsa
  rw [← HFS.out] at hF
  obtain ⟨nm, HNM⟩ : ∃ nm, Hid (nm = (s.getD m .zero).name) := ⟨_, rfl⟩
  rw [← HNM.out] at c0
  obtain ⟨-, fa, fc, rfl, -⟩ := hF.open
  obtain ⟨-, va, vc, rfl, -⟩ := hb.open
  obtain ⟨-, wa, wc, rfl, -, hwat⟩ := hW.open
  obtain ⟨-, wb, wo, hwa, g0⟩ := hwat 0 n rfl
  subst hwa
  rw [Nat.add_zero] at g0
  obtain ⟨sn, HSN⟩ : ∃ n, Hid (n = s.length) := ⟨_, rfl⟩
  obtain ⟨fn, HFN⟩ : ∃ n, Hid (n = fs.length) := ⟨_, rfl⟩
  obtain ⟨ln, HLN⟩ : ∃ n, Hid (n = l.length) := ⟨_, rfl⟩
  obtain ⟨rn, HRN⟩ : ∃ n, Hid (n = r.length) := ⟨_, rfl⟩
  have hwl : (n :: r).length = rn + 1 := by rw [HRN.out]; rfl
  rw [hwl] at hW ⊢
  rw [← HSN.out] at hS0 hrec ⊢
  rw [← HFN.out] at hF c1
  rw [← HLN.out] at hb ⊢
  have hmn : m < sn := by rw [HSN.out]; exact hm
  have hrn : rn ≤ 140737488355328 := by have := hW.open.1; rw [hwl] at this; omega
  have HA := hid (ref10_All hb (by omega) hF nm)
  have HST := hid (And.intro hw (And.intro hb (And.intro hW (And.intro hns (And.intro hrec (And.intro hl (And.intro hF (And.intro hs (And.intro hS0 hm)))))))))
  have HCC := hid (And.intro c0 (And.intro c1 g0))
  have hixs := index_run Tryz.underlying23 size_mes rfl m hmn (a := some ⟨sb, so, none⟩) (cap := sc)
  have hgl0 := World.block_lt_of_cell? w _ c0
  clear hs hS0 hw hb hl hW hns hv hok hS hat g0 hF hwat hrec hwl HR
  go_enter Tryz.func27, Tryz.ntmps27
  go_wp2_with fail
  refine HA.out.mono ?_
  rintro e w4 ⟨av, ab, rfl, hab, hrows, hb4⟩
  rw [← HALL.out] at hrows
  rw [← HZC.out, hall]
  obtain ⟨aa, ac, rfl⟩ := hrows.form
  obtain ⟨an, HAN⟩ : ∃ an, Hid (an = all.length) := ⟨_, rfl⟩
  have hanl : an ≤ 1073741824 := by
    have h1 : all.length ≤ l.length := by rw [HALL.out]; exact vall_len fs l
    have := HAN.out
    have := HST.out.2.2.2.2.2.1
    omega
  rw [← HAN.out] at hrows ⊢
  have HROWS := hid hrows
  have HB4 := hid hb4
  clear hrows hb4 hab HA hall c0 c1 hgl0 hixs HALL HZC
  go_wp2_with fail
  go_loopw [12] (fun v12 wr => ∃ i : Nat, v12 = .int .i64 (i : Int) ∧ i ≤ an ∧ Hid (Below w4.heap.size w4 wr ∧ ∀ x ∈ all.take i, C x = false)) (fun v12 _ => an - (intOf v12).toNat)
  case atStart => exact ⟨0, rfl, by omega, Below.refl _ _, by simp⟩
  case round =>
    obtain ⟨i, rfl, hi, HJ⟩ := hrel
    by_cases hlt : i < an
    · obtain ⟨x, hx⟩ : ∃ x, all[i]? = some x := ⟨_, List.getElem?_eq_getElem (by rw [← HAN.out]; exact hlt)⟩
      obtain ⟨vb, vo, haa, hvb1, hvb2, hvc⟩ := views_at HROWS.out (by rw [← HAN.out]; omega) i x hx
      subst haa
      have hkr := below_keeps HJ.out.1
      have HBW := hid (HB4.out.trans (HJ.out.1.mono HB4.out.size))
      have n0 := hkr _ _ (hvc 0 _ rfl)
      have n3 := hkr _ _ (hvc 3 _ rfl)
      have n4 := hkr _ _ (hvc 4 _ rfl)
      have n5 := hkr _ _ (hvc 5 _ rfl)
      rw [Nat.add_zero] at n0
      have g0 := below_keeps HBW.out _ _ HCC.out.2.2
      have hvl := World.block_lt_of_cell? wr _ n0
      have hgl := World.block_lt_of_cell? wr _ g0
      have hix := index_run Tryz.underlying74 size_rvw rfl i hlt (a := some ⟨vb, vo, none⟩) (cap := ac)
      have hixw := index_0 Tryz.underlying56 size_i64 (a := some ⟨wb, wo, none⟩) rfl (show 0 < rn + 1 by omega) (cap := wc)
      have hvok := HVS.out x (List.mem_of_getElem? hx)
      have HX := hid (And.intro hx hvok)
      have HCX : Hid (C x = (decide ((x.r.number : Int) = n) && (decide (r = []) || wayHas s r (fs.getD x.k.toNat .zero).of.toNat (vbytes l x)))) := by rw [Hid, HC.out]
      have HNEXT : Hid (∀ W, Below wr.heap.size wr W → C x = false → (Below w4.heap.size w4 W ∧ ∀ x ∈ all.take (i + 1), C x = false)) := fun W hW hc => by
        refine ⟨HJ.out.1.trans (hW.mono HJ.out.1.size), fun y hy => ?_⟩
        rw [List.take_add_one, HX.out.1] at hy
        rcases List.mem_append.1 hy with hy | hy
        · exact HJ.out.2 y hy
        · simp at hy; rw [hy]; exact hc
      have HTRUE : Hid (C x = true → R = true) := fun hc => by
        rw [HRES.out, List.any_eq_true]
        exact ⟨x, List.mem_of_getElem? HX.out.1, hc⟩
      clear hkr hvc hx hvb1 hvb2
      by_cases hxn : (x.r.number : Int) = n
      · by_cases hr0 : r = []
        · have hrn0 : rn = 0 := by rw [HRN.out, hr0]; rfl
          have hc : C x = true := by rw [HCX.out, hxn, hr0]; simp
          have hRt := HTRUE.out hc
          subst hrn0
          have e1 : (((x.r.number : Nat) : Int) != n) = false := by rw [hxn]; simp
          have HE := hid HBW.out
          clear hvok hc HTRUE HNEXT HCX HRES HC
          go_upto_region 5 with fail
          go_quiet (fail)
          go_wp2_with fail
          go_quiet (fail)
          go_wp2_with fail
          go_ret
          exact ⟨by rw [hRt]; rfl, below_drewN (below_drewN HE.out _) _⟩
        · have hrn0 : rn ≠ 0 := by rw [HRN.out]; intro h; exact hr0 (List.eq_nil_of_length_eq_zero h)
          have e1 : (((x.r.number : Nat) : Int) != n) = false := by rw [hxn]; simp
          have e2 : (((rn : Int) + 1) == 1) = false := by
            rw [Bool.eq_false_iff]
            intro h
            have : (rn : Int) + 1 = 1 := by simpa using h
            omega
          obtain ⟨hw, hb, hW, ⟨ns, hns⟩, hrec, hl, hF, hs, hS0, hm⟩ := HST.out
          obtain ⟨q, d', o, hq, hql, ho, hos, hd, hv, hns'⟩ := way_field hs hm HX.out.2 hns hxn hr0
          obtain ⟨g1, g2, g3, -⟩ := HX.out.2.facts
          rw [← HFS.out] at hql ho
          obtain ⟨-, fa', fc', hfe, hfat⟩ := hF.open
          rw [← HFN.out] at hfe
          have hfa : fa = fa' := by injection hfe
          subst hfa
          obtain ⟨fb, fo, hfb, -, -, -, -, -, -, f5⟩ := hfat q hql
          subst hfb
          rw [ho] at f5
          have hqn : q < fn := by rw [HFN.out]; exact hql
          obtain ⟨ra, rc, hrs, hrW⟩ := ints_rest hW (by rw [HRN.out])
          rw [← HRN.out] at hrs hrW
          have hk := below_keeps HBW.out
          replace f5 := hk _ _ f5
          have c1 := hk _ _ HCC.out.2.1
          have hixs := index_run Tryz.underlying23 size_mes rfl m (show m < sn by rw [HSN.out]; exact hm) (a := some ⟨sb, so, none⟩) (cap := sc)
          have hixf := index_run Tryz.underlying65 size_fld rfl q hqn (a := some ⟨fb, fo, none⟩) (cap := fc)
          have hcap : ln ≤ vc := by obtain ⟨_, _, a', c', e', h3, _⟩ := hb; cases e'; exact h3
          have hsl := slice_lh_run under_bytes size_u8 va ln vc x.r.at' x.r.to g2 (by have := HLN.out; omega)
          have hxb := Bytes.sub hb HLN.out x.r.at' x.r.to g2 (by rw [HLN.out]; exact g3)
          obtain ⟨svv, HSV⟩ : ∃ sv, Hid (sliced va x.r.at' x.r.to vc 1 = sv) := ⟨_, rfl⟩
          rw [HSV.out] at hsl hxb
          obtain ⟨ya, yn, yc, rfl⟩ : ∃ a n c, svv = .slice a n c := ⟨_, _, _, HSV.out.symm⟩
          have hpl : (part l x.r.at' x.r.to).length ≤ 1073741824 := by rw [part_len l _ _ g2 g3]; omega
          have hcx : C x = wayHas s r o (vbytes l x) := by
            rw [HCX.out, hxn, hq, Int.toNat_natCast, ho, Int.toNat_natCast]
            simp [hr0]
          have hvb : vbytes l x = part l x.r.at' x.r.to := rfl
          rw [hvb] at hv hcx
          have HRC : Hid (∀ W, Below wr.heap.size wr W → Calls Tryz.prog 27 #[.slice (some ⟨sb, so, none⟩) sn sc, .int .i64 (o : Int), .slice ya yn yc, .slice ra rn rc] W fun e w' => e = .returned (.bool (C x)) ∧ Below W.heap.size W w') := by
            intro W hW'
            have hbw : Below w.heap.size w W := HBW.out.trans (hW'.mono HBW.out.size)
            rw [hcx]
            exact hrec hr0 o d' W _ _ _ hos (hw.trans (hbw.mono hw.size)) (hxb.below hbw) hpl (hrW.below hbw) hns' hv
          obtain ⟨y, HY⟩ : ∃ y, Hid (y = C x) := ⟨_, rfl⟩
          rw [← HY.out] at HRC HNEXT HTRUE
          have hq5 : x.k = (q : Int) := hq
          rw [hq5] at n5
          have hgl1 := World.block_lt_of_cell? wr _ c1
          have hgl2 := World.block_lt_of_cell? wr _ f5
          have hat1 : x.r.at' ≤ 1073741824 := by omega
          have hat2 : x.r.to ≤ 1073741824 := by omega
          generalize x.r.at' = x4 at *
          generalize x.r.to = x5 at *
          generalize x.r.number = x1 at *
          have HBWR := hid HBW.out
          clear hw hb hW hns hrec hl hF hs hS0 hm hq hql ho hos hd hv hns' g1 g3 hfe hfat hrW hk hcap hxb hpl hcx hvb hq5 hvok HCX HX HST HRES HC HVS HCC
          go_upto_region 5 with fail
          go_quiet (fail)
          go_wp2_with fail
          obtain ⟨W5, HW5⟩ : ∃ W, Hid (W = wr.drewN nq) := ⟨_, rfl⟩
          have hb5 : Below wr.heap.size wr W5 := by rw [HW5.out]; exact below_drewN (Below.refl _ _) _
          have hk := below_keeps hb5
          have m3 := hk _ _ n3
          have m4 := hk _ _ n4
          have m5 := hk _ _ n5
          have mc := hk _ _ c1
          have mf := hk _ _ f5
          have ml := World.block_lt_of_cell? W5 _ m3
          have ml1 := World.block_lt_of_cell? W5 _ mc
          have ml2 := World.block_lt_of_cell? W5 _ mf
          have HB5 := hid hb5
          rw [← HW5.out]
          clear n0 n3 n4 n5 c1 f5 g0 hvl hgl hgl1 hgl2 hk hb5
          refine wp_region_still_tail 34 (by kernel_rfl) (by kernel_rfl) ?_
          simp only [List.take_succ_cons, List.take_zero, List.drop_succ_cons, List.drop_zero]
          change wpStill _ _ W5.drew _ _ _
          refine wpStill_of_quiet _ _ ?_
          iterate 34 (go_big_quiet_step (fail))
          refine wpQuiet_nil ?_
          change wpList _ _ _ _ _ W5.drew
          go_wp2_with fail
          refine (HRC.out W5.drew HB5.out.drew).mono ?_
          rintro e w6 ⟨rfl, hb6⟩
          have HB6 := hid (HB5.out.trans (((Below.refl W5.heap.size W5).drew.trans hb6).mono HB5.out.size))
          clear hb6 m3 m4 m5 mc mf ml ml1 ml2
          cases hyy : y with
          | true =>
            have hRt := HTRUE.out hyy
            rw [hyy] at *
            go_wp2_with fail
            go_ret
            exact ⟨by rw [hRt]; rfl, HBWR.out.trans (HB6.out.mono HBWR.out.size)⟩
          | false =>
            have HN2 := hid (HNEXT.out _ HB6.out hyy)
            go_wp2_with fail
            go_roundw
            case rel => exact ⟨i + 1, by go_num, hlt, HN2.out⟩
            case measure => simp [intOf]; omega
      · have hc : C x = false := by rw [HCX.out, decide_eq_false hxn]; rfl
        have e1 : (((x.r.number : Nat) : Int) != n) = true := by simpa using hxn
        have HN2 := hid (fun k => HNEXT.out (wr.drewN k) (below_drewN (Below.refl _ _) k) hc)
        clear HCX HTRUE hvok HNEXT HRES HC hc hxn
        go_upto_region 5 with fail
        go_quiet (fail)
        go_wp2_with fail
        go_roundw
        case rel => exact ⟨i + 1, by go_num, hlt, HN2.out _⟩
        case measure => simp [intOf]; omega
    · obtain rfl : i = an := by omega
      have hRf : R = false := by
        rw [HRES.out, List.any_eq_false]
        intro x hx
        have := HJ.out.2 x (by rw [List.take_of_length_le (by rw [← HAN.out]; exact Nat.le_refl _)]; exact hx)
        rw [this]; simp
      subst hRf
      go_wp2_with fail
      go_ret
      exact ⟨rfl, HB4.out.trans (HJ.out.1.mono HB4.out.size)⟩
theorem ref19_Has {w0 : World} {sv : Value} {s : List Mes} (hs : sright s = true) (hS0 : SchemaAt w0 sv s) : ∀ (way : List Int), way ≠ [] → RHasOk w0 sv s way
  | [], h => absurd rfl h
  | n :: r, _ => ref19_Has_step hs hS0 n r fun h => ref19_Has hs hS0 r h
end Go.Proofs.YtfimpmennkfjcaaGreatDoor
namespace Go.Proofs.YtfimpmennkfjcaaGreatDoor
open Go.RowKit
set_option maxRecDepth 100000 in
set_option maxHeartbeats 4000000 in
theorem ref07_Named {w : World} {v : Value} {fs : List Fld} (h : FieldsAt w v fs) (nm t : ByteArray) :
    Calls Tryz.prog 84 #[.agg #[.string nm, v], .string t] w fun e w' => e = .returned (.int .i64 (namedAt fs t)) ∧ Below w.heap.size w w' := by
  obtain ⟨hlen, a, cap, rfl, hat⟩ := h.open
  obtain ⟨n, HN⟩ : ∃ n, Hid (n = fs.length) := ⟨_, rfl⟩
  rw [← HN.out] at hat hlen ⊢
  have HAT := hid hat
  clear hat
  go_enter Tryz.func84, Tryz.ntmps84
  go_wp2
  go_loop [5] (fun v5 => ∃ k : Nat, k ≤ n ∧ v5 = .int .i64 k ∧ Hid (firstAt (fun f => decide (f.name = t)) (fs.drop k) k = namedAt fs t)) (fun v5 => n - (intOf v5).toNat)
  case atStart => exact ⟨0, by omega, rfl, hid rfl⟩
  case round =>
    obtain ⟨k, hk, rfl, HK⟩ := hrel
    by_cases hlt : k < n
    · have hat := HAT.out
      obtain ⟨b, o, ha, -, g0, -, -, -, -, -⟩ := hat k hlt
      clear hat
      have hbl : b < w.heap.size := World.block_lt_of_cell? w _ g0
      have hix := index_run Tryz.underlying65 size_fld ha k hlt (cap := cap)
      have HA := hid ha
      have hst := hid (firstAt_at (fun f => decide (f.name = t)) fs k (by rw [← HN.out]; exact hlt))
      obtain ⟨y, HY⟩ : ∃ y, Hid (y = (fs.getD k .zero).name) := ⟨_, rfl⟩
      rw [← HY.out] at g0
      clear ha
      by_cases hxy : y = t
      · have hb : (y.toList == t.toList) = true := by simpa using congrArg ByteArray.toList hxy
        have hb2 : decide (y.toList = t.toList) = true := decide_eq_true (congrArg ByteArray.toList hxy)
        have hb3 : decide (y = t) = true := decide_eq_true hxy
        have HE := hid hxy
        clear hxy
        go_wp2
        go_ret
        have e : namedAt fs t = k := by rw [← HK.out, hst.out, if_pos (show decide ((fs.getD k .zero).name = t) = true from decide_eq_true (by rw [← HY.out]; exact HE.out))]
        exact ⟨by rw [e]; rfl, by (repeat (first | with_reducible exact Below.refl _ _ | with_reducible refine Below.setCell ?_ (by first | omega | (simp; omega) | (simp; done)) _ | with_reducible refine Below.alloc ?_ (by first | omega | (simp; omega) | (simp; done)) _ | with_reducible refine below_drewN ?_ _ | with_reducible refine Below.drew ?_))⟩
      · have hne : y.toList ≠ t.toList := fun e => hxy ((toList_inj _ _).1 e)
        have hb : (y.toList == t.toList) = false := by simpa using hne
        have hb2 : decide (y.toList = t.toList) = false := decide_eq_false hne
        have hb3 : decide (y = t) = false := decide_eq_false hxy
        have HE := hid hxy
        clear hxy hne
        go_wp2
        go_round
        case rel => exact ⟨k + 1, by omega, by go_num, by rw [← HK.out, hst.out, if_neg (show ¬ decide ((fs.getD k .zero).name = t) = true from fun e => HE.out (by rw [HY.out]; exact of_decide_eq_true e))]; exact hid rfl⟩
        case measure => simp [intOf]; omega
    · go_wp2
      go_ret
      have e : namedAt fs t = -1 := by
        rw [← HK.out, List.drop_of_length_le (by rw [← HN.out]; omega)]; rfl
      exact ⟨by rw [e]; rfl, by (repeat (first | with_reducible exact Below.refl _ _ | with_reducible refine Below.setCell ?_ (by first | omega | (simp; omega) | (simp; done)) _ | with_reducible refine Below.alloc ?_ (by first | omega | (simp; omega) | (simp; done)) _ | with_reducible refine below_drewN ?_ _ | with_reducible refine Below.drew ?_))⟩
end Go.Proofs.YtfimpmennkfjcaaGreatDoor
namespace Go.Proofs.YtfimpmennkfjcaaGreatDoor
open Go.RowKit
theorem ints_lit (W : World) (y : Int) (base : Nat) (hb : base ≤ W.heap.size) : IntsOwn (W.alloc (.cells #[.int .i64 y] 3)) base (.slice (some ⟨W.heap.size, 0, none⟩) 1 1) [y] :=
  ⟨by simp, .inr ⟨W.heap.size, 1, #[.int .i64 y], rfl, hb, heap_alloc_new W _, Nat.le_refl _, by unfold maxLen; omega, by simp, rfl⟩⟩
theorem size_strp1 (w : World) : (sizeOf 9).run Tryz.prog w = .ok 1 w := by kernel_rfl
theorem strs_tail {w : World} {a : Option Addr} {n cap : Nat} {t : List UInt8} {r : List (List UInt8)} (h : StrsAt w (.slice a n cap) (t :: r)) (hn : n = r.length + 1) :
    ∃ a' cap', (∀ W, (Instr.slice 25 (.slice a n cap) (some (.int .i64 1)) none none).run Tryz.prog W = .ok (.slice a' (n - 1) cap') W) ∧ StrsAt w (.slice a' (n - 1) cap') r := by
  obtain ⟨h1, h2⟩ := h
  rw [show (t :: r).length = n by simp [hn]] at h1
  obtain ⟨a', cap', hr, hs⟩ := Seg.l1 (P := Tryz.prog) Tryz.underlying25 size_strp1 h1 1 (by omega)
  refine ⟨a', cap', hr, ?_, fun x hx => h2 x (by simp [hx])⟩
  rw [show r.length = n - 1 by omega]
  simpa using hs
/-- the field of a name, in a right schema: where it lies -/
theorem fieldNamed_eq (s : List Mes) (root : Nat) (t : List UInt8) (k : Int) (hk : k = namedAt (s.getD root .zero).fields ⟨t.toArray⟩) :
    fieldNamed s root t = if 0 ≤ k then some ((s.getD root .zero).fields.getD k.toNat .zero) else none := by
  subst hk
  rw [fieldNamed, Int.toNat_natCast]
set_option maxRecDepth 100000 in
set_option maxHeartbeats 8000000 in
theorem way_step {s : List Mes} (hs : sright s = true) (r : List (List UInt8)) (t : List UInt8) {w : World} {sv nv : Value} (hS : SchemaAt w sv s) (hN : StrsAt w nv (t :: r)) (hl : r.length ≤ 1099511627776) (root : Nat) (hroot : root < s.length)
    (hi : ∀ t2 r2, r = t2 :: r2 → ∀ (W : World) (v : Value) (q : Nat), SchemaAt W sv s → StrsAt W v r → q < s.length → Calls Tryz.prog 55 #[sv, .int .i64 (q : Int), v] W (LeadPost W (wayP s r q))) :
    Calls Tryz.prog 55 #[sv, .int .i64 (root : Int), nv] w (LeadPost w (wayP s (t :: r) root)) := by
  have HS := hid hS
  have HSR := hid hs
  have HIH := hid hi
  have HNN := hid hN
  obtain ⟨hm, sa, sc, rfl, hsat⟩ := hS.open
  obtain ⟨m, HM⟩ : ∃ m, Hid (m = s.length) := ⟨_, rfl⟩
  rw [← HM.out] at hm HS HIH hroot hsat ⊢
  obtain ⟨-, na, nc, rfl, -, hnat⟩ := hN.open
  obtain ⟨n, HN⟩ : ∃ n, Hid (n = r.length + 1) := ⟨_, rfl⟩
  have hn1 : (t :: r).length = n := HN.out.symm
  rw [hn1] at HNN ⊢
  have hln : n ≤ 1099511627777 := by rw [HN.out]; omega
  have hn0 : 0 < n := by rw [HN.out]; omega
  obtain ⟨htl, b, o, ha, g0⟩ := hnat 0 t rfl
  have hix := index_0 Tryz.underlying25 size_strp1 ha hn0 (cap := nc)
  rw [Nat.add_zero] at g0
  unfold strV at g0
  obtain ⟨TT, HTT⟩ : ∃ TT, Hid (TT = (⟨t.toArray⟩ : ByteArray)) := ⟨_, rfl⟩
  rw [← HTT.out] at g0
  obtain ⟨b2, o2, fv, ha2, hnl, g1, g2, hF⟩ := hsat root hroot
  have hix2 := index_run Tryz.underlying23 size_mes ha2 root hroot (cap := sc)
  obtain ⟨fs, HFS⟩ : ∃ fs, Hid (fs = (s.getD root .zero).fields) := ⟨_, rfl⟩
  rw [← HFS.out] at hF
  obtain ⟨nm, HNM⟩ : ∃ nm, Hid (nm = (s.getD root .zero).name) := ⟨_, rfl⟩
  rw [← HNM.out] at g1
  have HNA := hid (ref07_Named (hF.keep (w' := w.drew) fun _ _ h => h) nm TT)
  obtain ⟨hfl, fa, fc, rfl, hfat⟩ := hF.open
  obtain ⟨fn, HFN⟩ : ∃ fn, Hid (fn = fs.length) := ⟨_, rfl⟩
  rw [← HFN.out] at hfl hfat g2 HNA
  obtain ⟨kx, HKX⟩ : ∃ kx, Hid (kx = namedAt fs TT) := ⟨_, rfl⟩
  rw [← HKX.out] at HNA
  have HFNM : Hid (fieldNamed s (root : Int) t = if 0 ≤ kx then some (fs.getD kx.toNat .zero) else none) := by
    rw [Hid, fieldNamed_eq s root t kx (by rw [← HFS.out, ← HTT.out]; exact HKX.out), ← HFS.out]
  obtain ⟨Q, HQ⟩ : ∃ Q : Ending → World → Prop, Hid (Q = LeadPost w (wayP s (t :: r) root)) := ⟨_, rfl⟩
  rw [← HQ.out]
  have HBAD : Hid (∀ w', Below w.heap.size w w' → wayP s (t :: r) root = none → Q (.returned (.tuple #[.slice none 0 0, .bool false])) w') := by
    intro w' hb h
    rw [HQ.out, h]
    exact ⟨_, rfl, World.ownsRow_nil _ _ _ _, hb⟩
  have HGOOD : Hid (∀ w' v l, Below w.heap.size w w' → wayP s (t :: r) root = some l → IntsOwn w' w.heap.size v l → Q (.returned (.tuple #[v, .bool true])) w') := by
    intro w' v l hb h ho
    rw [HQ.out, h]
    exact ⟨_, rfl, ho, hb⟩
  have HFAT := hid hfat
  have HG := hid (And.intro g1 g2)
  clear hS hs hi hN hsat hnat ha ha2 hnl hF hfat htl hn1 hl
  go_enter Tryz.func55, Tryz.ntmps55
  go_wp2_with fail
  go_still_tail 7, (by kernel_rfl)
  change wpList _ _ _ _ _ w.drew
  go_wp2_with fail
  refine HNA.out.mono ?_
  rintro e w1 ⟨rfl, hb1'⟩
  have hb1 : Below w.heap.size w w1 := (Below.refl w.heap.size w).drew.trans hb1'
  have HB1 := hid hb1
  have hkp := below_keeps hb1
  replace g1 := hkp _ _ g1
  replace g2 := hkp _ _ g2
  clear hb1 hb1' g0
  by_cases hk0 : 0 ≤ kx
  · obtain ⟨kk, hkk, hkf⟩ : ∃ kk : Nat, kx = kk ∧ kk < fn := by
      rcases firstAt_bd (fun f : Fld => decide (f.name = TT)) fs 0 with h | ⟨j, h, h1, h2⟩
      · have := HKX.out; unfold namedAt at this; omega
      · exact ⟨j, by have := HKX.out; unfold namedAt at this; omega, by rw [HFN.out]; omega⟩
    subst hkk
    rw [if_pos hk0, Int.toNat_natCast] at HFNM
    obtain ⟨b3, o3, ha3, hok, f0, f1, f2, f3, f4, f5⟩ := HFAT.out kk hkf
    have hix3 := index_run Tryz.underlying65 size_fld ha3 kk hkf (cap := fc)
    obtain ⟨f, HF⟩ : ∃ f, Hid (f = fs.getD kk .zero) := ⟨_, rfl⟩
    rw [← HF.out] at hok f0 f1 f2 f3 f4 f5 HFNM
    have HFMEM : Hid (f ∈ (s.getD root .zero).fields) := by
      rw [Hid, ← HFS.out, HF.out]
      have : kk < fs.length := by rw [← HFN.out]; exact hkf
      rw [List.getD_eq_getElem?_getD, List.getElem?_eq_getElem this]
      exact List.getElem_mem this
    have HOK := hid hok
    obtain ⟨fname, fnum, fkind, frep, fpack, fof⟩ := f
    simp only at f0 f1 f2 f3 f4 f5
    replace f0 := hkp _ _ f0
    replace f1 := hkp _ _ f1
    replace f2 := hkp _ _ f2
    replace f3 := hkp _ _ f3
    replace f4 := hkp _ _ f4
    replace f5 := hkp _ _ f5
    have HW : Hid (wayP s (t :: r) root = if r = [] then some [fnum] else if frep = true ∨ fkind ≠ 17 then none else (wayP s r fof).map (fnum :: ·)) := by
      rw [Hid, wayP, HFNM.out]
    have hdk : decide ((kk : Int) < 0) = false := decide_eq_false (by omega)
    clear hk0 ha3 hok hkp
    by_cases hlast : n = 1
    · have hrn : r = [] := List.eq_nil_of_length_eq_zero (by have := HN.out; omega)
      have HW1 : Hid (wayP s (t :: r) root = some [fnum]) := by rw [Hid, HW.out, if_pos hrn]
      subst hlast
      clear hrn
      go_wp2_with fail
      refine HGOOD.out _ _ [fnum] ?_ HW1.out ?_
      · refine HB1.out.trans ?_
        have := HB1.out.size
        (repeat (first | with_reducible exact Below.refl _ _ | with_reducible refine Below.setCell ?_ (by first | omega | (simp; omega) | (simp; done)) _ | with_reducible refine Below.alloc ?_ (by first | omega | (simp; omega) | (simp; done)) _ | with_reducible refine below_drewN ?_ _ | with_reducible refine Below.drew ?_))
      · have := HB1.out.size
        have h1 := ints_lit (w1.alloc (.cells #[.string fname, .int .i64 fnum, .int .i64 fkind, .bool frep, .bool fpack, .int .i64 fof] 64)) fnum w.heap.size (by simp; omega)
        simpa using h1
    · have HRN : Hid (r ≠ []) := fun e => hlast (by rw [HN.out, e]; rfl)
      have e1 : ((n : Int) == 1) = false := by simp; omega
      have e2 : (n == 1) = false := by simp; omega
      have e3 : decide ((n : Int) = 1) = false := decide_eq_false (by omega)
      cases frep with
      | true =>
        have HW1 : Hid (wayP s (t :: r) root = none) := by rw [Hid, HW.out, if_neg HRN.out, if_pos (.inl rfl)]
        clear hlast
        go_wp2_with fail
        refine HBAD.out _ ?_ HW1.out
        refine HB1.out.trans ?_
        have := HB1.out.size
        (repeat (first | with_reducible exact Below.refl _ _ | with_reducible refine Below.setCell ?_ (by first | omega | (simp; omega) | (simp; done)) _ | with_reducible refine Below.alloc ?_ (by first | omega | (simp; omega) | (simp; done)) _ | with_reducible refine below_drewN ?_ _ | with_reducible refine Below.drew ?_))
      | false =>
        by_cases h17 : fkind = 17
        · have HW1 : Hid (wayP s (t :: r) root = (wayP s r fof).map (fnum :: ·)) := by rw [Hid, HW.out, if_neg HRN.out, if_neg (by simp [h17])]
          obtain ⟨hof0, hof1⟩ := (sright_field HSR.out root (by rw [← HM.out]; exact hroot) _ HFMEM.out).2.1 h17
          simp only at hof0 hof1
          obtain ⟨q, rfl⟩ : ∃ q : Nat, fof = q := ⟨fof.toNat, by omega⟩
          have hqm : q < m := by rw [HM.out]; omega
          subst h17
          obtain ⟨ta, tc, htr, hts⟩ := strs_tail HNN.out HN.out
          obtain ⟨t2, r2, hr2⟩ : ∃ t2 r2, r = t2 :: r2 := List.exists_cons_of_ne_nil HRN.out
          obtain ⟨W2, HW2⟩ : ∃ W2, Hid (W2 = w1.alloc (.cells #[.string fname, .int .i64 fnum, .int .i64 17, .bool false, .bool fpack, .int .i64 (q : Int)] 64)) := ⟨_, rfl⟩
          have hb2 : Below w.heap.size w W2 := by rw [HW2.out]; refine HB1.out.trans ?_; have := HB1.out.size; (repeat (first | with_reducible exact Below.refl _ _ | with_reducible refine Below.setCell ?_ (by first | omega | (simp; omega) | (simp; done)) _ | with_reducible refine Below.alloc ?_ (by first | omega | (simp; omega) | (simp; done)) _ | with_reducible refine below_drewN ?_ _ | with_reducible refine Below.drew ?_))
          have hb2d : Below w.heap.size w W2.drew := hb2.drew
          have HCL := hid (HIH.out t2 r2 hr2 W2.drew (.slice ta (n - 1) tc) q (HS.out.below hb2d) (hts.keep (below_keeps hb2d)) hqm)
          have HB2 := hid hb2
          have hbx : Blk W2 w1.heap.size [.string fname, .int .i64 fnum, .int .i64 17, .bool false, .bool fpack, .int .i64 (q : Int)] 64 := by rw [HW2.out]; exact Blk.new w1 [.string fname, .int .i64 fnum, .int .i64 17, .bool false, .bool fpack, .int .i64 (q : Int)] _
          have HBX := hid hbx
          have c1 := hbx.cell 1 _ rfl
          have c5 := hbx.cell 5 _ rfl
          have k1 : ((17 : Int) != 17) = false := by decide
          clear hof0 hof1 hlast hts hr2 hb2 hb2d hbx c1 c5
          go_upto_region 9 with fail
          rw [← HW2.out]
          have c1 := HBX.out.cell 1 _ rfl
          have c5 := HBX.out.cell 5 _ rfl
          clear f0 f1 f2 f3 f4 f5 g1 g2
          have k5 : W2.drew.cell? ⟨w1.heap.size, 5, none⟩ = some (.int .i64 (q : Int)) := c5
          have hlt := HBX.out.lt
          go_region_held3 (fun w' => w'.cell? ⟨w1.heap.size, 5, none⟩ = some (.int .i64 (q : Int))) (first | (with_reducible exact k5) | go_keep) (first | (go_at_call 55; (with_reducible refine HCL.out.mono ?_); rintro e w4 ⟨v4, rfl, hO4, hb4⟩; have k5 := below_keeps hb4 _ _ k5))
          have hb4' : Below W2.heap.size W2 w4 := (Below.refl W2.heap.size W2).drew.trans hb4
          have HB4 : Hid (Below w.heap.size w w4) := below_step HB2.out hb4' HB2.out.size
          have c1 := below_keeps hb4' _ _ c1
          obtain ⟨a4, cc4, rfl⟩ := hO4.form
          obtain ⟨o4, HO⟩ : ∃ o4, Hid (o4 = wayP s r (q : Int)) := ⟨_, rfl⟩
          rw [← HO.out] at hO4 HW1 ⊢
          have HO4 := hid hO4
          have HSZ := hid HB4.out.size
          clear hb4 hb4' hO4
          cases o4 with
          | none =>
            have HW3 : Hid (wayP s (t :: r) root = none) := by rw [Hid, HW1.out]; rfl
            go_wp2_with fail
            exact HBAD.out _ HB4.out HW3.out
          | some l4 =>
            have HW3 : Hid (wayP s (t :: r) root = some (fnum :: l4)) := by rw [Hid, HW1.out]; rfl
            have hl4 := wayP_len s r _ l4 HO.out.symm
            have hl4n : l4.length ≤ 1099511627776 := by have := HN.out; omega
            have hok4 := wayP_ok (fun mm hmm f hf => schema_ok HS.out mm hmm f hf) r _ l4 HO.out.symm
            have hI4 : IntsAt w4 (.slice a4 l4.length cc4) l4 := HO4.out.ints (by show l4.length ≤ _; omega) hok4
            have hA5 : Below w4.heap.size w4 (w4.alloc (.cells #[.int .i64 fnum] 3)) := (Below.refl _ _).alloc (Nat.le_refl _) _
            obtain ⟨v6, w6, hr6, hO6, hg6, -⟩ := ints_append (ints_lit w4 fnum w.heap.size HSZ.out) (hI4.below hA5) (by simp; omega) (by simp; have := HSZ.out; omega)
            have HB6 : Hid (Below w.heap.size w w6) := (HB4.out.alloc HB4.out.size _).grown hg6 (by simp; have := HSZ.out; omega) (by intro q e; simp [Value.ownBlock] at e; subst e; exact HSZ.out)
            have HO6 := hid hO6
            simp only [Option.getD_some]
            clear hl4 hl4n hok4 hI4 hA5 hg6 hO6
            go_wp2_with (at_builtin; refine wpList_append_eq rfl _ _ _ rfl _ _ rfl rfl hr6 ?_)
            exact HGOOD.out _ _ _ HB6.out HW3.out HO6.out
        · have HW1 : Hid (wayP s (t :: r) root = none) := by rw [Hid, HW.out, if_neg HRN.out, if_pos (.inr h17)]
          have k1 : (fkind != 17) = true := by simpa using h17
          have k2 : (fkind == 17) = false := by simpa using h17
          have k3 : decide (fkind = 17) = false := decide_eq_false h17
          clear hlast h17
          go_wp2_with fail
          refine HBAD.out _ ?_ HW1.out
          refine HB1.out.trans ?_
          have := HB1.out.size
          (repeat (first | with_reducible exact Below.refl _ _ | with_reducible refine Below.setCell ?_ (by first | omega | (simp; omega) | (simp; done)) _ | with_reducible refine Below.alloc ?_ (by first | omega | (simp; omega) | (simp; done)) _ | with_reducible refine below_drewN ?_ _ | with_reducible refine Below.drew ?_))
  · rw [if_neg hk0] at HFNM
    have HX : Hid (wayP s (t :: r) root = none) := by rw [Hid, wayP, HFNM.out]
    have hdk : decide (kx < 0) = true := decide_eq_true (by omega)
    clear hk0
    go_wp2_with fail
    exact HBAD.out _ HB1.out HX.out
theorem ref13_Way {s : List Mes} (hs : sright s = true) : ∀ (r : List (List UInt8)) (t : List UInt8) (w : World) (sv nv : Value) (root : Nat), SchemaAt w sv s → StrsAt w nv (t :: r) → r.length ≤ 1099511627776 → root < s.length →
    Calls Tryz.prog 55 #[sv, .int .i64 (root : Int), nv] w (LeadPost w (wayP s (t :: r) root))
  | [], t, w, sv, nv, root, hS, hN, hl, hr => way_step hs [] t hS hN hl root hr fun t2 r2 h => by cases h
  | t2 :: r2, t, w, sv, nv, root, hS, hN, hl, hr => way_step hs (t2 :: r2) t hS hN hl root hr fun t3 r3 h W v q hS' hN' hq => by
    cases h
    exact ref13_Way hs r2 t2 W sv v q hS' hN' (by simp at hl; omega) hq
end Go.Proofs.YtfimpmennkfjcaaGreatDoor
