/- darningref13.Args, Resolve, Make. Paths are at most 2^39 bytes. darninglaw12.PathSplits returns true. The list's weight is at most 2^38. Plain laws: the codes of a check are below 256 (vcheck_code). No condition. -/
import Derived.Test.YtfimpmennkfjcaaGreatDoorZ09
import Derived.Test.YtfimpmennkfjcaaGreatDoorZ17
import Derived.Test.YtfimpmennkfjcaaGreatDoorZ34
import Derived.Test.YtfimpmennkfjcaaGreatDoorZ36
import Derived.Test.YtfimpmennkfjcaaGreatDoorZ38
import Derived.Test.YtfimpmennkfjcaaGreatDoorZ44
namespace Go.Proofs.YtfimpmennkfjcaaGreatDoor
open Go.RowKit
set_option maxRecDepth 100000 in
set_option maxHeartbeats 4000000 in
theorem ref13_args {w : World} {sv : Value} {s : List Mes} (hS : SchemaAt w sv s) (root : Int) :
    Calls Tryz.prog 49 #[sv, .int .i64 root] w fun e w' => e = .returned (.int .i64 ((if sright s = false then 9 else if root < 0 ∨ (s.length : Int) ≤ root then 2 else 0 : Nat) : Int)) ∧ Below w.heap.size w w' := by
  have HS := hid hS
  obtain ⟨hsl, sa, sc, rfl, -⟩ := hS.open
  obtain ⟨b, HBB⟩ : ∃ b, Hid (sright s = b) := ⟨_, rfl⟩
  rw [HBB.out]
  obtain ⟨sn, HSN⟩ : ∃ n, Hid (n = s.length) := ⟨_, rfl⟩
  rw [← HSN.out] at hsl HS ⊢
  clear hS
  cases b with
  | false =>
    go_enter Tryz.func49, Tryz.ntmps49
    go_wp2_with (go_at_call 48; refine (ref07_Right HS.out).mono ?_; rintro e w1 ⟨rfl, hb1⟩; rw [HBB.out])
    go_ret
    exact ⟨rfl, hb1⟩
  | true =>
    rw [if_neg (by decide)]
    by_cases h : root < 0 ∨ (sn : Int) ≤ root
    · rw [if_pos h]
      rcases h with h | h
      all_goals
        go_enter Tryz.func49, Tryz.ntmps49
        go_wp2_with (go_at_call 48; refine (ref07_Right HS.out).mono ?_; rintro e w1 ⟨rfl, hb1⟩; rw [HBB.out])
        go_ret
        exact ⟨rfl, hb1⟩
    · rw [if_neg h]
      have h1 : 0 ≤ root := by omega
      have h2 : root < sn := by omega
      go_enter Tryz.func49, Tryz.ntmps49
      go_wp2_with (go_at_call 48; refine (ref07_Right HS.out).mono ?_; rintro e w1 ⟨rfl, hb1⟩; rw [HBB.out])
      go_ret
      exact ⟨rfl, hb1⟩
theorem sdot_ne (p : List UInt8) : ∃ t r, sdot p = t :: r := sdot_cons p
def RResolvePost (w : World) (x : Nat × List Int) (e : Ending) (w' : World) : Prop := ∃ v', e = .returned (.tuple #[v', .int .i64 (x.1 : Nat)]) ∧ IntsOwn w' w.heap.size v' x.2 ∧ Below w.heap.size w w'
set_option maxRecDepth 100000 in
set_option maxHeartbeats 4000000 in
theorem ref13_Resolve {w : World} {sv : Value} {s : List Mes} (hS : SchemaAt w sv s) (root : Int) (p : List UInt8) (hp : p.length ≤ 549755813888) :
    Calls Tryz.prog 26 #[sv, .int .i64 root, strV p] w (RResolvePost w (resolveC s root p)) := by
  have HS := hid hS
  have HAR := hid (ref13_args hS root)
  obtain ⟨-, sa, sc, rfl, -⟩ := hS.open
  obtain ⟨n, HN⟩ : ∃ n, Hid (n = s.length) := ⟨_, rfl⟩
  rw [← HN.out] at HS HAR ⊢
  have HVP : Hid (strV p = .string ⟨p.toArray⟩) := rfl
  have HSP := hid fun W => ref12_Split (w := W) p hp
  obtain ⟨PS, HPS⟩ : ∃ PS, Hid (PS = (⟨p.toArray⟩ : ByteArray)) := ⟨_, rfl⟩
  rw [HVP.out, ← HPS.out] at HSP ⊢
  obtain ⟨Q, HQ⟩ : ∃ Q : Ending → World → Prop, Hid (Q = RResolvePost w (resolveC s root p)) := ⟨_, rfl⟩
  rw [← HQ.out]
  have HBAD : Hid (∀ w' (c : Nat), Below w.heap.size w w' → resolveC s root p = (c, []) → Q (.returned (.tuple #[.slice none 0 0, .int .i64 (c : Int)])) w') := by
    intro w' c hb h
    rw [HQ.out, h]
    exact ⟨_, rfl, World.ownsRow_nil _ _ _ _, hb⟩
  obtain ⟨ac, HAC⟩ : ∃ ac, Hid (ac = maskArgs s root) := ⟨_, rfl⟩
  have HAR2 : Hid (Calls Tryz.prog 49 #[.slice sa n sc, .int .i64 root] w fun e w' => e = .returned (.int .i64 (ac : Int)) ∧ Below w.heap.size w w') := by
    rw [Hid, HAC.out, maskArgs, ← HN.out]; exact HAR.out
  clear hS hp HAR
  rcases maskArgs_cases s root with h | h | ⟨h, hsr, hr0, hr1⟩
  · have HE : Hid (resolveC s root p = (9, [])) := by rw [Hid, resolveC, if_pos (by rw [h]; decide), h]
    rw [← HAC.out] at h
    subst h
    go_enter Tryz.func26, Tryz.ntmps26
    go_wp2_with fail
    refine HAR2.out.mono ?_
    rintro e w1 ⟨rfl, hb⟩
    have HB := hid hb
    clear hb
    go_wp2_with fail
    exact HBAD.out _ 9 HB.out HE.out
  · have HE : Hid (resolveC s root p = (2, [])) := by rw [Hid, resolveC, if_pos (by rw [h]; decide), h]
    rw [← HAC.out] at h
    subst h
    go_enter Tryz.func26, Tryz.ntmps26
    go_wp2_with fail
    refine HAR2.out.mono ?_
    rintro e w1 ⟨rfl, hb⟩
    have HB := hid hb
    clear hb
    go_wp2_with fail
    exact HBAD.out _ 2 HB.out HE.out
  · have HE : Hid (resolveC s root p = match resolveW s root p with | some l => (0, l) | none => (10, [])) := by (rw [Hid, resolveC, if_neg (by rw [h]; decide)]; first | done | rfl)
    have HSR := hid hsr
    rw [← HAC.out] at h
    subst h
    obtain ⟨r, rfl⟩ : ∃ r : Nat, root = r := ⟨root.toNat, by omega⟩
    have HR1 : Hid (r < s.length) := by show _ < _; omega
    clear hsr hr0 hr1
    go_enter Tryz.func26, Tryz.ntmps26
    go_wp2_with fail
    refine HAR2.out.mono ?_
    rintro e w1 ⟨rfl, hb⟩
    have HB := hid hb
    clear hb
    go_wp2_with fail
    refine (HSP.out w1).mono ?_
    rintro e w2 ⟨v2, rfl, hO, hb2⟩
    have HB2 : Hid (Below w.heap.size w w2) := below_step HB.out hb2 HB.out.size
    by_cases hok : pathOk p = true
    · rw [if_pos hok] at hO
      rw [hok]
      obtain ⟨t, rr, htr⟩ := sdot_ne p
      have hn65 : (sdot p).length ≤ 65 := by unfold pathOk at hok; simp at hok; exact hok.1
      have hall : ∀ t ∈ sdot p, t.length ≤ 140737488355328 := by
        intro t ht
        unfold pathOk at hok
        simp only [Bool.and_eq_true, decide_eq_true_eq] at hok
        have h2 := List.all_eq_true.1 hok.2 t ht
        unfold nameOk at h2
        simp [ByteArray.size] at h2
        omega
      have hst := StrsOwn.strs hO (by omega) hall
      have hw := ref13_Way HSR.out rr t w2 _ v2 r (HS.out.below HB2.out) (by rw [← htr]; exact hst) (by rw [htr] at hn65; simp at hn65; omega) HR1.out
      rw [← htr] at hw
      have HRW : Hid (resolveW s (r : Int) p = wayP s (sdot p) r) := by rw [Hid, resolveW, if_pos hok]
      obtain ⟨a2, c2, rfl⟩ := hO.form
      obtain ⟨ow, HOW⟩ : ∃ ow, Hid (ow = wayP s (sdot p) (r : Int)) := ⟨_, rfl⟩
      rw [← HOW.out] at hw HRW
      have HW := hid hw
      clear hok htr hn65 hall hst hw hO hb2
      go_wp2_with fail
      refine HW.out.mono ?_
      rintro e w3 ⟨v3, rfl, hO3, hb3⟩
      have HB3 : Hid (Below w.heap.size w w3) := below_step HB2.out hb3 HB2.out.size
      cases ow with
      | none =>
        clear hO3 hb3
        go_wp2_with fail
        exact HBAD.out _ 10 HB3.out (by rw [HE.out, HRW.out])
      | some l =>
        have HO3 : Hid (IntsOwn w3 w.heap.size v3 l) := row_mono hO3 HB2.out.size
        clear hO3 hb3
        go_wp2_with fail
        rw [HQ.out, HE.out, HRW.out]
        exact ⟨_, rfl, HO3.out, HB3.out⟩
    · have hokf : pathOk p = false := by simpa using hok
      have HRW : Hid (resolveW s (r : Int) p = none) := by rw [Hid, resolveW, if_neg hok]
      rw [hokf]
      clear hok hO hb2
      go_wp2_with fail
      exact HBAD.out _ 10 HB2.out (by rw [HE.out, HRW.out])
def RMakePost (w : World) (x : Nat × List (List Int)) (e : Ending) (w' : World) : Prop := ∃ v', e = .returned (.tuple #[v', .int .i64 (x.1 : Nat)]) ∧ WaysAt w' v' x.2 ∧ Below w.heap.size w w'
set_option maxRecDepth 100000 in
set_option maxHeartbeats 4000000 in
theorem ref13_Make {w : World} {sv pv : Value} {s : List Mes} {paths : List (List UInt8)} (hS : SchemaAt w sv s) (root : Int) (hP : StrsAt w pv paths) (hpl : ∀ p ∈ paths, p.length ≤ 549755813888) :
    Calls Tryz.prog 24 #[sv, .int .i64 root, pv] w (RMakePost w (makeC s root paths)) := by
  have HS := hid hS
  have HAR := hid (ref13_args hS root)
  obtain ⟨-, sa, sc, rfl, -⟩ := hS.open
  obtain ⟨m, HM⟩ : ∃ m, Hid (m = s.length) := ⟨_, rfl⟩
  rw [← HM.out] at HS HAR ⊢
  obtain ⟨hn, pa, pc, rfl, -, hpat⟩ := hP.open
  obtain ⟨n, HN⟩ : ∃ n, Hid (n = paths.length) := ⟨_, rfl⟩
  rw [← HN.out] at hn ⊢
  have HPL := hid hpl
  have HPAT := hid hpat
  obtain ⟨Q, HQ⟩ : ∃ Q : Ending → World → Prop, Hid (Q = RMakePost w (makeC s root paths)) := ⟨_, rfl⟩
  rw [← HQ.out]
  have HBAD : Hid (∀ w' (c : Nat), Below w.heap.size w w' → makeC s root paths = (c, []) → Q (.returned (.tuple #[.slice none 0 0, .int .i64 (c : Int)])) w') := by
    intro w' c hb h
    rw [HQ.out, h]
    exact ⟨_, rfl, ways_nil _, hb⟩
  obtain ⟨ac, HAC⟩ : ∃ ac, Hid (ac = maskArgs s root) := ⟨_, rfl⟩
  have HAR2 : Hid (Calls Tryz.prog 49 #[.slice sa m sc, .int .i64 root] w fun e w' => e = .returned (.int .i64 (ac : Int)) ∧ Below w.heap.size w w') := by
    rw [Hid, HAC.out, maskArgs, ← HM.out]; exact HAR.out
  have HCASES := hid (maskArgs_cases s root)
  clear hS hP hpl hpat HAR
  by_cases hac : ac = 0
  · have HAZ : Hid (maskArgs s root = 0) := by rw [Hid, ← HAC.out]; exact hac
    subst hac
    have HE : Hid (makeC s root paths = if 200 < n then (13, []) else match waysOf s root paths with | some l => (0, mOf l) | none => (10, [])) := by
      rw [Hid, makeC, if_neg (by rw [HAZ.out]; decide), HN.out]; first | done | rfl
    have HRC : Hid (∀ p, resolveC s root p = match resolveW s root p with | some l => (0, l) | none => (10, [])) := fun p => by rw [resolveC, if_neg (by rw [HAZ.out]; decide)]; first | done | rfl
    by_cases h200 : 200 < n
    · rw [if_pos h200] at HE
      go_enter Tryz.func24, Tryz.ntmps24
      go_wp2_with fail
      refine HAR2.out.mono ?_
      rintro e w1 ⟨rfl, hb⟩
      have HB := hid hb
      clear hb
      go_wp2_with fail
      exact HBAD.out _ 13 HB.out HE.out
    · rw [if_neg h200] at HE
      have hn200 : n ≤ 200 := by omega
      clear h200
      go_enter Tryz.func24, Tryz.ntmps24
      go_wp2_with fail
      refine HAR2.out.mono ?_
      rintro e w1 ⟨rfl, hb1⟩
      have HB1 := hid hb1
      clear hb1
      go_wp2_with fail
      go_loopw [9, 10] (fun v9 v10 wr => ∃ (i : Nat) (ws : List (List Int)), v10 = .int .i64 i ∧ i ≤ n ∧ Hid (RowsOwn WayP 56 1 0 w.heap.size wr v9 ws ∧ Below w.heap.size w wr ∧ ws.length = i ∧ waysOf s root paths = (waysOf s root (paths.drop i)).map (ws ++ ·))) (fun _ v10 _ => n - (intOf v10).toNat)
      case atStart => exact ⟨0, [], rfl, by omega, RowsOwn.nil _ _ _ _ _ _, HB1.out, rfl, by simp⟩
      case round =>
        obtain ⟨i, ws, rfl, hi, HI⟩ := hrel
        obtain ⟨oa, oc, hoe⟩ := HI.out.1.form
        rw [HI.out.2.2.1] at hoe
        subst hoe
        by_cases hlt : i < n
        · obtain ⟨p, hp⟩ : ∃ p, paths[i]? = some p := ⟨_, List.getElem?_eq_getElem (by rw [← HN.out]; exact hlt)⟩
          obtain ⟨-, b, o, ha, g0⟩ := HPAT.out i p hp
          have hix := index_run1 Tryz.underlying25 size_strp ha i hlt (cap := pc)
          have HBW := hid HI.out.2.1
          replace g0 := below_keeps HBW.out _ _ g0
          have HR := hid (ref13_Resolve (HS.out.below HBW.out) root p (HPL.out p (List.mem_of_getElem? hp)))
          have HD := hid (drop_at hp)
          rw [HRC.out] at HR
          unfold strV at g0 HR
          obtain ⟨PS, HPS⟩ : ∃ PS, Hid (PS = (⟨p.toArray⟩ : ByteArray)) := ⟨_, rfl⟩
          rw [← HPS.out] at g0 HR
          obtain ⟨ow, HOW⟩ : ∃ ow, Hid (ow = resolveW s root p) := ⟨_, rfl⟩
          rw [← HOW.out] at HR
          have HWO := hid (ways_step s root paths ws i p ow HD.out HI.out.2.2.2 HOW.out)
          have HLEN : Hid (∀ l, ow = some l → l.length ≤ 65) := fun l h => resolveW_len (HOW.out ▸ h)
          have HL64 : Hid (∀ l, ow = some l → ∀ x ∈ l, i64ok x) := fun l h => resolveW_ok HS.out (HOW.out ▸ h)
          clear hp ha
          go_wp2_with fail
          refine HR.out.mono ?_
          rintro e w5 ⟨v5, rfl, hO5, hb5⟩
          have HB5 := hid hb5
          cases ow with
          | none =>
            have HE2 : Hid (makeC s root paths = (10, [])) := by rw [Hid, HE.out, HWO.out]; rfl
            have HB : Hid (Below w.heap.size w w5) := below_step HBW.out HB5.out HBW.out.size
            clear hO5 hb5
            go_wp2_with fail
            exact HBAD.out _ 10 HB.out HE2.out
          | some l =>
            obtain ⟨a5, c5, hv5⟩ := hO5.form
            have h65 := HLEN.out l rfl
            subst hv5
            have h64 := HL64.out l rfl
            obtain ⟨a', c', w6, hr, hO6, hB6, hB7⟩ := (HI.out.1).step hb5 (by decide) (Nat.zero_le _) HI.out.2.1.size HI.out.2.2.1 (G := Tryz.prog) 34 (.slice none 0 0) 24 under_ways info_ints rfl #[.slice a5 l.length c5] rfl (by intro u hu; simp at hu; subst hu; rfl) l (hO5.apart (by show l.length ≤ _; omega) h64) (by omega) (by decide)
            have HREL : Hid (RowsOwn WayP 56 1 0 w.heap.size w6 (.slice a' (i + 1) c') (ws ++ [l]) ∧ Below w.heap.size w w6 ∧ (ws ++ [l]).length = i + 1 ∧ waysOf s root paths = (waysOf s root (paths.drop (i + 1))).map ((ws ++ [l]) ++ ·)) :=
              ⟨hO6, HI.out.2.1.trans hB7, by rw [List.length_append, HI.out.2.2.1]; rfl, HWO.out⟩
            clear hO5 hb5 h64 hO6 hB6 hB7 h65
            go_wp2_with (at_builtin; refine wpList_append_eq rfl _ _ _ rfl _ _ rfl rfl hr ?_)
            go_roundw
            case rel => exact ⟨i + 1, _, by go_num, hlt, HREL.out⟩
            case measure => simp [intOf]; omega
        · obtain rfl : i = n := by omega
          have HWS : Hid (waysOf s root paths = some ws) := by
            rw [Hid, HI.out.2.2.2, List.drop_eq_nil_of_le (by rw [← HN.out]; omega), waysOf]; simp
          have HE2 : Hid (makeC s root paths = (0, mOf ws)) := by rw [Hid, HE.out, HWS.out]
          have hWO := RowsOwn.at HI.out.1 (by rw [HI.out.2.2.1]; omega) (w' := wr) (fun _ _ _ => rfl)
          have HOF := hid (ref13_Of (show WaysAt wr (.slice oa i oc) ws from hWO) (by rw [HI.out.2.2.1]; omega))
          have HBW := hid HI.out.2.1
          clear hWO hlt
          go_wp2_with fail
          refine HOF.out.mono ?_
          rintro e w3 ⟨v3, rfl, hW3, hb3⟩
          have HW3 := hid hW3
          have HB3 : Hid (Below w.heap.size w w3) := below_step HBW.out hb3 HBW.out.size
          clear hW3 hb3
          go_wp2_with fail
          rw [HQ.out, HE2.out]
          exact ⟨_, rfl, HW3.out, HB3.out⟩
  · have HE : Hid (makeC s root paths = (ac, [])) := by rw [Hid, makeC, if_pos (by rw [← HAC.out]; exact hac), HAC.out]
    have e1 : ((ac : Int) != 0) = true := by simp; exact hac
    have e2 : ((ac : Int) == 0) = false := by simp; exact hac
    have e3 : (ac != 0) = true := by simp; exact hac
    have e4 : (ac == 0) = false := by simp; exact hac
    clear hac
    go_enter Tryz.func24, Tryz.ntmps24
    go_wp2_with fail
    refine HAR2.out.mono ?_
    rintro e w1 ⟨rfl, hb⟩
    have HB := hid hb
    clear hb
    go_wp2_with fail
    exact HBAD.out _ ac HB.out HE.out
end Go.Proofs.YtfimpmennkfjcaaGreatDoor
namespace Go.Proofs.YtfimpmennkfjcaaGreatDoor
open Go.RowKit
theorem twt_snoc (l : List (List UInt8)) (k : Nat) (t : List UInt8) (h : l[k]? = some t) : twt (l.take (k + 1)) = twt (l.take k) + (1 + t.length) := sum_take _ l k t h
set_option maxRecDepth 100000 in
set_option maxHeartbeats 4000000 in
theorem law12_Long {w : World} {v : Value} {l : List (List UInt8)} (h : StrsAt w v l) (hw : twt l ≤ 1099511627776) :
    Calls Tryz.prog 9 #[v] w fun e w' => e = .returned (.bool (decide (6000 < twt l))) ∧ w = w' := by
  obtain ⟨hl, a, c, rfl, -, hat⟩ := h.open
  obtain ⟨n, HN⟩ : ∃ n, Hid (n = l.length) := ⟨_, rfl⟩
  rw [← HN.out] at hl ⊢
  obtain ⟨y, HY⟩ : ∃ y, Hid (y = twt l) := ⟨_, rfl⟩
  have HAT := hid hat
  have hy : y ≤ 1099511627776 := by rw [HY.out]; exact hw
  rw [← HY.out]
  clear hat h hw
  go_enter Tryz.func9, Tryz.ntmps9
  go_wp2_with fail
  go_loopw [3, 4] (fun v3 v4 wr => ∃ z i : Nat, v3 = .int .i64 z ∧ v4 = .int .i64 i ∧ i ≤ n ∧ z ≤ 1099511627776 ∧ Hid (z = twt (l.take i)) ∧ w = wr) (fun _ v4 _ => n - (intOf v4).toNat)
  case atStart => exact ⟨0, 0, rfl, rfl, by omega, by omega, rfl, rfl⟩
  case round =>
    obtain ⟨z, i, rfl, rfl, hi, hz, HZ, rfl⟩ := hrel
    by_cases h1 : i < n
    · have hxi : l[i]? = some (l[i]'(by rw [← HN.out]; exact h1)) := List.getElem?_eq_getElem _
      generalize l[i]'(by rw [← HN.out]; exact h1) = x at hxi
      obtain ⟨hxl, b, o, ha, g0⟩ := HAT.out i x hxi
      have hix := index_run1 Tryz.underlying25 size_strp ha i h1 (cap := c)
      have hbl : b < w.heap.size := World.block_lt_of_cell? w _ g0
      have HST : Hid (z + x.length + 1 = twt (l.take (i + 1)) ∧ z + x.length + 1 ≤ 1099511627776) := by
        have h2 := twt_snoc l i x hxi
        have h3 := twt_take' l (i + 1)
        have h4 := HZ.out
        have h5 := HY.out
        exact ⟨by omega, by omega⟩
      unfold strV at g0
      have hsb : (⟨x.toArray⟩ : ByteArray).size = x.length := str_size x
      obtain ⟨xs, HXS⟩ : ∃ xs : ByteArray, Hid (xs = ⟨x.toArray⟩) := ⟨_, rfl⟩
      obtain ⟨xl, HXL⟩ : ∃ xl, Hid (xl = x.length) := ⟨_, rfl⟩
      rw [← HXS.out] at g0 hsb
      rw [← HXL.out] at hsb HST hxl
      have hzb := HST.out.2
      clear hxi ha
      go_wp2_with fail
      go_roundw
      case rel => exact ⟨z + xl + 1, i + 1, by first | go_num | (rw [hsb]; go_num), by go_num, h1, HST.out.2, HST.out.1, by first | trivial | rfl⟩
      case measure => simp [intOf]; omega
    · obtain rfl : i = n := by omega
      have HZY : Hid (z = y) := by
        have := HZ.out
        rw [HN.out, List.take_length] at this
        rw [Hid, this, HY.out]
      by_cases hb : 6000 < z
      · have HD : Hid (decide (6000 < y) = true) := by rw [Hid, ← HZY.out]; exact decide_eq_true hb
        go_wp2_with fail
        go_ret
        exact ⟨by rw [HD.out]; first | done | rfl | (simp; done) | (simp; omega), rfl⟩
      · have HD : Hid (decide (6000 < y) = false) := by rw [Hid, ← HZY.out]; exact decide_eq_false hb
        go_wp2_with fail
        go_ret
        exact ⟨by rw [HD.out]; first | done | rfl | (simp; done) | (simp; omega), rfl⟩
/-- l[:j] of strings -/
theorem StrsAt.h {w : World} {a : Option Addr} {n cap : Nat} {l : List (List UInt8)} (h : StrsAt w (.slice a n cap) l) (hn : n = l.length) (j : Nat) (hj : j ≤ n) :
    ∃ a' c', (∀ W, (Instr.slice 25 (.slice a n cap) none (some (.int .i64 (j : Int))) none).run Tryz.prog W = .ok (.slice a' j c') W) ∧ StrsAt w (.slice a' j c') (l.take j) := by
  subst hn
  have hcap : l.length ≤ cap := by obtain ⟨⟨_, _, a', cap', hv, h3, _⟩, _⟩ := h; cases hv; exact h3
  refine ⟨_, _, fun W => slice_h_run under_strl size_strp a _ cap j (by omega) W, ?_⟩
  have hs := Seg.sub h.1 0 j (by omega) hj
  refine ⟨?_, fun t ht => h.2 t (List.mem_of_mem_take ht)⟩
  rw [List.length_take, Nat.min_eq_left (by omega), List.map_take]
  simpa [sliced] using hs
end Go.Proofs.YtfimpmennkfjcaaGreatDoor
namespace Go.Proofs.YtfimpmennkfjcaaGreatDoor
open Go.RowKit
theorem vloop_code (rec : Nat → List UInt8 → Nat × Nat) (deep : Bool) (fs : List Fld) (l : List UInt8) (hrec : ∀ o x, (rec o x).2 < 256) : ∀ (k i : Nat), (vloop rec deep fs l k i).2 < 256
  | 0, _ => by rw [vloop]; decide
  | k + 1, i => by
    rw [vloop]
    by_cases hi : l.length ≤ i
    · rw [if_pos hi]; decide
    rw [if_neg hi]
    have hv : (vlook fs l i).2.2.2 < 256 ∧ (vval rec deep fs l (vlook fs l i)).2 < 256 := by
      rcases vlook_cases fs l i with ⟨c, h, e, h2⟩ | ⟨r, h1, h2, h3, h4, -, e | ⟨j, run, -, e, -⟩⟩
      · rw [e]
        refine ⟨h2, ?_⟩
        unfold vval
        rw [if_neg (by simp)]
        simp only [Bool.false_eq_true, if_false]
        split
        · split <;> simp
        · split
          · split
            · simp
            · exact hrec _ _
          · simp
      · rw [e]; exact ⟨by simp, by simp [vval]⟩
      · rw [e]
        refine ⟨by simp, ?_⟩
        unfold vval
        rw [if_neg (by show ¬ ((j : Int) < 0); omega)]
        simp only [Int.toNat_natCast]
        split
        · have := runCount_lt (kwire (fs.getD j .zero).kind) (part l r.at' r.to)
          show (runCount _ _).2 < 256; omega
        · split
          · split <;> simp
          · split
            · split
              · simp
              · exact hrec _ _
            · simp
    by_cases hc : (vlook fs l i).2.2.2 ≠ 0
    · rw [if_pos hc]; exact hv.1
    rw [if_neg hc]
    by_cases hv2 : (vval rec deep fs l (vlook fs l i)).2 ≠ 0
    · rw [if_pos hv2]; exact hv.2
    · rw [if_neg hv2]; exact vloop_code rec deep fs l hrec k _
theorem vmsg_code (s : List Mes) : ∀ (d m : Nat) (l : List UInt8), (vmsg s d m l).2 < 256
  | 0, m, l => vloop_code _ _ _ l (fun _ _ => by decide) _ _
  | d + 1, m, l => vloop_code _ _ _ l (vmsg_code s d) _ _
theorem vcheck_code (s : List Mes) (root : Int) (l : List UInt8) (d : Int) : (vcheck s root l d).2 < 256 := by
  unfold vcheck
  by_cases h : argsCode s root d ≠ 0
  · rw [if_pos h]; have := args_cases s root d; show argsCode s root d < 256; omega
  · rw [if_neg h]; exact vmsg_code _ _ _ _
end Go.Proofs.YtfimpmennkfjcaaGreatDoor
