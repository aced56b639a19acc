/- darninglaw07.Few returns a bool, whatever the schema. darninglaw13.paths1, MaskMakes: true. Reading a list of strings from an argument's data; its weight is at most the reading's bulk. Reading a schema from an argument's data. Reading slices of ints and of ways from an argument's data. -/
import Derived.Test.YtpjikakbdahmfaaGreatDoorRows
import Derived.Test.YtpjikakbdahmfaaGreatDoorZ03
import Derived.Test.YtpjikakbdahmfaaGreatDoorZ05
import Derived.Test.YtpjikakbdahmfaaGreatDoorZ10
import Derived.Test.YtpjikakbdahmfaaGreatDoorZ11
import Derived.Test.YtpjikakbdahmfaaGreatDoorZ15
import Derived.Deep.Slices
import Derived.SizedLaws
import Derived.ProofKit
namespace Go.Proofs.YtpjikakbdahmfaaGreatDoor
open Go.RowKit

set_option maxRecDepth 100000 in
set_option maxHeartbeats 4000000 in
theorem law07_Few {w : World} {v : Value} {s : List Mes} (hS : SchemaAt w v s) :
    Calls Tryz.prog 6 #[v] w fun e w' => (∃ b, e = .returned (.bool b)) ∧ Below w.heap.size w w' := by
  obtain ⟨hlen, a, cap, rfl, hat⟩ := hS.open
  obtain ⟨n, HN⟩ : ∃ n, Hid (n = s.length) := ⟨_, rfl⟩
  rw [← HN.out] at hat hlen ⊢
  have HAT := hid hat
  clear hat hS
  go_enter Tryz.func6, Tryz.ntmps6
  go_wp2_with fail
  go_loopw [3, 4, 5] (fun v3 v4 _ wr => ∃ (z : Int) (i : Nat), v3 = .int .i64 z ∧ i ≤ n ∧ v4 = .int .i64 i ∧ Hid (Below w.heap.size w wr)) (fun _ v4 _ _ => n - (intOf v4).toNat)
  case atStart => exact ⟨0, 0, rfl, by omega, rfl, Below.refl _ _⟩
  case round =>
    obtain ⟨z, i, rfl, hi, rfl, HB⟩ := hrel
    by_cases hlt : i < n
    · have hat := HAT.out
      obtain ⟨b, o, fv, ha, hnm, c0, c1, hfs⟩ := hat i hlt
      obtain ⟨fl, fa, fcap, rfl, hft⟩ := hfs.open
      clear hat hfs
      obtain ⟨fn, HFN⟩ : ∃ fn, Hid (fn = (s.getD i .zero).fields.length) := ⟨_, rfl⟩
      obtain ⟨nm, HNM⟩ : ∃ nm, Hid (nm = (s.getD i .zero).name) := ⟨_, rfl⟩
      rw [← HFN.out] at fl c1 hft
      rw [← HNM.out] at hnm c0
      have HFT := hid hft
      clear hft
      have hkr := below_keeps HB.out
      replace c0 := hkr _ _ c0
      replace c1 := hkr _ _ c1
      clear hkr
      have hix := index_run Tryz.underlying23 size_mes ha i hlt (cap := cap)
      have hbl : b < wr.heap.size := World.block_lt_of_cell? wr _ c0
      clear ha
      go_wp2_with fail
      go_quiet (fail)
      go_wp2_with fail
      obtain ⟨wo, HWO⟩ : ∃ wo, Hid (wo = wr.drewN nq) := ⟨_, rfl⟩
      rw [← HWO.out]
      have HBO : Hid (Below w.heap.size w wo) := by rw [HWO.out]; exact below_drewN HB.out _
      replace c1 : wo.cell? ⟨b, o + i * 2 + 1, none⟩ = some (.slice fa fn fcap) := by rw [HWO.out]; exact c1
      clear c0 hbl
      have HC1 := hid c1
      clear c1
      go_loopw [3, 5] (fun v3 v5 wq => ∃ (z : Int) (k : Nat), v3 = .int .i64 z ∧ k ≤ fn ∧ v5 = .int .i64 k ∧ Hid (Below wo.heap.size wo wq)) (fun _ v5 _ => fn - (intOf v5).toNat)
      case atStart => exact ⟨_, 0, rfl, by omega, rfl, Below.refl _ _⟩
      case round =>
        obtain ⟨z2, k, rfl, hk, rfl, HBQ⟩ := hrel
        have c1 := below_keeps HBQ.out _ _ HC1.out
        have hbl : b < wr.heap.size := World.block_lt_of_cell? wr _ c1
        by_cases hlk : k < fn
        · have hft := HFT.out
          obtain ⟨b2, o2, ha2, hok, g0, -⟩ := hft k hlk
          clear hft
          have hkr := below_keeps (HBO.out.trans (HBQ.out.mono HBO.out.size))
          replace g0 := hkr _ _ g0
          clear hkr
          obtain ⟨fx, HFX⟩ : ∃ fx, Hid (fx = (s.getD i .zero).fields.getD k .zero) := ⟨_, rfl⟩
          rw [← HFX.out] at hok g0
          have hsz := hok.name
          have hix2 := index_run Tryz.underlying70 size_fld ha2 k hlk (cap := fcap)
          have hbl2 : b2 < wr.heap.size := World.block_lt_of_cell? wr _ g0
          clear ha2 hok
          go_wp2_with fail
          go_roundw
          case rel => exact ⟨_, k + 1, rfl, hlk, by go_num, HBQ⟩
          case measure => simp [intOf]; omega
        · go_wp2_with fail
          go_roundw
          case rel => exact ⟨_, i + 1, rfl, hlt, by go_num, HBO.out.trans (HBQ.out.mono HBO.out.size)⟩
          case measure => simp [intOf]; omega
    · go_wp2_with fail
      go_ret
      exact ⟨⟨_, rfl⟩, HB.out⟩

end Go.Proofs.YtpjikakbdahmfaaGreatDoor

namespace Go.Proofs.YtpjikakbdahmfaaGreatDoor
open Go.RowKit

def MadeTrue (w : World) (e : Ending) (w' : World) : Prop := e = .returned (.bool true) ∧ Below w.heap.size w w'
theorem maskArgs_le (s : List Mes) (root : Int) : maskArgs s root ≤ 9 := by
  unfold maskArgs; split
  · decide
  · split <;> decide
theorem pathsC_bad {s : List Mes} {root : Int} {ws : List (List Int)} (h : maskArgs s root ≠ 0) : pathsC s root ws = (maskArgs s root, []) := by
  unfold pathsC; rw [if_pos h]
theorem pathsC_good {s : List Mes} {root : Int} {ws : List (List Int)} (h : maskArgs s root = 0) : pathsC s root ws = if isMaskW ws = false then (10, []) else match pathsW s root ws with | some l => (0, l) | none => (10, []) := by
  unfold pathsC; rw [if_neg (by rw [h]; decide)]; first | done | rfl
/-- the paths of the first so many ways -/
theorem pathsW_take (s : List Mes) (root : Int) : ∀ (ws : List (List Int)) (pre : List (List UInt8)) (y : List Int) (rest : List (List Int)) (ns : List (List UInt8)), pathsW s root ws = (pathsW s root (y :: rest)).map (pre ++ ·) → namesW s root y = some ns → joinOk ns = true → pathsW s root ws = (pathsW s root rest).map ((pre ++ [sjoin ns]) ++ ·) := by
  intro ws pre y rest ns h h1 h2
  rw [h, pathsW, h1]
  simp only
  rw [if_pos h2]
  cases pathsW s root rest <;> simp
theorem pathsW_none (s : List Mes) (root : Int) (ws : List (List Int)) (pre : List (List UInt8)) (y : List Int) (rest : List (List Int)) (h : pathsW s root ws = (pathsW s root (y :: rest)).map (pre ++ ·)) (hb : ¬ ∃ ns, namesW s root y = some ns ∧ joinOk ns = true) : pathsW s root ws = none := by
  rw [h, pathsW]
  cases hn : namesW s root y with
  | none => rfl
  | some ns =>
    simp only
    rw [if_neg (fun hj => hb ⟨ns, hn, hj⟩)]
    rfl
theorem sjoin_short {ns : List (List UInt8)} (h : joinOk ns = true) : (sjoin ns).length ≤ 4000 := by
  have h1 := joinOk_iff ns
  rw [h] at h1
  rw [Bool.and_eq_true] at h1
  have hp := h1.1
  unfold pathOk at hp
  simp only [Bool.and_eq_true, decide_eq_true_eq] at hp
  have h60 : ∀ t ∈ sdot (sjoin ns), t.length ≤ 60 := fun t ht => nameOk_len (List.all_eq_true.1 hp.2 t ht)
  have h3 := twt_le _ h60
  have h4 := sjoin_len (sdot (sjoin ns))
  rw [sjoin_sdot] at h4
  omega

set_option maxRecDepth 100000 in
set_option maxHeartbeats 8000000 in
theorem law13_paths1 {w : World} {sv mv : Value} {s : List Mes} {ws : List (List Int)} (hS : SchemaAt w sv s) (root : Int) (hM : WaysAt w mv ws) (hL : LightW ws) (hL2 : ∀ l ∈ ws, l.length ≤ 1073741824) :
    Calls Tryz.prog 15 #[sv, .int .i64 root, mv] w (MadeTrue w) := by
  have HS := hid hS
  have HMW := hid hM
  have HLL := hid (And.intro hL hL2)
  have HPA := hid (mask_Paths hS root hM hL hL2)
  have HCASES := hid (maskArgs_cases s root)
  obtain ⟨-, sa, sc, rfl, -⟩ := hS.open
  obtain ⟨m, HM⟩ : ∃ m, Hid (m = s.length) := ⟨_, rfl⟩
  rw [← HM.out] at HS HPA ⊢
  obtain ⟨-, ma, mc, rfl, -, hmat⟩ := hM.open
  obtain ⟨n, HN⟩ : ∃ n, Hid (n = ws.length) := ⟨_, rfl⟩
  rw [← HN.out] at HMW HPA ⊢
  have hn : n ≤ 1099511627776 := by rw [HN.out]; exact hL.1
  have HMAT := hid hmat
  obtain ⟨Q, HQ⟩ : ∃ Q : Ending → World → Prop, Hid (Q = MadeTrue w) := ⟨_, rfl⟩
  rw [← HQ.out]
  have HTRUE : Hid (∀ w', Below w.heap.size w w' → Q (.returned (.bool true)) w') := fun w' hb => by rw [HQ.out]; exact ⟨rfl, hb⟩
  obtain ⟨c, lp, HPC⟩ : ∃ c lp, Hid (pathsC s root ws = (c, lp)) := ⟨_, _, rfl⟩
  rw [HPC.out] at HPA
  unfold maskV at HPA
  obtain ⟨ac, HAC⟩ : ∃ ac, Hid (ac = maskArgs s root) := ⟨_, rfl⟩
  have hac9 : ac ≤ 9 := by rw [HAC.out]; exact maskArgs_le s root
  have HC10 : Hid (c ≤ 10) := by
    have h := HPC.out
    by_cases hz : maskArgs s root = 0
    · rw [pathsC_good hz] at h
      split at h
      · cases h; show 10 ≤ 10; omega
      · split at h
        · cases h; show 0 ≤ 10; omega
        · cases h; show 10 ≤ 10; omega
    · rw [pathsC_bad hz] at h
      cases h
      show maskArgs s root ≤ 10
      have := maskArgs_le s root
      omega
  have hc10 := HC10.out
  clear hS hM hL hL2 hmat
  go_enter Tryz.func15, Tryz.ntmps15
  go_wp2_with fail
  refine HPA.out.mono ?_
  rintro e w1 ⟨v1, rfl, hO1', hb1⟩
  have hO1 : StrsOwn w1 w.heap.size v1 lp := hO1'
  have HO1 := hid hO1
  obtain ⟨la, lc, rfl⟩ := hO1.form
  obtain ⟨ln, HLN⟩ : ∃ ln, Hid (ln = lp.length) := ⟨_, rfl⟩
  rw [← HLN.out] at HO1 ⊢
  have HB1 := hid hb1
  have HAR : Hid (Calls Tryz.prog 32 #[.slice sa m sc, .int .i64 root] w1 fun e w' => e = .returned (.int .i64 (ac : Int)) ∧ Below w1.heap.size w1 w') := by
    have := ref13_args (HS.out.below hb1) root
    rw [Hid, HAC.out, maskArgs]; exact this
  clear hO1 hO1' hb1
  go_wp2_with fail
  refine HAR.out.mono ?_
  rintro e w2 ⟨rfl, hb2⟩
  have HB2 : Hid (Below w.heap.size w w2) := below_step HB1.out hb2 HB1.out.size
  have HO2 := hid (HO1.out.later hb2)
  clear hb2
  by_cases hz : ac = 0
  · have HZ : Hid (maskArgs s root = 0) := by rw [Hid, ← HAC.out]; exact hz
    subst hz
    have hsr : sright s = true ∧ 0 ≤ root ∧ root < s.length := by
      rcases HCASES.out with h | h | h
      · rw [HZ.out] at h; cases h
      · rw [HZ.out] at h; cases h
      · exact h.2
    have HSR := hid hsr
    obtain ⟨r, rfl⟩ : ∃ r : Nat, root = r := ⟨root.toNat, by omega⟩
    have HP2 := HPC.out
    rw [pathsC_good HZ.out] at HP2
    have HP3 := hid HP2
    clear hsr HP2
    go_wp2_with fail
    refine (ref13_Of (HMW.out.below HB2.out) (by rw [← HN.out]; exact hn)).mono ?_
    rintro e w3 ⟨v3, rfl, hW3, hb3⟩
    have HB3 : Hid (Below w.heap.size w w3) := below_step HB2.out hb3 HB2.out.size
    have HO3 := hid (HO2.out.later hb3)
    have hsm := ref13_Same hW3 (HMW.out.below HB3.out)
    obtain ⟨z, HZZ⟩ : ∃ z, Hid (z = isMaskW ws) := ⟨_, rfl⟩
    rw [show decide (mOf ws = ws) = z from by rw [HZZ.out, isMaskW]] at hsm
    have HSM := hid hsm
    obtain ⟨-, wa3, wc3, rfl, -, -⟩ := hW3.open
    clear hW3 hb3 hsm
    go_wp2_with fail
    refine HSM.out.mono ?_
    rintro e w4 ⟨rfl, hd⟩
    have HB4 : Hid (Below w.heap.size w w4) := below_step HB3.out hd.below HB3.out.size
    have HO4 := hid (HO3.out.later hd.below)
    clear hd
    go_wp2_with fail
    go_loopw [10, 11, 12, 13, 14] (fun v10 v11 v12 _ _ wr => ∃ (i : Nat) (ok : Bool) (wl : List (List UInt8)), v11 = .bool ok ∧ v12 = .int .i64 (i : Int) ∧ i ≤ n ∧ Hid (StrsOwn wr w4.heap.size v10 wl ∧ Below w4.heap.size w4 wr ∧ wl.length = i ∧ (ok = true → isMaskW ws = true ∧ pathsW s r ws = (pathsW s r (ws.drop i)).map (wl ++ ·)) ∧ (ok = false → isMaskW ws = false ∨ pathsW s r ws = none) ∧ ∀ t ∈ wl, t.length ≤ 137438953472)) (fun _ _ v12 _ _ _ => n - (intOf v12).toNat)
    case atStart =>
      refine ⟨0, z, [], rfl, rfl, by omega, World.ownsRow_nil _ _ _ _, Below.refl _ _, rfl, fun h => ⟨by rw [← HZZ.out]; exact h, by simp⟩, fun h => .inl (by rw [← HZZ.out]; exact h), by simp⟩
    case round =>
      obtain ⟨i, ok, wl, rfl, rfl, hi, HI⟩ := hrel
      obtain ⟨oa, oc, hoe⟩ := HI.out.1.form
      rw [HI.out.2.2.1] at hoe
      subst hoe
      have HBW : Hid (Below w.heap.size w wr) := below_step HB4.out HI.out.2.1 HB4.out.size
      cases ok with
      | true =>
        by_cases hlt : i < n
        · obtain ⟨y, hy⟩ := way_get HN.out hlt
          obtain ⟨b, o, ya, yc, ha, g0, hY⟩ := HMAT.out i y hy
          have hix := index_run1 Tryz.underlying25 size_ints ha i hlt (cap := mc)
          replace g0 := below_keeps HBW.out _ _ g0
          have HPT := hid (ref13_Path (HS.out.below HBW.out) HSR.out.1 r (by have := HSR.out.2.2; rw [HM.out] at *; omega) (hY.below HBW.out) (HLL.out.2 y (List.mem_of_getElem? hy)))
          obtain ⟨yn, HYN⟩ : ∃ yn, Hid (yn = y.length) := ⟨_, rfl⟩
          rw [← HYN.out] at g0 HPT
          have HD := hid (drop_at hy)
          clear hy ha hY
          go_wp2_with fail
          refine HPT.out.mono ?_
          rintro e w5 ⟨p, bb, rfl, hpl, hb1, hb2, hb5⟩
          have HPB := hid (And.intro hpl (And.intro hb1 hb2))
          have HB5 : Hid (Below w4.heap.size w4 w5) := below_step HI.out.2.1 hb5 HI.out.2.1.size
          obtain ⟨v8, w8, hr8, hO8, hg8⟩ := StrsOwn.one (HI.out.1.later hb5) p (by rw [HI.out.2.2.1]; omega) HB5.out.size
          obtain ⟨a8, c8, e8⟩ := hO8.form
          rw [List.length_append, List.length_singleton, HI.out.2.2.1] at e8
          subst e8
          have HO8 := hid hO8
          have HB8 : Hid (Below w4.heap.size w4 w8) := HB5.out.grown hg8 HB5.out.size (fun e1 e2 => (World.ownsRow.lt HI.out.1 e1 e2).1)
          have HPV : Hid (strV p = .string ⟨p.toArray⟩) := rfl
          obtain ⟨PS, HPS⟩ : ∃ PS, Hid (PS = (⟨p.toArray⟩ : ByteArray)) := ⟨_, rfl⟩
          rw [HPV.out, ← HPS.out] at hr8 ⊢
          have HREL : Hid ((bb = true → isMaskW ws = true ∧ pathsW s r ws = (pathsW s r (ws.drop (i + 1))).map ((wl ++ [p]) ++ ·)) ∧ (bb = false → isMaskW ws = false ∨ pathsW s r ws = none) ∧ ∀ t ∈ wl ++ [p], t.length ≤ 137438953472) := by
            have h1 := HI.out.2.2.2.1 (by first | rfl | trivial)
            have h2 := h1.2
            rw [HD.out] at h2
            refine ⟨fun hb => ⟨h1.1, ?_⟩, fun hb => .inr ?_, fun t ht => ?_⟩
            · obtain ⟨ns, hn1, hn2⟩ := HPB.out.2.1.1 hb
              rw [HPB.out.2.2 hb ns hn1]
              exact pathsW_take s r ws wl y _ ns h2 hn1 hn2
            · refine pathsW_none s r ws wl y _ h2 fun hex => ?_
              have := HPB.out.2.1.2 hex
              rw [hb] at this; cases this
            · rcases List.mem_append.1 ht with ht | ht
              · exact HI.out.2.2.2.2.2 t ht
              · have e : t = p := by simpa using ht
                rw [e]; exact HPB.out.1
          clear hpl hb1 hb2 hb5 hO8 hg8
          go_wp2_with (at_builtin; refine wpList_append_eq rfl _ _ _ rfl _ _ rfl rfl hr8 ?_)
          go_roundw
          case rel => exact ⟨i + 1, bb, wl ++ [p], rfl, by go_num, hlt, HO8.out, HB8.out, by rw [List.length_append, HI.out.2.2.1]; rfl, HREL.out⟩
          case measure => simp [intOf]; omega
        · obtain rfl : i = n := by omega
          have HPW : Hid (pathsW s r ws = some wl) := by
            rw [Hid, (HI.out.2.2.2.1 (by first | rfl | trivial)).2, List.drop_eq_nil_of_le (by rw [← HN.out]; omega), pathsW]; simp
          have HC0 : Hid (c = 0 ∧ lp = wl) := by
            have h := HP3.out
            rw [(HI.out.2.2.2.1 (by first | rfl | trivial)).1, HPW.out] at h
            simp at h
            exact ⟨h.1.symm, h.2.symm⟩
          obtain rfl : c = 0 := HC0.out.1
          have hlen : ln = i := by rw [HLN.out, HC0.out.2]; exact HI.out.2.2.1
          have hs1 := StrsOwn.strs ((HO4.out).later HI.out.2.1) (by rw [HC0.out.2, HI.out.2.2.1]; omega) (fun t ht => by rw [HC0.out.2] at ht; have := HI.out.2.2.2.2.2 t ht; omega)
          have hs2 := StrsOwn.strs HI.out.1 (by rw [HI.out.2.2.1]; omega) (fun t ht => by have := HI.out.2.2.2.2.2 t ht; omega)
          have hsm := ref12_Same hs1 hs2
          rw [decide_eq_true HC0.out.2] at hsm
          have HSM2 := hid hsm
          clear hs1 hs2 hsm hlt hlen
          go_wp2_with fail
          refine HSM2.out.mono ?_
          rintro e w6 ⟨rfl, hb6⟩
          have HB6 : Hid (Below w.heap.size w w6) := below_step HBW.out hb6 HBW.out.size
          clear hb6
          go_wp2_with fail
          exact HTRUE.out _ HB6.out
      | false =>
        have HC0 : Hid (c = 10 ∧ lp = []) := by
          have h := HP3.out
          rcases HI.out.2.2.2.2.1 (by first | rfl | trivial) with h1 | h1
          · rw [h1] at h; simp at h; exact ⟨h.1.symm, h.2⟩
          · rw [h1] at h
            split at h
            · cases h; exact ⟨rfl, rfl⟩
            · cases h; exact ⟨rfl, rfl⟩
        obtain rfl : c = 10 := HC0.out.1
        have hl0 : ln = 0 := by rw [HLN.out, HC0.out.2]; rfl
        subst hl0
        by_cases hlt : i < n
        · go_wp2_with fail
          exact HTRUE.out _ HBW.out
        · go_wp2_with fail
          exact HTRUE.out _ HBW.out
  · have HE : Hid (c = ac ∧ lp = []) := by
      have := HPC.out
      rw [pathsC_bad (by rw [← HAC.out]; exact hz), ← HAC.out] at this
      cases this
      exact ⟨rfl, rfl⟩
    obtain rfl : c = ac := HE.out.1
    have hl0 : ln = 0 := by rw [HLN.out, HE.out.2]; rfl
    subst hl0
    have e1 : ((c : Int) != 0) = true := by simp; exact hz
    have e2 : ((c : Int) == 0) = false := by simp; exact hz
    have e3 : (c != 0) = true := by simp; exact hz
    have e4 : (c == 0) = false := by simp; exact hz
    clear hz
    go_wp2_with fail
    exact HTRUE.out _ HB2.out

theorem resolveC_code (s : List Mes) (root : Int) (p : List UInt8) : (resolveC s root p).1 ≤ 10 ∧ (resolveC s root p).2.length ≤ 65 := by
  unfold resolveC
  split
  · exact ⟨by have := maskArgs_le s root; show maskArgs s root ≤ 10; omega, by simp⟩
  · split
    · rename_i l hl
      exact ⟨by simp, resolveW_len hl⟩
    · exact ⟨by simp, by simp⟩
theorem resolveC_ok {w : World} {v : Value} {s : List Mes} (hS : SchemaAt w v s) (root : Int) (p : List UInt8) : ∀ x ∈ (resolveC s root p).2, i64ok x := by
  unfold resolveC
  split
  · simp
  · split
    · rename_i l hl
      exact resolveW_ok hS hl
    · simp
theorem makeC_small (s : List Mes) (root : Int) (paths : List (List UInt8)) : (makeC s root paths).1 ≤ 13 ∧ (makeC s root paths).2.length ≤ 200 ∧ ∀ x ∈ (makeC s root paths).2, x.length ≤ 65 := by
  unfold makeC
  split
  · exact ⟨by have := maskArgs_le s root; show maskArgs s root ≤ 13; omega, by simp, by simp⟩
  · split
    · exact ⟨by simp, by simp, by simp⟩
    · rename_i hlen
      split
      · rename_i ws hws
        obtain ⟨h1, h2⟩ := waysOf_light hws
        exact ⟨by simp, by have := mOf_len ws; show (mOf ws).length ≤ 200; omega, fun x hx => h2 x (((mOf_mask ws).2 x).1 hx).1⟩
      · exact ⟨by simp, by simp, by simp⟩

set_option maxRecDepth 100000 in
set_option maxHeartbeats 8000000 in
theorem law13_MaskMakes {w : World} {sv pv mv : Value} {s : List Mes} {paths : List (List UInt8)} {ws : List (List Int)} (hS : SchemaAt w sv s) (root : Int) (hP : StrsAt w pv paths) (hpw : twt paths ≤ 1099511627776) (hpl : ∀ p ∈ paths, p.length ≤ 549755813888)
    (hM : WaysAt w mv ws) (hL : LightW ws) (hL2 : ∀ l ∈ ws, l.length ≤ 1073741824) :
    Calls Tryz.prog 3 #[sv, .int .i64 root, pv, mv] w (MadeTrue w) := by
  have HS := hid hS
  have HP := hid hP
  have HPW := hid hpw
  have HPL := hid hpl
  have HM' := hid hM
  have HLL := hid (And.intro hL hL2)
  obtain ⟨-, sa, sc, rfl, -⟩ := hS.open
  obtain ⟨m, HM⟩ : ∃ m, Hid (m = s.length) := ⟨_, rfl⟩
  rw [← HM.out] at HS ⊢
  obtain ⟨hn, pa, pc, rfl, -, hpat⟩ := hP.open
  obtain ⟨n, HN⟩ : ∃ n, Hid (n = paths.length) := ⟨_, rfl⟩
  rw [← HN.out] at HP hn ⊢
  have HPAT := hid hpat
  obtain ⟨-, ma, mc, rfl, -, -⟩ := hM.open
  obtain ⟨mn, HMN⟩ : ∃ n, Hid (n = ws.length) := ⟨_, rfl⟩
  rw [← HMN.out] at HM' ⊢
  obtain ⟨Q, HQ⟩ : ∃ Q : Ending → World → Prop, Hid (Q = MadeTrue w) := ⟨_, rfl⟩
  rw [← HQ.out]
  have HTRUE : Hid (∀ w', Below w.heap.size w w' → Q (.returned (.bool true)) w') := fun w' hb => by rw [HQ.out]; exact ⟨rfl, hb⟩
  clear hS hP hpw hpl hpat hM hL hL2
  go_enter Tryz.func3, Tryz.ntmps3
  go_wp2_with fail
  refine (law13_alive _).mono ?_
  rintro e w1 ⟨rfl, hb⟩
  have HB1 := hid hb
  clear hb
  go_wp2_with fail
  refine (law07_Few (HS.out.below HB1.out)).mono ?_
  rintro e w2 ⟨⟨b1, rfl⟩, hb⟩
  have HB2 : Hid (Below w.heap.size w w2) := below_step HB1.out hb HB1.out.size
  clear hb
  cases b1 with
  | false =>
    go_wp2_with fail
    exact HTRUE.out _ HB2.out
  | true =>
    go_wp2_with fail
    refine (law12_Long (HP.out.keep (below_keeps HB2.out)) HPW.out).mono ?_
    rintro e w2' ⟨rfl, rfl⟩
    by_cases hlong : 6000 < twt paths
    · rw [decide_eq_true hlong]
      clear hlong
      go_wp2_with fail
      exact HTRUE.out _ HB2.out
    · rw [decide_eq_false hlong]
      clear hlong
      go_wp2_with fail
      refine (law13_Many (HM'.out.below HB2.out)).mono ?_
      rintro e w2' ⟨⟨m1, rfl⟩, rfl⟩
      cases m1 with
      | true =>
        go_wp2_with fail
        exact HTRUE.out _ HB2.out
      | false =>
        go_wp2_with fail
        go_loopw [9, 10, 11, 12, 13] (fun v9 _ _ _ _ wr => ∃ i : Nat, v9 = .int .i64 (i : Int) ∧ i ≤ n ∧ Hid (Below w.heap.size w wr)) (fun v9 _ _ _ _ _ => n - (intOf v9).toNat)
        case atStart => exact ⟨0, rfl, by omega, HB2.out⟩
        case round =>
          obtain ⟨i, rfl, hi, HI⟩ := hrel
          by_cases hlt : i < n ∧ i < 8
          · obtain ⟨hlt1, hlt2⟩ := hlt
            obtain ⟨p, hp⟩ : ∃ p, paths[i]? = some p := ⟨_, List.getElem?_eq_getElem (by rw [← HN.out]; exact hlt1)⟩
            obtain ⟨-, b, o', ha, g0⟩ := HPAT.out i p hp
            have hix := index_run1 Tryz.underlying24 size_strp ha i hlt1 (cap := pc)
            have hpl9 := HPL.out p (List.mem_of_getElem? hp)
            have h9 := mask_Resolve (HS.out.below HI.out) root p (by omega)
            have h10 := fun W (hW : Below w.heap.size w W) => ref13_Resolve (HS.out.below hW) root p hpl9
            unfold strV at g0 h9 h10
            obtain ⟨PS, HPS⟩ : ∃ PS, Hid (PS = (⟨p.toArray⟩ : ByteArray)) := ⟨_, rfl⟩
            rw [← HPS.out] at g0 h9 h10
            have G0 := hid g0
            replace g0 := below_keeps HI.out _ _ g0
            obtain ⟨c, wy, HRC⟩ : ∃ c wy, Hid (resolveC s root p = (c, wy)) := ⟨_, _, rfl⟩
            have hc10 : c ≤ 10 := by have := (resolveC_code s root p).1; rw [HRC.out] at this; exact this
            have HWY : Hid (wy.length ≤ 65 ∧ ∀ x ∈ wy, i64ok x) := by
              have h1 := (resolveC_code s root p).2
              have h2 := resolveC_ok HS.out root p
              rw [HRC.out] at h1 h2
              exact ⟨h1, h2⟩
            rw [HRC.out] at h9 h10
            have H9 := hid h9
            have H10 := hid h10
            clear hp ha h9 h10 hpl9
            go_wp2_with fail
            refine H9.out.mono ?_
            rintro e w5 ⟨v5, rfl, hO5', hb5⟩
            have hO5 : IntsOwn w5 wr.heap.size v5 wy := hO5'
            have HB5 : Hid (Below w.heap.size w w5) := below_step HI.out hb5 HI.out.size
            have HI5 := hid (hO5.ints (by have := HWY.out.1; omega) HWY.out.2)
            have g0 := below_keeps HB5.out _ _ G0.out
            obtain ⟨a5, c5, hv5⟩ := hO5.form
            subst hv5
            clear hO5 hO5' hb5
            go_wp2_with fail
            refine (H10.out w5 HB5.out).mono ?_
            rintro e w6 ⟨v6, rfl, hO6', hb6⟩
            have hO6 : IntsOwn w6 w5.heap.size v6 wy := hO6'
            have HB6 : Hid (Below w.heap.size w w6) := below_step HB5.out hb6 HB5.out.size
            have hsm := ref07_SameInts (HI5.out.below hb6) (hO6.ints (by have := HWY.out.1; omega) HWY.out.2)
            rw [decide_eq_true rfl] at hsm
            have HSM := hid hsm
            obtain ⟨a6, c6, hv6⟩ := hO6.form
            subst hv6
            have b1 : ((c : Int) != (c : Int)) = false := by simp
            clear hO6 hO6' hb6 hsm
            go_wp2_with fail
            refine HSM.out.mono ?_
            rintro e w7 ⟨rfl, hd⟩
            have HB7 : Hid (Below w.heap.size w w7) := below_step HB6.out hd.below HB6.out.size
            clear hd
            go_wp2_with fail
            go_roundw
            case rel => exact ⟨i + 1, by go_num, hlt1, HB7.out⟩
            case measure => simp [intOf]; omega
          · have HMK := hid (mask_Make (HS.out.below HI.out) root (HP.out.keep (below_keeps HI.out)) (fun p hp => by have := HPL.out p hp; omega))
            have HRM := hid fun W (hW : Below w.heap.size w W) => ref13_Make (HS.out.below hW) root (HP.out.keep (below_keeps hW)) HPL.out
            obtain ⟨c, o, HMC⟩ : ∃ c o, Hid (makeC s root paths = (c, o)) := ⟨_, _, rfl⟩
            have HSMALL : Hid (c ≤ 13 ∧ o.length ≤ 200 ∧ ∀ x ∈ o, x.length ≤ 65) := by
              have := makeC_small s root paths
              rw [HMC.out] at this
              exact this
            have hc13 := HSMALL.out.1
            rw [HMC.out] at HMK HRM
            have hexit : (i < n ∧ 8 ≤ i) ∨ n ≤ i := by omega
            clear hlt
            rcases hexit with ⟨h1, h2⟩ | h1
            all_goals
              go_wp2_with fail
              refine HMK.out.mono ?_
              rintro e w3 ⟨v3, rfl, hN3, hb3⟩
              have HB3 : Hid (Below w.heap.size w w3) := below_step HI.out hb3 HI.out.size
              have hW3 := hN3.here
              have hW3' : WaysAt w3 v3 o := hW3
              obtain ⟨-, oa, oc, rfl, -, -⟩ := hW3'.open
              obtain ⟨on, HON⟩ : ∃ on, Hid (on = o.length) := ⟨_, rfl⟩
              rw [← HON.out] at hW3' ⊢
              obtain ⟨wB, HWB⟩ : ∃ wB, Hid (wB = w3.alloc (.cells #[.slice oa on oc] 38)) := ⟨_, rfl⟩
              have hb4 : Below w3.heap.size w3 wB := by rw [HWB.out]; (repeat (first | with_reducible exact Below.refl _ _ | with_reducible refine Below.setCell ?_ (by first | omega | (simp; omega) | (simp; done)) _ | with_reducible refine Below.alloc ?_ (by first | omega | (simp; omega) | (simp; done)) _ | with_reducible refine below_drewN ?_ _ | with_reducible refine Below.drew ?_))
              have HB4 : Hid (Below w.heap.size w wB) := below_step HB3.out hb4 HB3.out.size
              have hbx : Blk wB w3.heap.size [.slice oa on oc] 38 := by rw [HWB.out]; exact Blk.new w3 [.slice oa on oc] _
              have HBX := hid hbx
              have HW4 := hid (hW3'.below hb4)
              have HR4 := hid (HRM.out wB HB4.out)
              unfold maskV
              clear hN3 hb3 hW3 hW3' hb4 hbx
              go_wp2_with fail
              rw [← HWB.out]
              refine HR4.out.mono ?_
              rintro e w5 ⟨v5, rfl, hW5', hb5⟩
              have hW5 : WaysAt w5 v5 o := hW5'
              have HB5 : Hid (Below w.heap.size w w5) := below_step HB4.out hb5 HB4.out.size
              have HW45 := hid (HW4.out.below hb5)
              have HBX5 := hid (HBX.out.below hb5)
              have c0 := HBX5.out.cell 0 _ rfl
              have hsm := ref13_Same HW45.out hW5
              rw [decide_eq_true rfl] at hsm
              have HSM := hid hsm
              obtain ⟨-, va5, vc5, rfl, -, -⟩ := hW5.open
              have b1 : ((c : Int) != (c : Int)) = false := by simp
              clear hW5 hW5' hb5 hsm
              go_wp2_with fail
              refine HSM.out.mono ?_
              rintro e w6 ⟨rfl, hd⟩
              have HB6 : Hid (Below w.heap.size w w6) := below_step HB5.out hd.below HB5.out.size
              have HW6 := hid (HW45.out.below hd.below)
              have HBX6 := hid (HBX5.out.below hd.below)
              have c0 := HBX6.out.cell 0 _ rfl
              have HP6 := hid (law13_paths1 (HS.out.below HB6.out) root HW6.out ⟨by have := HSMALL.out.2.1; omega, fun x hx => by have := HSMALL.out.2.2 x hx; omega⟩ (fun x hx => by have := HSMALL.out.2.2 x hx; omega))
              clear hd
              go_wp2_with fail
              refine HP6.out.mono ?_
              rintro e w7 ⟨rfl, hb7⟩
              have HB7 : Hid (Below w.heap.size w w7) := below_step HB6.out hb7 HB6.out.size
              have HP7 := hid (law13_paths1 (HS.out.below HB7.out) root (HM'.out.below HB7.out) HLL.out.1 HLL.out.2)
              clear hb7
              go_wp2_with fail
              refine HP7.out.mono ?_
              rintro e w8 ⟨rfl, hb8⟩
              have HB8 : Hid (Below w.heap.size w w8) := below_step HB7.out hb8 HB7.out.size
              clear hb8
              go_wp2_with fail
              exact HTRUE.out _ HB8.out

end Go.Proofs.YtpjikakbdahmfaaGreatDoor

namespace Go.Proofs.YtpjikakbdahmfaaGreatDoor
open Go.RowKit Go.Deep

/-- every part of a datum is within the form's reach -/
def Light {H : Type} (P : Program) (t : TypeId) (d : DataW H) : Prop := ∀ n ∈ d.weights P t, n ≤ reachBytes
theorem light_slice {H : Type} {P : Program} {t e : TypeId} (ht : P.underlying t = some (.slice e)) {es sp : List (DataW H)} (h : Light P t (.slice es sp)) :
    (es.length + sp.length) * P.bytesOf e ≤ reachBytes ∧ (∀ d ∈ es, Light P e d) ∧ (∀ d ∈ sp, Light P e d) := by
  have all : ∀ (l : List (DataW H)) (d : DataW H), d ∈ l → ∀ n ∈ d.weights P e, n ∈ DataW.weightsAll P e l := by
    intro l
    induction l with
    | nil => intro d hd; simp at hd
    | cons x r ih =>
      intro d hd n hn
      rw [DataW.weightsAll]
      rcases List.mem_cons.1 hd with rfl | hd
      · exact List.mem_append_left _ hn
      · exact List.mem_append_right _ (ih d hd n hn)
  refine ⟨h _ (by simp [DataW.weights, ht]), fun d hd n hn => h n ?_, fun d hd n hn => h n ?_⟩
  · simp only [DataW.weights, ht]
    exact List.mem_cons_of_mem _ (List.mem_append_left _ (all _ d hd n hn))
  · simp only [DataW.weights, ht]
    exact List.mem_cons_of_mem _ (List.mem_append_right _ (all _ d hd n hn))
theorem light_struct {H : Type} {P : Program} {t : TypeId} {fs : Array Field} (ht : P.underlying t = some (.struct fs)) {ds : List (DataW H)} (h : Light P t (.agg ds)) :
    ∀ (i : Nat) (f : Field) (d : DataW H), fs[i]? = some f → ds[i]? = some d → Light P f.type d := by
  have each : ∀ (ts : List TypeId) (l : List (DataW H)) (i : Nat) (u : TypeId) (d : DataW H), ts[i]? = some u → l[i]? = some d → ∀ n ∈ d.weights P u, n ∈ DataW.weightsEach P ts l := by
    intro ts
    induction ts with
    | nil => intro l i u d hu; simp at hu
    | cons a r ih =>
      intro l i u d hu hd n hn
      cases l with
      | nil => simp at hd
      | cons x l =>
        rw [DataW.weightsEach]
        cases i with
        | zero => simp at hu hd; subst hu; subst hd; exact List.mem_append_left _ hn
        | succ i => exact List.mem_append_right _ (ih l i u d (by simpa using hu) (by simpa using hd) n hn)
  intro i f d hf hd n hn
  refine h n ?_
  simp only [DataW.weights, ht]
  exact each _ _ i f.type d (by simp; exact ⟨f, by simpa using hf, rfl⟩) hd n hn
theorem light_arg {H : Type} {P : Program} {ts : List TypeId} {ds : List (DataW H)} (h : (DataW.weightsEach P ts ds).all (· ≤ reachBytes) = true) {j : Nat} {t : TypeId} {d : DataW H} (ht : ts[j]? = some t) (hd : ds[j]? = some d) : Light P t d := by
  intro n hn
  have := List.all_eq_true.1 h _ (DataW.weights_mem_each ht hd n hn)
  simpa using this
theorem flat_one {α : Type} (n : Nat) (css : Nat → List α) (f : Nat → α) (h : ∀ i, i < n → css i = [f i]) : (List.range n).flatMap css = (List.range n).map f := by
  induction n with
  | zero => rfl
  | succ n ih =>
    rw [List.range_succ, List.flatMap_append, List.map_append, ih (fun i hi => h i (by omega))]
    simp [h n (by omega)]
theorem cells_str : Tryz.prog.cellsOf 9 = 1 := by kernel_rfl
/-- a slice of whatever elements, as cells -/
theorem seg_of_trod2 {H : Type} {enc : TypeId × Value → H} {P : Program} {w : World} {t e : TypeId} {size : Nat} (ht : P.underlying t = some (.slice e)) (hce : P.cellsOf e = size) (hbytes : 1 ≤ P.bytesOf e)
    {v : Value} {d : DataW H} {p : List MemPlace} (hv : ∃ a n c, v = .slice a n c) (h : DataW.Trod enc P w 0 (fun _ => true) true t v d p) (hL : Light P t d) :
    ∃ (n fuel : Nat) (css : Nat → List Value) (D : Nat → DataW H) (Pl : Nat → List MemPlace), Seg w v size n ((List.range n).flatMap css) ∧ (∀ i, i < n → (css i).length = size ∧ DataW.trod enc P w 0 (fun _ => true) true fuel e (css i) = some (D i, Pl i) ∧ Light P e (D i)) ∧ (d = .nil ∧ n = 0 ∨ ∃ sp, d = .slice ((List.range n).map D) sp) := by
  obtain ⟨a0, n0, c0, rfl⟩ := hv
  obtain ⟨fuel, h⟩ := h
  rcases open_slice ht h with ⟨hcs, hx⟩ | ⟨a, len, cap, m, n, D, Pl, hcs, -, hl, hm, hmm, hx, hel⟩
  · simp [Value.cells] at hcs
    obtain ⟨rfl, rfl, rfl⟩ := hcs
    exact ⟨0, 0, fun _ => [], fun _ => .nil, fun _ => [], ⟨by simp, by simp, none, 0, rfl, Nat.le_refl _, by omega, fun _ => rfl, fun j u hu => by simp at hu⟩, fun i hi => absurd hi (by omega), .inl ⟨by cases hx; rfl, rfl⟩⟩
  · simp [Value.cells] at hcs
    obtain ⟨rfl, rfl, rfl⟩ := hcs
    simp only [if_true] at hmm
    subst hmm
    simp only [Prod.mk.injEq] at hx
    obtain ⟨rfl, -⟩ := hx
    obtain ⟨hb, hle, -⟩ := light_slice ht hL
    simp only [List.length_map, List.length_range] at hb
    have hn47 : n0 ≤ 140737488355328 := by
      have h1 : reachBytes < 2 ^ 47 := reachBytes_lt
      have h2 : n0 * 1 ≤ (n0 + (m - n0)) * P.bytesOf e := Nat.mul_le_mul (by omega) hbytes
      omega
    obtain ⟨css, hcss⟩ := choose_lt (α := List Value) (n := n0) (p := fun i cs => w.cells? 0 (a.add (i * P.cellsOf e)) (P.cellsOf e) = some cs ∧ DataW.trod enc P w 0 (fun _ => true) true n e cs = some (D i, Pl i)) (fun i hi => hel i (by omega))
    have hlen : ∀ i, i < n0 → (css i).length = size := fun i hi => by rw [← hce]; exact (World.cells?_some (hcss i hi).1).2.1
    have flat : ∀ (k : Nat), k ≤ n0 → ((List.range k).flatMap css).length = k * size := by
      intro k
      induction k with
      | zero => intro _; simp
      | succ k ih =>
        intro hk
        rw [List.range_succ, List.flatMap_append, List.length_append, ih (by omega)]
        simp [hlen k (by omega), Nat.succ_mul]
    refine ⟨n0, n, css, D, Pl, ⟨flat n0 (Nat.le_refl _), hn47, some a, m, rfl, hl, by unfold maxLen at hm; omega, by simp, ?_⟩, fun i hi => ⟨hlen i hi, (hcss i hi).2, hle _ (List.mem_map.2 ⟨i, List.mem_range.2 hi, rfl⟩)⟩, .inr ⟨_, rfl⟩⟩
    intro j u hu
    -- the cell at place j lies in element j / size
    have get : ∀ (k : Nat), k ≤ n0 → ∀ j u, ((List.range k).flatMap css)[j]? = some u → ∃ i q, i < k ∧ q < size ∧ j = i * size + q ∧ (css i)[q]? = some u := by
      intro k
      induction k with
      | zero => intro _ j u hu; simp at hu
      | succ k ih =>
        intro hk j u hu
        rw [List.range_succ, List.flatMap_append] at hu
        by_cases hj : j < k * size
        · rw [List.getElem?_append_left (by rw [flat k (by omega)]; exact hj)] at hu
          obtain ⟨i, q, h1, h2, h3, h4⟩ := ih (by omega) j u hu
          exact ⟨i, q, by omega, h2, h3, h4⟩
        · rw [List.getElem?_append_right (by rw [flat k (by omega)]; omega), flat k (by omega)] at hu
          simp at hu
          have hq : j - k * size < size := by
            have := (List.getElem?_eq_some_iff.1 hu).1
            rw [hlen k (by omega)] at this; exact this
          exact ⟨k, j - k * size, by omega, hq, by omega, hu⟩
    obtain ⟨i, q, h1, h2, rfl, h4⟩ := get n0 (Nat.le_refl _) j u hu
    obtain ⟨-, -, hc⟩ := World.cells?_some (hcss i h1).1
    have hcell := hc q (by rw [hce]; exact h2)
    rw [h4, hce, add_add] at hcell
    have hspot : a.spot = none := by
      have h0 := (World.cells?_some (hcss 0 (by omega)).1).2.2 0 (by rw [hce]; omega)
      have h5 : (css 0)[0]? = some ((css 0)[0]'(by rw [hlen 0 (by omega)]; omega)) := List.getElem?_eq_getElem _
      rw [h5] at h0
      simpa [Addr.add] using World.cell?_spot h0
    obtain ⟨b, o, sp⟩ := a
    have : sp = none := hspot
    subst this
    rw [addr_add] at hcell
    exact ⟨b, o, rfl, hcell⟩
theorem bulk_one {H : Type} (d : DataW H) : 1 ≤ Rows.uptoBulk d := by
  cases d with
  | lit l => cases l <;> simp [Rows.uptoBulk]
  | nil => simp [Rows.uptoBulk]
  | ptr d => simp [Rows.uptoBulk]
  | slice elems spare => simp [Rows.uptoBulk]
  | agg parts => simp [Rows.uptoBulk]
  | iface t d => simp [Rows.uptoBulk]
  | map entries => simp [Rows.uptoBulk]
  | held h => simp [Rows.uptoBulk]
theorem bulkAll_sum {H : Type} : ∀ l : List (DataW H), Rows.uptoBulkAll l = (l.map Rows.uptoBulk).sum
  | [] => by simp [Rows.uptoBulkAll]
  | x :: r => by simp [Rows.uptoBulkAll, bulkAll_sum r]
theorem bulk_part {H : Type} {d : DataW H} {l : List (DataW H)} (h : d ∈ l) : Rows.uptoBulk d ≤ Rows.uptoBulkAll l := by
  rw [bulkAll_sum]; exact mem_sum_le _ l d h
theorem sum_range_le {f g : Nat → Nat} : ∀ n, (∀ i, i < n → f i ≤ g i) → ((List.range n).map f).sum ≤ ((List.range n).map g).sum
  | 0, _ => by simp
  | n + 1, h => by
    have h1 := sum_range_le n fun i hi => h i (by omega)
    have h2 := h n (by omega)
    rw [List.range_succ, List.map_append, List.map_append, List.sum_append, List.sum_append]
    simp
    omega
/-- the elements' weights, all together -/
theorem bulk_elems {H : Type} {n : Nat} {D : Nat → DataW H} {d : DataW H} {f : Nat → Nat} (hd : d = .nil ∧ n = 0 ∨ ∃ sp, d = .slice ((List.range n).map D) sp) (hf : ∀ i, i < n → f i ≤ Rows.uptoBulk (D i)) : ((List.range n).map f).sum + 1 ≤ Rows.uptoBulk d := by
  rcases hd with ⟨rfl, rfl⟩ | ⟨sp, rfl⟩
  · simp [Rows.uptoBulk]
  · have h := sum_range_le n hf
    simp only [Rows.uptoBulk, bulkAll_sum, List.map_map]
    have e : (List.range n).map (Rows.uptoBulk ∘ D) = (List.range n).map fun i => Rows.uptoBulk (D i) := rfl
    rw [e]
    omega
theorem bulk_elem {H : Type} {n : Nat} {D : Nat → DataW H} {d : DataW H} (hd : d = .nil ∧ n = 0 ∨ ∃ sp, d = .slice ((List.range n).map D) sp) {i : Nat} (hi : i < n) : Rows.uptoBulk (D i) + 1 ≤ Rows.uptoBulk d := by
  rcases hd with ⟨rfl, rfl⟩ | ⟨sp, rfl⟩
  · omega
  · have h := bulk_part (List.mem_map.2 ⟨i, List.mem_range.2 hi, rfl⟩ : D i ∈ (List.range n).map D)
    simp only [Rows.uptoBulk]
    omega
theorem bytes_str : Tryz.prog.bytesOf 9 = 16 := by kernel_rfl
theorem strs_of_trod {H : Type} {enc : TypeId × Value → H} {w : World} {v : Value} {d : DataW H} {p : List MemPlace} (hv : ∃ a n c, v = .slice a n c) (h : DataW.Trod enc Tryz.prog w 0 (fun _ => true) true 24 v d p) (hL : Light Tryz.prog 24 d) :
    ∃ l, StrsAt w v l ∧ twt l + 1 ≤ Rows.uptoBulk d := by
  obtain ⟨n, fuel, css, D, Pl, hs, hel, hd⟩ := seg_of_trod2 Tryz.underlying24 cells_str (by rw [bytes_str]; omega) hv h hL
  obtain ⟨c, hc⟩ := choose_lt (α := List UInt8) (n := n) (p := fun i c => css i = [strV c] ∧ c.length ≤ 140737488355328 ∧ 1 + c.length ≤ Rows.uptoBulk (D i)) (fun i hi => by
    obtain ⟨h1, h2, h3⟩ := hel i hi
    obtain ⟨s, hs, hx, -⟩ := DataW.trod_string Tryz.underlying9 h2
    simp only [Prod.mk.injEq] at hx
    have hlen : s.data.toList.length ≤ 140737488355328 := by
      have h4 := h3
      rw [hx.1] at h4
      have h5 := h4 s.data.toList.length (by simp [DataW.weights])
      have h6 : reachBytes < 2 ^ 47 := reachBytes_lt
      omega
    refine ⟨s.data.toList, ?_, hlen, ?_⟩
    · rw [hs]; simp [strV]
    · rw [hx.1]; simp [Rows.uptoBulk]; omega)
  refine ⟨(List.range n).map c, ⟨?_, ?_⟩, ?_⟩
  · rw [List.length_map, List.length_range, List.map_map, ← flat_one n css (strV ∘ c) (fun i hi => (hc i hi).1)]
    exact hs
  · intro t ht
    obtain ⟨i, hi, rfl⟩ := List.mem_map.1 ht
    exact (hc i (List.mem_range.1 hi)).2.1
  · have := bulk_elems (f := fun i => 1 + (c i).length) hd fun i hi => (hc i hi).2.2
    unfold twt
    rw [List.map_map]
    exact this
/-- a slice's value, of its cells -/
theorem trod_slice_form {H : Type} {enc : TypeId × Value → H} {P : Program} {w : World} {t e : TypeId} {fuel : Nat} {u : Value} {x : DataW H × List MemPlace} (ht : P.underlying t = some (.slice e)) (h : DataW.trod enc P w 0 (fun _ => true) true fuel t [u] = some x) : ∃ a n c, u = .slice a n c := by
  rcases open_slice ht h with ⟨hcs, -⟩ | ⟨a, len, cap, m, n, D, Pl, hcs, -⟩
  · exact ⟨_, _, _, by simpa using hcs⟩
  · exact ⟨_, _, _, by simpa using hcs⟩

/-- a slice of rows -/
theorem rows_of_trod {H α : Type} {enc : TypeId × Value → H} {w : World} {t e : TypeId} {k : Nat} (P : World → List Value → α → Prop) (wt : α → Nat) (ht : Tryz.prog.underlying t = some (.slice e)) (hce : Tryz.prog.cellsOf e = k) (hby : 1 ≤ Tryz.prog.bytesOf e)
    {v : Value} {d : DataW H} {p : List MemPlace} (hv : ∃ a n c, v = .slice a n c) (h : DataW.Trod enc Tryz.prog w 0 (fun _ => true) true t v d p) (hL : Light Tryz.prog t d) (B : Nat) (hB : Rows.uptoBulk d ≤ B + 1)
    (hel : ∀ (fuel : Nat) (cs : List Value) (d : DataW H) (p : List MemPlace), DataW.trod enc Tryz.prog w 0 (fun _ => true) true fuel e cs = some (d, p) → Light Tryz.prog e d → Rows.uptoBulk d ≤ B → ∃ x : α, P w cs x ∧ wt x ≤ Rows.uptoBulk d) :
    ∃ l : List α, RowsAt P k w v l ∧ (l.map wt).sum + 1 ≤ Rows.uptoBulk d := by
  obtain ⟨n, fuel, css, D, Pl, hs, hx, hd⟩ := seg_of_trod2 ht hce hby hv h hL
  have h1' : ∀ i, i < n → ∃ x : α, P w (css i) x ∧ wt x ≤ Rows.uptoBulk (D i) := fun i hi => by
    obtain ⟨h1, h2, h3⟩ := hx i hi
    exact hel fuel _ _ _ h2 h3 (by have := bulk_elem hd hi; omega)
  by_cases h0 : n = 0
  · subst h0
    refine ⟨[], ⟨[], rfl, by simp, by simpa using hs, by simp⟩, ?_⟩
    simpa using bulk_one d
  obtain ⟨x0, -⟩ := h1' 0 (by omega)
  haveI : Inhabited α := ⟨x0⟩
  obtain ⟨c, hc⟩ := choose_lt (α := α) (n := n) (p := fun i c => P w (css i) c ∧ wt c ≤ Rows.uptoBulk (D i)) (fun i hi => by
    obtain ⟨h1, h2, h3⟩ := hx i hi
    exact hel fuel _ _ _ h2 h3 (by have := bulk_elem hd hi; omega))
  refine ⟨(List.range n).map c, ⟨(List.range n).map css, by simp, ?_, ?_, ?_⟩, ?_⟩
  · intro r hr
    obtain ⟨i, hi, rfl⟩ := List.mem_map.1 hr
    exact (hx i (List.mem_range.1 hi)).1
  · rw [List.length_map, List.length_range, ← List.flatMap_def]
    exact hs
  · intro i r x hr hxx
    simp only [List.getElem?_map] at hr hxx
    rcases Nat.lt_or_ge i n with hi | hi
    · simp [hi] at hr hxx
      subst hr
      subst hxx
      exact (hc i hi).1
    · simp [hi] at hr
  · have := bulk_elems (f := fun i => wt (c i)) hd fun i hi => (hc i hi).2
    rw [List.map_map]
    exact this

end Go.Proofs.YtpjikakbdahmfaaGreatDoor

namespace Go.Proofs.YtpjikakbdahmfaaGreatDoor
open Go.RowKit Go.Deep

/-- a slice of whatever elements, as cells -/
theorem seg_of_trod {H : Type} {enc : TypeId × Value → H} {P : Program} {w : World} {t e : TypeId} {size : Nat} (ht : P.underlying t = some (.slice e)) (hce : P.cellsOf e = size) (hbytes : 1 ≤ P.bytesOf e)
    {v : Value} {d : DataW H} {p : List MemPlace} (hv : ∃ a n c, v = .slice a n c) (h : DataW.Trod enc P w 0 (fun _ => true) true t v d p) (hL : Light P t d) :
    ∃ (n fuel : Nat) (css : Nat → List Value) (D : Nat → DataW H) (Pl : Nat → List MemPlace), Seg w v size n ((List.range n).flatMap css) ∧ (∀ i, i < n → (css i).length = size ∧ DataW.trod enc P w 0 (fun _ => true) true fuel e (css i) = some (D i, Pl i) ∧ Light P e (D i)) := by
  obtain ⟨a0, n0, c0, rfl⟩ := hv
  obtain ⟨fuel, h⟩ := h
  rcases open_slice ht h with ⟨hcs, -⟩ | ⟨a, len, cap, m, n, D, Pl, hcs, -, hl, hm, hmm, hx, hel⟩
  · simp [Value.cells] at hcs
    obtain ⟨rfl, rfl, rfl⟩ := hcs
    exact ⟨0, 0, fun _ => [], fun _ => .nil, fun _ => [], ⟨by simp, by simp, none, 0, rfl, Nat.le_refl _, by omega, fun _ => rfl, fun j u hu => by simp at hu⟩, fun i hi => absurd hi (by omega)⟩
  · simp [Value.cells] at hcs
    obtain ⟨rfl, rfl, rfl⟩ := hcs
    simp only [if_true] at hmm
    subst hmm
    simp only [Prod.mk.injEq] at hx
    obtain ⟨rfl, -⟩ := hx
    obtain ⟨hb, hle, -⟩ := light_slice ht hL
    simp only [List.length_map, List.length_range] at hb
    have hn47 : n0 ≤ 140737488355328 := by
      have h1 : reachBytes < 2 ^ 47 := reachBytes_lt
      have h2 : n0 * 1 ≤ (n0 + (m - n0)) * P.bytesOf e := Nat.mul_le_mul (by omega) hbytes
      omega
    obtain ⟨css, hcss⟩ := choose_lt (α := List Value) (n := n0) (p := fun i cs => w.cells? 0 (a.add (i * P.cellsOf e)) (P.cellsOf e) = some cs ∧ DataW.trod enc P w 0 (fun _ => true) true n e cs = some (D i, Pl i)) (fun i hi => hel i (by omega))
    have hlen : ∀ i, i < n0 → (css i).length = size := fun i hi => by rw [← hce]; exact (World.cells?_some (hcss i hi).1).2.1
    have flat : ∀ (k : Nat), k ≤ n0 → ((List.range k).flatMap css).length = k * size := by
      intro k
      induction k with
      | zero => intro _; simp
      | succ k ih =>
        intro hk
        rw [List.range_succ, List.flatMap_append, List.length_append, ih (by omega)]
        simp [hlen k (by omega), Nat.succ_mul]
    refine ⟨n0, n, css, D, Pl, ⟨flat n0 (Nat.le_refl _), hn47, some a, m, rfl, hl, by unfold maxLen at hm; omega, by simp, ?_⟩, fun i hi => ⟨hlen i hi, (hcss i hi).2, hle _ (List.mem_map.2 ⟨i, List.mem_range.2 hi, rfl⟩)⟩⟩
    intro j u hu
    -- the cell at place j lies in element j / size
    have get : ∀ (k : Nat), k ≤ n0 → ∀ j u, ((List.range k).flatMap css)[j]? = some u → ∃ i q, i < k ∧ q < size ∧ j = i * size + q ∧ (css i)[q]? = some u := by
      intro k
      induction k with
      | zero => intro _ j u hu; simp at hu
      | succ k ih =>
        intro hk j u hu
        rw [List.range_succ, List.flatMap_append] at hu
        by_cases hj : j < k * size
        · rw [List.getElem?_append_left (by rw [flat k (by omega)]; exact hj)] at hu
          obtain ⟨i, q, h1, h2, h3, h4⟩ := ih (by omega) j u hu
          exact ⟨i, q, by omega, h2, h3, h4⟩
        · rw [List.getElem?_append_right (by rw [flat k (by omega)]; omega), flat k (by omega)] at hu
          simp at hu
          have hq : j - k * size < size := by
            have := (List.getElem?_eq_some_iff.1 hu).1
            rw [hlen k (by omega)] at this; exact this
          exact ⟨k, j - k * size, by omega, hq, by omega, hu⟩
    obtain ⟨i, q, h1, h2, rfl, h4⟩ := get n0 (Nat.le_refl _) j u hu
    obtain ⟨-, -, hc⟩ := World.cells?_some (hcss i h1).1
    have hcell := hc q (by rw [hce]; exact h2)
    rw [h4, hce, add_add] at hcell
    have hspot : a.spot = none := by
      have h0 := (World.cells?_some (hcss 0 (by omega)).1).2.2 0 (by rw [hce]; omega)
      have h5 : (css 0)[0]? = some ((css 0)[0]'(by rw [hlen 0 (by omega)]; omega)) := List.getElem?_eq_getElem _
      rw [h5] at h0
      simpa [Addr.add] using World.cell?_spot h0
    obtain ⟨b, o, sp⟩ := a
    have : sp = none := hspot
    subst this
    rw [addr_add] at hcell
    exact ⟨b, o, rfl, hcell⟩

theorem getD_range {α : Type} (n : Nat) (f : Nat → α) (z : α) (j : Nat) (hj : j < n) : ((List.range n).map f).getD j z = f j := by simp [List.getD, hj]
theorem flatMap_congr' {α β : Type} {l : List α} {f g : α → List β} (h : ∀ a ∈ l, f a = g a) : l.flatMap f = l.flatMap g := by
  induction l with
  | nil => rfl
  | cons a r ih =>
    rw [List.flatMap_cons, List.flatMap_cons, h a (by simp), ih fun x hx => h x (by simp [hx])]

theorem bytes_fld : Tryz.prog.bytesOf 50 = 48 := by kernel_rfl
theorem cells_fld : Tryz.prog.cellsOf 50 = 6 := by kernel_rfl
theorem bytes_mes : Tryz.prog.bytesOf 72 = 40 := by kernel_rfl
theorem cells_mes : Tryz.prog.cellsOf 72 = 2 := by kernel_rfl
theorem cells_int : Tryz.prog.cellsOf 3 = 1 := by kernel_rfl
theorem cells_bool : Tryz.prog.cellsOf 4 = 1 := by kernel_rfl
theorem cells_flds : Tryz.prog.cellsOf 70 = 1 := by kernel_rfl

theorem i64_bd {x : Int} (h : (Lit.int .i64 x).wf = true) : -9223372036854775808 ≤ x ∧ x ≤ 9223372036854775807 := by
  simpa [Lit.wf, IntKind.min, IntKind.max, IntKind.signed, IntKind.bits] using h

set_option maxRecDepth 100000 in
/-- the cells of a field -/
theorem fld_of_trod {H : Type} {enc : TypeId × Value → H} {w : World} {fuel : Nat} {cs : List Value} {d : DataW H} {p : List MemPlace} (h : DataW.trod enc Tryz.prog w 0 (fun _ => true) true fuel 50 cs = some (d, p)) (hL : Light Tryz.prog 50 d) :
    ∃ f : Fld, f.Ok ∧ cs = f.cells := by
  obtain ⟨xs, n, -, hx, hl, hlen, hf⟩ := DataW.trod_struct Tryz.underlying50 h
  simp only [Prod.mk.injEq] at hx
  obtain ⟨rfl, -⟩ := hx
  have hsub := light_struct Tryz.underlying50 hL
  rw [cells_fld] at hl
  match cs, hl, xs, hlen with
  | [c0, c1, c2, c3, c4, c5], _, [x0, x1, x2, x3, x4, x5], _ =>
    have g0 : DataW.trod enc Tryz.prog w 0 (fun _ => true) true n 9 [c0] = some x0 := by have := hf 0 _ rfl; simpa [cells_str] using this
    have g1 : DataW.trod enc Tryz.prog w 0 (fun _ => true) true n 3 [c1] = some x1 := by have := hf 1 _ rfl; simpa [cells_int] using this
    have g2 : DataW.trod enc Tryz.prog w 0 (fun _ => true) true n 3 [c2] = some x2 := by have := hf 2 _ rfl; simpa [cells_int] using this
    have g3 : DataW.trod enc Tryz.prog w 0 (fun _ => true) true n 4 [c3] = some x3 := by have := hf 3 _ rfl; simpa [cells_bool] using this
    have g4 : DataW.trod enc Tryz.prog w 0 (fun _ => true) true n 4 [c4] = some x4 := by have := hf 4 _ rfl; simpa [cells_bool] using this
    have g5 : DataW.trod enc Tryz.prog w 0 (fun _ => true) true n 3 [c5] = some x5 := by have := hf 5 _ rfl; simpa [cells_int] using this
    obtain ⟨s, e0, r0, -⟩ := DataW.trod_string Tryz.underlying9 g0
    obtain ⟨n1, e1, -, w1⟩ := DataW.trod_int Tryz.underlying3 g1
    obtain ⟨n2, e2, -, w2⟩ := DataW.trod_int Tryz.underlying3 g2
    obtain ⟨b3, e3, -⟩ := DataW.trod_bool Tryz.underlying4 g3
    obtain ⟨b4, e4, -⟩ := DataW.trod_bool Tryz.underlying4 g4
    obtain ⟨n5, e5, -, w5⟩ := DataW.trod_int Tryz.underlying3 g5
    have hs : s.size ≤ 140737488355328 := by
      have h1 := hsub 0 _ _ rfl rfl
      rw [r0] at h1
      have h2 := h1 s.data.toList.length (by simp [DataW.weights])
      have h3 : reachBytes < 2 ^ 47 := reachBytes_lt
      simp at h2
      have h4 : s.data.size = s.size := rfl
      omega
    simp only [List.cons.injEq, and_true] at e0 e1 e2 e3 e4 e5
    refine ⟨⟨s, n1, n2, b3, b4, n5⟩, ⟨hs, i64_bd w1, i64_bd w2, i64_bd w5⟩, ?_⟩
    simp [Fld.cells, e0, e1, e2, e3, e4, e5]

theorem fields_of_trod {H : Type} {enc : TypeId × Value → H} {w : World} {v : Value} {d : DataW H} {p : List MemPlace} (hv : ∃ a n c, v = .slice a n c) (h : DataW.Trod enc Tryz.prog w 0 (fun _ => true) true 70 v d p) (hL : Light Tryz.prog 70 d) :
    ∃ fs, FieldsAt w v fs := by
  obtain ⟨n, fuel, css, D, Pl, hs, hel⟩ := seg_of_trod Tryz.underlying70 cells_fld (by rw [bytes_fld]; omega) hv h hL
  haveI : Inhabited Fld := ⟨.zero⟩
  obtain ⟨f, hf⟩ := choose_lt (α := Fld) (n := n) (p := fun i f => f.Ok ∧ css i = f.cells) (fun i hi => by
    obtain ⟨h1, h2, h3⟩ := hel i hi
    exact fld_of_trod h2 h3)
  refine ⟨(List.range n).map f, ?_, fun g hg => ?_⟩
  · rw [List.length_map, List.length_range]
    have : ((List.range n).map f).flatMap Fld.cells = (List.range n).flatMap css := by
      rw [List.flatMap_map]
      exact flatMap_congr' (fun i hi => ((hf i (List.mem_range.1 hi)).2).symm)
    rw [this]
    exact hs
  · obtain ⟨i, hi, rfl⟩ := List.mem_map.1 hg
    exact (hf i (List.mem_range.1 hi)).1

set_option maxRecDepth 100000 in
theorem schema_of_trod {H : Type} {enc : TypeId × Value → H} {w : World} {v : Value} {d : DataW H} {p : List MemPlace} (hv : ∃ a n c, v = .slice a n c) (h : DataW.Trod enc Tryz.prog w 0 (fun _ => true) true 23 v d p) (hL : Light Tryz.prog 23 d) :
    ∃ s, SchemaAt w v s := by
  obtain ⟨n, fuel, css, D, Pl, hs, hel⟩ := seg_of_trod Tryz.underlying23 cells_mes (by rw [bytes_mes]; omega) hv h hL
  haveI : Inhabited (Mes × Value) := ⟨(.zero, undef)⟩
  obtain ⟨m, hm⟩ := choose_lt (α := Mes × Value) (n := n) (p := fun i m => m.1.name.size ≤ 140737488355328 ∧ css i = mesCells m ∧ FieldsAt w m.2 m.1.fields) (fun i hi => by
    obtain ⟨h1, h2, h3⟩ := hel i hi
    obtain ⟨xs, k, -, hx, hl, hlen, hf⟩ := DataW.trod_struct Tryz.underlying72 h2
    simp only [Prod.mk.injEq] at hx
    obtain ⟨hx, -⟩ := hx
    rw [hx] at h3
    have hsub := light_struct Tryz.underlying72 h3
    match hcs : css i, h1, xs, hlen with
    | [c0, c1], _, [x0, x1], _ =>
      rw [hcs] at hf
      have g0 : DataW.trod enc Tryz.prog w 0 (fun _ => true) true k 9 [c0] = some x0 := by have := hf 0 _ rfl; simpa [cells_str] using this
      have g1 : DataW.trod enc Tryz.prog w 0 (fun _ => true) true k 70 [c1] = some x1 := by have := hf 1 _ rfl; simpa [cells_flds] using this
      obtain ⟨s, e0, r0, -⟩ := DataW.trod_string Tryz.underlying9 g0
      have hs : s.size ≤ 140737488355328 := by
        have h1 := hsub 0 _ _ rfl rfl
        rw [r0] at h1
        have h2 := h1 s.data.toList.length (by simp [DataW.weights])
        have h3 : reachBytes < 2 ^ 47 := reachBytes_lt
        simp at h2
        have h4 : s.data.size = s.size := rfl
        omega
      obtain ⟨a, q, c, rfl⟩ := trod_slice_form Tryz.underlying70 g1
      obtain ⟨fs, hfs⟩ := fields_of_trod ⟨a, q, c, rfl⟩ ⟨k, by simpa [Value.cells] using g1⟩ (hsub 1 _ _ rfl rfl)
      simp only [List.cons.injEq, and_true] at e0
      exact ⟨(⟨s, fs⟩, .slice a q c), hs, by simp [mesCells, e0], hfs⟩)
  refine ⟨(List.range n).map fun i => (m i).1, (List.range n).map fun i => (m i).2, by simp, ?_, fun x hx => ?_, fun i hi => ?_⟩
  · rw [List.length_map, List.length_range]
    have : (((List.range n).map fun i => (m i).1).zip ((List.range n).map fun i => (m i).2)).flatMap mesCells = (List.range n).flatMap css := by
      rw [List.zip_map', List.flatMap_map]
      exact flatMap_congr' (fun i hi => ((hm i (List.mem_range.1 hi)).2.1).symm)
    rw [this]
    exact hs
  · obtain ⟨i, hi, rfl⟩ := List.mem_map.1 hx
    exact (hm i (List.mem_range.1 hi)).1
  · rw [List.length_map, List.length_range] at hi
    rw [getD_range n _ undef i hi, getD_range n _ Mes.zero i hi]
    exact (hm i hi).2.2


end Go.Proofs.YtpjikakbdahmfaaGreatDoor

namespace Go.Proofs.YtpjikakbdahmfaaGreatDoor
open Go.RowKit Go.Deep

theorem cells_int1 : Tryz.prog.cellsOf 3 = 1 := by kernel_rfl
theorem bytes_int : Tryz.prog.bytesOf 3 = 8 := by kernel_rfl
theorem cells_ints : Tryz.prog.cellsOf 30 = 1 := by kernel_rfl
theorem bytes_ints : Tryz.prog.bytesOf 30 = 24 := by kernel_rfl
theorem sum_ones' : ∀ n : Nat, ((List.range n).map fun _ => 1).sum = n
  | 0 => rfl
  | n + 1 => by rw [List.range_succ, List.map_append, List.sum_append, sum_ones' n]; simp

theorem ints_of_trod {H : Type} {enc : TypeId × Value → H} {w : World} {v : Value} {d : DataW H} {p : List MemPlace} (hv : ∃ a n c, v = .slice a n c) (h : DataW.Trod enc Tryz.prog w 0 (fun _ => true) true 30 v d p) (hL : Light Tryz.prog 30 d) :
    ∃ l, IntsAt w v l ∧ l.length + 1 ≤ Rows.uptoBulk d := by
  obtain ⟨n, fuel, css, D, Pl, hs, hel, hd⟩ := seg_of_trod2 Tryz.underlying30 cells_int1 (by rw [bytes_int]; omega) hv h hL
  obtain ⟨c, hc⟩ := choose_lt (α := Int) (n := n) (p := fun i c => css i = [intV c] ∧ i64ok c) (fun i hi => by
    obtain ⟨h1, h2, -⟩ := hel i hi
    obtain ⟨z, hz, -, wz⟩ := DataW.trod_int Tryz.underlying3 h2
    have hb : -9223372036854775808 ≤ z ∧ z ≤ 9223372036854775807 := by simpa [Lit.wf, IntKind.min, IntKind.max, IntKind.signed, IntKind.bits] using wz
    exact ⟨z, hz, hb⟩)
  refine ⟨(List.range n).map c, ⟨?_, ?_⟩, ?_⟩
  · rw [List.length_map, List.length_range, List.map_map, ← flat_one n css (intV ∘ c) (fun i hi => (hc i hi).1)]
    exact hs
  · intro t ht
    obtain ⟨i, hi, rfl⟩ := List.mem_map.1 ht
    exact (hc i (List.mem_range.1 hi)).2
  · have := bulk_elems (f := fun _ => 1) hd fun i _ => bulk_one _
    rw [sum_ones'] at this
    simpa using this

theorem ways_of_trod {H : Type} {enc : TypeId × Value → H} {w : World} {v : Value} {d : DataW H} {p : List MemPlace} (hv : ∃ a n c, v = .slice a n c) (h : DataW.Trod enc Tryz.prog w 0 (fun _ => true) true 25 v d p) (hL : Light Tryz.prog 25 d) :
    ∃ ls, WaysAt w v ls ∧ (ls.map fun l => l.length + 1).sum + 1 ≤ Rows.uptoBulk d := by
  refine rows_of_trod WayP (fun l => l.length + 1) under_ways cells_ints (by rw [bytes_ints]; omega) hv h hL (Rows.uptoBulk d) (by omega) ?_
  intro fuel cs d' p' hx hl _
  obtain ⟨u, rfl⟩ : ∃ u, cs = [u] := by
    rcases open_slice under_ints hx with ⟨hcs, -⟩ | ⟨a, len, cap, m, n, D, Pl, hcs, -⟩
    · exact ⟨_, hcs⟩
    · exact ⟨_, hcs⟩
  obtain ⟨a, n, c, rfl⟩ := trod_slice_form under_ints hx
  obtain ⟨l, h1, h2⟩ := ints_of_trod ⟨a, n, c, rfl⟩ ⟨fuel, hx⟩ hl
  exact ⟨l, ⟨_, rfl, h1⟩, h2⟩

theorem sum_light : ∀ (ls : List (List Int)), ls.length ≤ (ls.map fun l => l.length + 1).sum ∧ ∀ l ∈ ls, l.length ≤ (ls.map fun l => l.length + 1).sum
  | [] => by simp
  | x :: r => by
    obtain ⟨h1, h2⟩ := sum_light r
    refine ⟨by simp; omega, fun l hl => ?_⟩
    rw [List.map_cons, List.sum_cons]
    rcases List.mem_cons.1 hl with e | hl
    · rw [e]; omega
    · have := h2 l hl; omega
theorem light_of_bulk {ls : List (List Int)} (h : (ls.map fun l => l.length + 1).sum ≤ 1048576) : LightW ls := by
  obtain ⟨h1, h2⟩ := sum_light ls
  exact ⟨by omega, fun l hl => by have := h2 l hl; omega⟩

end Go.Proofs.YtpjikakbdahmfaaGreatDoor
