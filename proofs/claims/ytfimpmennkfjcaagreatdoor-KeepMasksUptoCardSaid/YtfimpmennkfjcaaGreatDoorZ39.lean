/- mask.Paths. The mask has at most 2^40 ways, each of at most 2^30 numbers. Plain law: a mask's paths make the same mask, and each path that made it is in it. Plain laws: what the parts by paths are (partsC, namedC); the plain law of KeepUnion. No condition but lengths. -/
import Derived.Test.YtfimpmennkfjcaaGreatDoorZ17
import Derived.Test.YtfimpmennkfjcaaGreatDoorZ28
import Derived.Test.YtfimpmennkfjcaaGreatDoorZ37
import Derived.Test.YtfimpmennkfjcaaGreatDoorZ38
import Derived.Deep.RegionHeld3
namespace Go.Proofs.YtfimpmennkfjcaaGreatDoor
open Go.RowKit
/-- the paths of ways -/
def pathsW (s : List Mes) (root : Int) : List (List Int) → Option (List (List UInt8))
  | [] => some []
  | w :: r => match namesW s root w with
    | none => none
    | some ns => if joinOk ns = true then (pathsW s root r).map (sjoin ns :: ·) else none
def pathsC (s : List Mes) (root : Int) (ws : List (List Int)) : Nat × List (List UInt8) :=
  if maskArgs s root ≠ 0 then (maskArgs s root, []) else if isMaskW ws = false then (10, []) else match pathsW s root ws with | some l => (0, l) | none => (10, [])
theorem sright_name {s : List Mes} (h : sright s = true) (m : Mes) (hm : m ∈ s) (f : Fld) (hf : f ∈ m.fields) : f.name.size ≤ 60 := by
  have h0 : (scheck s).2.2 = 0 := of_decide_eq_true h
  unfold scheck at h0
  by_cases h1 : s.length = 0 ∨ 100 < s.length
  · rw [if_pos h1] at h0; simp at h0
  rw [if_neg h1] at h0
  obtain ⟨h2, -, -⟩ := scheckGo_ok s [] 0 h0 _ hm
  obtain ⟨nm, nu, h3⟩ := fieldsFault_none _ _ _ h2 f hf
  have h4 := (fieldFault_ok h3).1
  unfold nameOk at h4
  simp at h4
  exact h4.2.2
theorem fieldOfNum_mem {s : List Mes} {root n : Int} {f : Fld} (h : fieldOfNum s root n = some f) (h0 : 0 ≤ root) (h1 : root < s.length) : f ∈ (s.getD root.toNat .zero).fields ∧ s.getD root.toNat .zero ∈ s ∧ f.number = n := by
  unfold fieldOfNum at h
  have h2 := List.mem_of_find?_eq_some h
  have h3 := List.find?_some h
  exact ⟨h2, getD_memM _ _ _ (by omega), by simpa using h3⟩
theorem look_steps {w : World} {r : Nat} {s : List Mes} (h : MapIs w r stepK (stepsOf s 0)) {root n : Int} (h0 : 0 ≤ root) (h1 : root < s.length) :
    (Instr.lookup 151 (.map (some r)) (.agg #[.int .i64 root, .int .i64 n]) true).run Tryz.prog w = .ok (.tuple #[((fieldOfNum s root n).map Fld.val).getD (Fld.val .zero), .bool (fieldOfNum s root n).isSome]) w := by
  have hz : ∀ w : World, (zeroValue 64).run Tryz.prog w = .ok (Fld.val .zero) w := fun w => by kernel_rfl
  have := map_lookup (P := Tryz.prog) step_ok Tryz.underlying151 hz h (root, n) true
  rw [getOf_steps h0 h1] at this
  simp only [stepK, if_true] at this
  rw [this]
  cases fieldOfNum s root n <;> rfl
def PathsPost (w : World) (x : Nat × List (List UInt8)) (e : Ending) (w' : World) : Prop := ∃ v', e = .returned (.tuple #[v', .int .u8 (x.1 : Nat)]) ∧ StrsOwn w' w.heap.size v' x.2 ∧ Below w.heap.size w w'
theorem twt_le : ∀ l : List (List UInt8), (∀ t ∈ l, t.length ≤ 60) → twt l ≤ 61 * l.length
  | [], _ => by simp [twt]
  | x :: r, h => by
    have h1 := twt_le r fun t ht => h t (by simp [ht])
    have h2 := h x (by simp)
    unfold twt at h1 ⊢
    rw [List.map_cons, List.sum_cons, List.length_cons]
    omega
set_option maxRecDepth 100000 in
set_option maxHeartbeats 8000000 in
theorem mask_Paths {w : World} {sv mv : Value} {s : List Mes} {ws : List (List Int)} (hS : SchemaAt w sv s) (root : Int) (hM : WaysAt w mv ws) (hL : LightW ws) (hL2 : ∀ l ∈ ws, l.length ≤ 1073741824) :
    Calls Tryz.prog 58 #[sv, .int .i64 root, maskV mv] w (PathsPost w (pathsC s root ws)) := by
  unfold maskV
  obtain ⟨wB, HWB⟩ : ∃ wB, Hid (wB = w.alloc (.cells #[mv] 37)) := ⟨_, rfl⟩
  have hB0 : Below w.heap.size w wB := by rw [HWB.out]; (repeat (first | with_reducible exact Below.refl _ _ | with_reducible refine Below.setCell ?_ (by first | omega | (simp; omega) | (simp; done)) _ | with_reducible refine Below.alloc ?_ (by first | omega | (simp; omega) | (simp; done)) _ | with_reducible refine below_drewN ?_ _ | with_reducible refine Below.drew ?_))
  have HB0 := hid hB0
  have hbx : Blk wB w.heap.size [mv] 37 := by rw [HWB.out]; exact Blk.new w [mv] _
  have HS := hid (hS.below hB0)
  have HMW := hid (hM.below hB0)
  have HAR := hid (mask_args (hS.below hB0) root)
  have HLL := hid hL
  have HL2 := hid hL2
  obtain ⟨-, sa, sc, rfl, -⟩ := hS.open
  obtain ⟨m, HM⟩ : ∃ m, Hid (m = s.length) := ⟨_, rfl⟩
  rw [← HM.out] at HS HAR ⊢
  obtain ⟨-, ma, mc, rfl, -, -⟩ := hM.open
  obtain ⟨n, HN⟩ : ∃ n, Hid (n = ws.length) := ⟨_, rfl⟩
  rw [← HN.out] at HMW HWB hbx ⊢
  have HBX := hid hbx
  obtain ⟨Q, HQ⟩ : ∃ Q : Ending → World → Prop, Hid (Q = PathsPost w (pathsC s root ws)) := ⟨_, rfl⟩
  rw [← HQ.out]
  have HBAD : Hid (∀ w' (c : Nat), Below w.heap.size w w' → pathsC s root ws = (c, []) → Q (.returned (.tuple #[.slice none 0 0, .int .u8 (c : Int)])) w') := by
    intro w' c hb h
    rw [HQ.out, h]
    exact ⟨_, rfl, World.ownsRow_nil _ _ _ _, hb⟩
  obtain ⟨ac, HAC⟩ : ∃ ac, Hid (ac = maskArgs s root) := ⟨_, rfl⟩
  rw [← HAC.out] at HAR
  have HCASES := hid (maskArgs_cases s root)
  clear hS hM hL hL2 hB0 hbx
  by_cases hac : ac = 0
  · obtain ⟨hsr, hr0, hr1⟩ : sright s = true ∧ 0 ≤ root ∧ root < s.length := by
      rcases HCASES.out with h | h | h
      · rw [← HAC.out, hac] at h; cases h
      · rw [← HAC.out, hac] at h; cases h
      · exact h.2
    have HAZ : Hid (maskArgs s root = 0) := by rw [Hid, ← HAC.out]; exact hac
    subst hac
    have HE : Hid (pathsC s root ws = if isMaskW ws = false then (10, []) else match pathsW s root ws with | some l => (0, l) | none => (10, [])) := by
      rw [Hid, pathsC, if_neg (by rw [HAZ.out]; decide)]
    have HSR := hid hsr
    have HR01 := hid (And.intro hr0 hr1)
    clear hsr hr0 hr1
    go_enter Tryz.func58, Tryz.ntmps58
    go_wp2_with fail
    rw [← HWB.out]
    refine HAR.out.mono ?_
    rintro e w1 ⟨rfl, hb1⟩
    have HB1 : Hid (Below w.heap.size w w1) := below_step HB0.out hb1 HB0.out.size
    have c0 := (HBX.out.below hb1).cell 0 _ rfl
    have HBX1 := hid (HBX.out.below hb1)
    have hri := mask_right (HMW.out.below hb1) HLL.out
    unfold maskV at hri
    obtain ⟨z, HZ⟩ : ∃ z, Hid (z = isMaskW ws) := ⟨_, rfl⟩
    rw [← HZ.out] at hri HE
    have HRI := hid hri
    have HS1 := hid (HS.out.below hb1)
    have HMW1 := hid (HMW.out.below hb1)
    clear hb1 hri
    go_wp2_with fail
    refine HRI.out.mono ?_
    rintro e w2 ⟨rfl, hb2⟩
    have HB2 : Hid (Below w.heap.size w w2) := below_step HB1.out hb2 HB1.out.size
    cases z with
    | false =>
      clear hb2
      go_wp2_with fail
      exact HBAD.out _ 10 HB2.out (by rw [HE.out]; rfl)
    | true =>
      have HE2 : Hid (pathsC s root ws = match pathsW s root ws with | some l => (0, l) | none => (10, [])) := by rw [Hid, HE.out]; rfl
      have HST := hid (mask_steps (HS1.out.below hb2) HSR.out)
      have HBX2 := hid (HBX1.out.below hb2)
      have HMW2 := hid (HMW1.out.below hb2)
      clear hb2 c0
      go_wp2_with fail
      refine HST.out.mono ?_
      rintro e w3 ⟨mr, rfl, hMI, hb3⟩
      have HB3 : Hid (Below w.heap.size w w3) := below_step HB2.out hb3 HB2.out.size
      have c0 := (HBX2.out.below hb3).cell 0 _ rfl
      have HMI := hid hMI
      have HMW3 := hid (HMW2.out.below hb3)
      obtain ⟨-, ma', mc', he, -, hat⟩ := HMW3.out.open
      rw [← HN.out] at he
      cases he
      have HAT := hid hat
      have hn : n ≤ 1099511627776 := by rw [HN.out]; exact HLL.out.1
      clear hMI hb3 hat
      go_wp2_with fail
      go_loopw [10, 35] (fun v10 v35 wr => ∃ (i : Nat) (ls : List (List UInt8)), v35 = .int .i64 i ∧ i ≤ n ∧ Hid (StrsOwn wr w3.heap.size v10 ls ∧ Below w3.heap.size w3 wr ∧ ls.length = i ∧ pathsW s root ws = (pathsW s root (ws.drop i)).map (ls ++ ·))) (fun _ v35 _ => n - (intOf v35).toNat)
      case atStart => exact ⟨0, [], rfl, by omega, World.ownsRow_nil _ _ _ _, Below.refl _ _, rfl, by simp⟩
      case round =>
        obtain ⟨i, ls, rfl, hi, HI⟩ := hrel
        obtain ⟨oa, oc, hoe⟩ := HI.out.1.form
        rw [HI.out.2.2.1] at hoe
        subst hoe
        by_cases hlt : i < n
        · obtain ⟨y, hy⟩ := way_get HN.out hlt
          obtain ⟨b, o, ya, yc, ha, g0, hY⟩ := HAT.out i y hy
          have hix := index_run1 Tryz.underlying34 size_ints ha i hlt (cap := mc)
          replace g0 := below_keeps HI.out.2.1 _ _ g0
          have HYL : Hid (y.length ≤ 1073741824) := HL2.out y (List.mem_of_getElem? hy)
          obtain ⟨yn, HYN⟩ : ∃ yn, Hid (yn = y.length) := ⟨_, rfl⟩
          have hyn : yn ≤ 1073741824 := by rw [HYN.out]; exact HYL.out
          rw [← HYN.out] at g0 hY
          have HD := hid (drop_at hy)
          obtain ⟨-, ya', yc', hye, -, hyat⟩ := hY.open
          rw [← HYN.out] at hye
          cases hye
          have HYAT := hid hyat
          have HPW : Hid (pathsW s root ws = match namesW s root y with | none => none | some ns => if joinOk ns = true then (pathsW s root (ws.drop (i + 1))).map ((ls ++ [sjoin ns]) ++ ·) else none) := by
            rw [Hid, HI.out.2.2.2, HD.out, pathsW]
            cases namesW s root y with
            | none => rfl
            | some ns =>
              simp only
              split
              · cases pathsW s root (ws.drop (i + 1)) <;> simp
              · rfl
          obtain ⟨wo, rfl⟩ : ∃ wo : World, wo = wr := ⟨_, rfl⟩
          clear hy ha hY hyat
          go_wp2_with fail
          go_loopw [13, 14, 42] (fun v13 v14 v42 wr => ∃ (at' : Int) (q : Nat) (ns : List (List UInt8)), v13 = .int .i64 at' ∧ v42 = .int .i64 q ∧ q ≤ yn ∧ Hid (StrsOwn wr wo.heap.size v14 ns ∧ Below wo.heap.size wo wr ∧ ns.length = q ∧ namesW s root y = (namesW s at' (y.drop q)).map (ns ++ ·) ∧ (q < yn → 0 ≤ at' ∧ at' < s.length) ∧ ∀ t ∈ ns, t.length ≤ 60)) (fun _ _ v42 _ => yn - (intOf v42).toNat)
          case atStart => exact ⟨root, 0, [], rfl, rfl, by omega, World.ownsRow_nil _ _ _ _, Below.refl _ _, rfl, by simp, fun _ => HR01.out, by simp⟩
          case round =>
            obtain ⟨at', q, ns, rfl, rfl, hq, HJ⟩ := hrel
            obtain ⟨na, nc, hne⟩ := HJ.out.1.form
            rw [HJ.out.2.2.1] at hne
            subst hne
            by_cases hlt2 : q < yn
            · obtain ⟨nb, hnb⟩ := int_get HYN.out hlt2
              obtain ⟨h64, b2, o2, ha2, g2⟩ := HYAT.out q nb hnb
              have hix2 := index_run1 Tryz.underlying56 size_int ha2 q hlt2 (cap := yc)
              have hbw : Below w3.heap.size w3 wr := HI.out.2.1.trans (HJ.out.2.1.mono HI.out.2.1.size)
              replace g2 := below_keeps hbw _ _ g2
              have HDQ := hid (drop_at hnb)
              obtain ⟨hat0, hat1⟩ := HJ.out.2.2.2.2.1 hlt2
              have hlook := look_steps (mapIs_later HMI.out hbw) (n := nb) hat0 hat1
              obtain ⟨of, HOF⟩ : ∃ of, Hid (of = fieldOfNum s at' nb) := ⟨_, rfl⟩
              have HFM : Hid (∀ f, of = some f → f ∈ (s.getD at'.toNat .zero).fields ∧ s.getD at'.toNat .zero ∈ s ∧ f.number = nb) := fun f hf => fieldOfNum_mem (HOF.out ▸ hf) hat0 hat1
              rw [← HOF.out] at hlook
              have HAT01 := hid (And.intro hat0 hat1)
              clear hnb ha2 h64 hbw hat0 hat1
              cases of with
              | none =>
                have HX : Hid (pathsC s root ws = (10, [])) := by
                  rw [Hid, HE2.out, HPW.out, HJ.out.2.2.2.1, HDQ.out, namesW, ← HOF.out]; rfl
                have HBW : Hid (Below w.heap.size w wr) := HB3.out.trans ((HI.out.2.1.trans (HJ.out.2.1.mono HI.out.2.1.size)).mono HB3.out.size)
                simp only [Option.map_none, Option.getD_none, Option.isSome_none, Fld.val, Fld.zero] at hlook
                go_wp2_with fail
                exact HBAD.out _ 10 (HBW.out.alloc HBW.out.size _) HX.out
              | some f =>
                obtain ⟨hfm, hsm, hfn⟩ := HFM.out f rfl
                have HN60 : Hid (f.name.size ≤ 60) := sright_name HSR.out _ hsm f hfm
                have HK17 : Hid (f.kind = 17 → 0 ≤ f.of ∧ f.of < s.length) := by
                  refine (sright_field HSR.out at'.toNat ?_ f hfm).2.1
                  have := HAT01.out; omega
                have HNW : Hid (namesW s root y = if y.drop (q + 1) ≠ [] ∧ (f.rep = true ∨ f.kind ≠ 17) then none else (namesW s f.of (y.drop (q + 1))).map ((ns ++ [f.name.data.toList]) ++ ·)) := by
                  rw [Hid, HJ.out.2.2.2.1, HDQ.out, namesW, ← HOF.out]
                  simp only
                  split
                  · rfl
                  · cases namesW s f.of (y.drop (q + 1)) <;> simp
                have HNIL : Hid (y.drop (q + 1) ≠ [] ↔ q + 1 < yn) := by
                  show _ ↔ _
                  rw [HYN.out]
                  constructor
                  · intro h
                    rcases Nat.lt_or_ge (q + 1) y.length with h1 | h1
                    · exact h1
                    · exact absurd (List.drop_eq_nil_of_le h1) h
                  · intro h e
                    have := congrArg List.length e
                    simp at this; omega
                have HBW : Hid (Below w.heap.size w wr) := HB3.out.trans ((HI.out.2.1.trans (HJ.out.2.1.mono HI.out.2.1.size)).mono HB3.out.size)
                simp only [Option.map_some, Option.getD_some, Option.isSome_some, Fld.val] at hlook
                obtain ⟨fname, fnum, fkind, frep, fpack, fof⟩ := f
                simp only at HN60 HK17 HNW hlook
                clear hfm hsm hfn
                by_cases hbad : q + 1 < yn ∧ (frep = true ∨ fkind ≠ 17)
                · have HX : Hid (pathsC s root ws = (10, [])) := by
                    rw [Hid, HE2.out, HPW.out, HNW.out, if_pos ⟨HNIL.out.2 hbad.1, hbad.2⟩]
                  obtain ⟨hb1, hb2⟩ := hbad
                  have e1 : decide ((q : Int) < (yn : Int) - 1) = true := decide_eq_true (by omega)
                  cases frep with
                  | true =>
                    go_wp2_with fail
                    exact HBAD.out _ 10 (HBW.out.alloc HBW.out.size _) HX.out
                  | false =>
                    have h17 : fkind ≠ 17 := by rcases hb2 with h | h; cases h; exact h
                    have k1 : (fkind != 17) = true := by simpa using h17
                    have k2 : (fkind == 17) = false := by simpa using h17
                    clear hb2 h17
                    go_wp2_with fail
                    exact HBAD.out _ 10 (HBW.out.alloc HBW.out.size _) HX.out
                · rw [if_neg (fun h => hbad ⟨HNIL.out.1 h.1, h.2⟩)] at HNW
                  obtain ⟨W1, HW1⟩ : ∃ W1, Hid (W1 = wr.alloc (.cells #[.string fname, .int .i64 fnum, .int .i64 fkind, .bool frep, .bool fpack, .int .i64 fof] 64)) := ⟨_, rfl⟩
                  have hbx : Blk W1 wr.heap.size [.string fname, .int .i64 fnum, .int .i64 fkind, .bool frep, .bool fpack, .int .i64 fof] 64 := by rw [HW1.out]; exact Blk.new wr [.string fname, .int .i64 fnum, .int .i64 fkind, .bool frep, .bool fpack, .int .i64 fof] _
                  have hb1 : Below wr.heap.size wr W1 := by rw [HW1.out]; (repeat (first | with_reducible exact Below.refl _ _ | with_reducible refine Below.setCell ?_ (by first | omega | (simp; omega) | (simp; done)) _ | with_reducible refine Below.alloc ?_ (by first | omega | (simp; omega) | (simp; done)) _ | with_reducible refine below_drewN ?_ _ | with_reducible refine Below.drew ?_))
                  have hbd : Below wr.heap.size wr W1.drew := hb1.drew
                  have hsv : strV fname.data.toList = .string fname := by unfold strV; simp
                  have hs1 : wo.heap.size ≤ W1.drew.heap.size := Nat.le_trans HJ.out.2.1.size hb1.size
                  have hown1 := HJ.out.1.later hbd
                  obtain ⟨v8, w8, hr8, hO8, hg8⟩ := StrsOwn.one hown1 fname.data.toList (by rw [HJ.out.2.2.1]; omega) hs1
                  obtain ⟨a8, c8, e8⟩ := hO8.form
                  rw [List.length_append, List.length_singleton, HJ.out.2.2.1] at e8
                  subst e8
                  rw [hsv] at hr8
                  have hX8 : Blk w8 wr.heap.size [.string fname, .int .i64 fnum, .int .i64 fkind, .bool frep, .bool fpack, .int .i64 fof] 64 := (hg8.block _ hbx.lt (fun e => by have := (World.ownsRow.lt HJ.out.1 _ e.symm).2; omega)).trans hbx
                  have k0 := And.intro (show W1.drew.cell? ⟨wr.heap.size, 0, none⟩ = some (.string fname) from hbx.cell 0 _ rfl) (show W1.drew.cell? ⟨wr.heap.size, 5, none⟩ = some (.int .i64 fof) from hbx.cell 5 _ rfl)
                  have k1 := And.intro (show (W1.alloc (.cells #[.string fname] 9)).drew.cell? ⟨wr.heap.size, 0, none⟩ = some (.string fname) from (hbx.alloc _).cell 0 _ rfl) (show (W1.alloc (.cells #[.string fname] 9)).drew.cell? ⟨wr.heap.size, 5, none⟩ = some (.int .i64 fof) from (hbx.alloc _).cell 5 _ rfl)
                  have k3 := And.intro (hX8.cell 0 _ rfl) (hX8.cell 5 _ rfl)
                  have HR8 : Hid ((Builtin.append_ #[25, 25] 25 #[.slice na q nc, .slice (some ⟨W1.heap.size, 0, none⟩) 1 1]).run Tryz.prog (W1.alloc (.cells #[.string fname] 9)).drew = .ok (.slice a8 (q + 1) c8) w8) := hr8
                  have HREL : Hid (StrsOwn w8 wo.heap.size (.slice a8 (q + 1) c8) (ns ++ [fname.data.toList]) ∧ Below wo.heap.size wo w8 ∧ (ns ++ [fname.data.toList]).length = q + 1 ∧ namesW s root y = (namesW s fof (y.drop (q + 1))).map ((ns ++ [fname.data.toList]) ++ ·) ∧ (q + 1 < yn → 0 ≤ fof ∧ fof < s.length) ∧ ∀ t ∈ ns ++ [fname.data.toList], t.length ≤ 60) := by
                    refine ⟨hO8, (HJ.out.2.1.trans (hbd.mono HJ.out.2.1.size)).grown hg8 hs1 (fun e1 e2 => (World.ownsRow.lt HJ.out.1 e1 e2).1), by rw [List.length_append, HJ.out.2.2.1]; rfl, HNW.out, fun h => ?_, fun t ht => ?_⟩
                    · refine HK17.out ?_
                      exact Classical.byContradiction fun h17 => hbad ⟨h, .inr h17⟩
                    · rcases List.mem_append.1 ht with ht | ht
                      · exact HJ.out.2.2.2.2.2 t ht
                      · have e : t = fname.data.toList := by simpa using ht
                        rw [e]
                        have := HN60.out
                        rw [Array.length_toList]; exact this
                  clear hbx hb1 hbd hsv hs1 hown1 hr8 hO8 hg8 hX8
                  by_cases hq1 : q + 1 < yn
                  · have e1 : decide ((q : Int) < (yn : Int) - 1) = true := decide_eq_true (by omega)
                    have hrep : frep = false := by cases frep; rfl; exact absurd ⟨hq1, .inl rfl⟩ hbad
                    have h17 : fkind = 17 := Classical.byContradiction fun h => hbad ⟨hq1, .inr h⟩
                    subst hrep
                    subst h17
                    clear hbad
                    go_wp2_with fail
                    rw [← HW1.out]
                    go_region_held3 (fun w' => w'.cell? ⟨wr.heap.size, 0, none⟩ = some (.string fname) ∧ w'.cell? ⟨wr.heap.size, 5, none⟩ = some (.int .i64 fof)) (first | (with_reducible exact k0) | (with_reducible exact k1) | (with_reducible exact k3) | go_keep) (first | (refine step_append_eq rfl (.tmp 73) (.tmp 76) _ rfl _ _ rfl rfl HR8.out ?_))
                    go_wp2_with fail
                    go_roundw
                    case rel => exact ⟨fof, q + 1, _, rfl, by go_num, hlt2, HREL.out⟩
                    case measure => simp [intOf]; omega
                  · have e1 : decide ((q : Int) < (yn : Int) - 1) = false := decide_eq_false (by omega)
                    have e2 : ¬ ((q : Int) < (yn : Int) - 1) := by omega
                    clear hbad hq1
                    go_wp2_with fail
                    rw [← HW1.out]
                    go_region_held3 (fun w' => w'.cell? ⟨wr.heap.size, 0, none⟩ = some (.string fname) ∧ w'.cell? ⟨wr.heap.size, 5, none⟩ = some (.int .i64 fof)) (first | (with_reducible exact k0) | (with_reducible exact k1) | (with_reducible exact k3) | go_keep) (first | (refine step_append_eq rfl (.tmp 73) (.tmp 76) _ rfl _ _ rfl rfl HR8.out ?_))
                    go_wp2_with fail
                    go_roundw
                    case rel => exact ⟨fof, q + 1, _, rfl, by go_num, hlt2, HREL.out⟩
                    case measure => simp [intOf]; omega
            · obtain rfl : q = yn := by omega
              have HNS : Hid (namesW s root y = some ns) := by
                rw [Hid, HJ.out.2.2.2.1, List.drop_eq_nil_of_le (by rw [← HYN.out]; omega), namesW]; simp
              have hst := StrsOwn.strs HJ.out.1 (by rw [HJ.out.2.2.1]; omega) (fun t ht => by have := HJ.out.2.2.2.2.2 t ht; omega)
              have hJN := path_Join hst (by have := twt_le ns HJ.out.2.2.2.2.2; rw [HJ.out.2.2.1] at this; omega)
              rw [HNS.out] at HPW
              have HJN := hid hJN
              obtain ⟨jb, HJB⟩ : ∃ jb, Hid (jb = joinOk ns) := ⟨_, rfl⟩
              rw [← HJB.out] at HJN
              simp only [← HJB.out] at HPW
              obtain ⟨jt, HJT⟩ : ∃ jt, Hid (jt = sjoin ns) := ⟨_, rfl⟩
              rw [← HJT.out] at HJN
              have HBW : Hid (Below w.heap.size w wr) := HB3.out.trans ((HI.out.2.1.trans (HJ.out.2.1.mono HI.out.2.1.size)).mono HB3.out.size)
              clear hst hJN hlt2
              go_wp2_with fail
              refine HJN.out.mono ?_
              rintro e w7 ⟨rfl, hb7⟩
              have HB7 := hid hb7
              cases jb with
              | false =>
                have HX : Hid (pathsC s root ws = (10, [])) := by rw [Hid, HE2.out, HPW.out]; rfl
                clear hb7
                unfold strV
                simp only [Bool.false_eq_true, if_false]
                go_wp2_with fail
                exact HBAD.out _ 10 (below_step HBW.out HB7.out HBW.out.size) HX.out
              | true =>
                have HPW2 : Hid (pathsW s root ws = (pathsW s root (ws.drop (i + 1))).map ((ls ++ [jt]) ++ ·)) := by
                  rw [Hid, HPW.out, HJT.out]; rfl
                have hbo : Below wo.heap.size wo w7 := below_step HJ.out.2.1 hb7 HJ.out.2.1.size
                obtain ⟨v8, w8, hr8, hO8, hg8⟩ := StrsOwn.one (HI.out.1.later hbo) jt (by rw [HI.out.2.2.1]; omega) (Nat.le_trans HI.out.2.1.size hbo.size)
                have hB8 : Below w3.heap.size w3 w8 := (below_step HI.out.2.1 hbo HI.out.2.1.size).grown hg8 (Nat.le_trans HI.out.2.1.size hbo.size) (fun e1 e2 => (World.ownsRow.lt (HI.out.1.later hbo) e1 e2).1)
                obtain ⟨a8, c8, e8⟩ := hO8.form
                rw [List.length_append, List.length_singleton, HI.out.2.2.1] at e8
                subst e8
                have HREL : Hid (StrsOwn w8 w3.heap.size (.slice a8 (i + 1) c8) (ls ++ [jt]) ∧ Below w3.heap.size w3 w8 ∧ (ls ++ [jt]).length = i + 1 ∧ pathsW s root ws = (pathsW s root (ws.drop (i + 1))).map ((ls ++ [jt]) ++ ·)) :=
                  ⟨hO8, hB8, by rw [List.length_append, HI.out.2.2.1]; rfl, HPW2.out⟩
                unfold strV at hr8 ⊢
                simp only [if_true]
                clear hb7 hbo hO8 hg8 hB8
                go_wp2_with (at_builtin; refine wpList_append_eq rfl _ _ _ rfl _ _ rfl rfl hr8 ?_)
                go_roundw
                case rel => exact ⟨i + 1, _, by go_num, hlt, HREL.out⟩
                case measure => simp [intOf]; omega
        · obtain rfl : i = n := by omega
          have HX : Hid (pathsC s root ws = (0, ls)) := by
            rw [Hid, HE2.out, HI.out.2.2.2, List.drop_eq_nil_of_le (by rw [← HN.out]; omega), pathsW]; simp
          have HFIN : Hid (Q (.returned (.tuple #[.slice oa i oc, .int .u8 0])) wr) := by
            rw [HQ.out, HX.out]
            exact ⟨_, rfl, StrsOwn.mono HI.out.1 HB3.out.size, HB3.out.trans (HI.out.2.1.mono HB3.out.size)⟩
          clear hlt
          go_wp2_with fail
          exact HFIN.out
  · have HE : Hid (pathsC s root ws = (ac, [])) := by rw [Hid, pathsC, if_pos (by rw [← HAC.out]; exact hac), HAC.out]
    have e1 : ((ac : Int) != 0) = true := by simp; exact hac
    have e2 : ((ac : Int) == 0) = false := by simp; exact hac
    have e3 : (ac != 0) = true := by simp; exact hac
    have e4 : (ac == 0) = false := by simp; exact hac
    have hac0 : 0 < ac := by omega
    clear hac
    go_enter Tryz.func58, Tryz.ntmps58
    go_wp2_with fail
    rw [← HWB.out]
    refine HAR.out.mono ?_
    rintro e w1 ⟨rfl, hb⟩
    have HB : Hid (Below w.heap.size w w1) := below_step HB0.out hb HB0.out.size
    clear hb
    go_wp2_with fail
    exact HBAD.out _ ac HB.out HE.out
end Go.Proofs.YtfimpmennkfjcaaGreatDoor
namespace Go.Proofs.YtfimpmennkfjcaaGreatDoor
open Go.RowKit
end Go.Proofs.YtfimpmennkfjcaaGreatDoor
namespace Go.Proofs.YtfimpmennkfjcaaGreatDoor
open Go.RowKit
def partsC (s : List Mes) (root d : Int) (b : List UInt8) (ws : List (List Int)) (keep : Bool) : Nat × List UInt8 :=
  if (vcheck s root b d).2 ≠ 0 then ((vcheck s root b d).2, []) else if (pathsC s root ws).1 ≠ 0 then (10, []) else (0, kpart s keep d.toNat root.toNat (mOf ws) b)
def namedC (s : List Mes) (root d : Int) (b : List UInt8) (ps : List (List UInt8)) (keep : Bool) : Nat × List UInt8 :=
  if argsCode s root d ≠ 0 then (argsCode s root d, []) else if (makeC s root ps).1 ≠ 0 then ((makeC s root ps).1, []) else partsC s root d b (makeC s root ps).2 keep
theorem make_ok {s : List Mes} {root : Int} {ps : List (List UInt8)} (h : (makeC s root ps).1 = 0) : maskArgs s root = 0 ∧ ps.length ≤ 200 ∧ ∃ a, waysOf s root ps = some a ∧ makeC s root ps = (0, mOf a) := by
  unfold makeC at h ⊢
  by_cases h0 : maskArgs s root = 0
  · rw [if_neg (by omega)] at h ⊢
    by_cases h1 : 200 < ps.length
    · rw [if_pos h1] at h; simp at h
    · rw [if_neg h1] at h ⊢
      refine ⟨h0, by omega, ?_⟩
      cases hw : waysOf s root ps with
      | none => rw [hw] at h; simp at h
      | some l => exact ⟨l, rfl, rfl⟩
  · rw [if_pos h0] at h; exact absurd h h0
theorem vcheck_of {s : List Mes} {root d : Int} {l : List UInt8} (h : argsCode s root d = 0) : (vcheck s root l d).2 = (vmsg s d.toNat root.toNat l).2 := by
  unfold vcheck; rw [if_neg (by omega)]
end Go.Proofs.YtfimpmennkfjcaaGreatDoor
