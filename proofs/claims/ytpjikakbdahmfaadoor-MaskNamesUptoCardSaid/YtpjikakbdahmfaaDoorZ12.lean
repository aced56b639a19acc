/- mask.Paths. The mask has at most 2^40 ways, each of at most 2^30 numbers. Plain law: a mask's paths make the same mask, and each path that made it is in it. darninglaw13.alive: true. darninglaw13.MaskWays: true. -/
import Derived.Test.YtpjikakbdahmfaaDoorZ10
import Derived.Test.YtpjikakbdahmfaaDoorZ11
import Derived.Deep.RegionHeld3
namespace Go.Proofs.YtpjikakbdahmfaaDoor
open Go.RowKit

/-- the paths of ways -/
def pathsW (s : List Mes) (root : Int) : List (List Int) → Option (List (List UInt8))
  | [] => some []
  | w :: r => match namesW s root w with
    | none => none
    | some ns => if joinOk ns = true then (pathsW s root r).map (sjoin ns :: ·) else none
def pathsC (s : List Mes) (root : Int) (ws : List (List Int)) : Nat × List (List UInt8) :=
  if maskArgs s root ≠ 0 then (maskArgs s root, []) else if isMaskW ws = false then (10, []) else match pathsW s root ws with | some l => (0, l) | none => (10, [])

theorem sright_name {s : List Mes} (h : sright s = true) (m : Mes) (hm : m ∈ s) (f : Fld) (hf : f ∈ m.fields) : f.name.size ≤ 60 := by
  have h0 : (scheck s).2.2 = 0 := of_decide_eq_true h
  unfold scheck at h0
  by_cases h1 : s.length = 0 ∨ 100 < s.length
  · rw [if_pos h1] at h0; simp at h0
  rw [if_neg h1] at h0
  obtain ⟨h2, -, -⟩ := scheckGo_ok s [] 0 h0 _ hm
  obtain ⟨nm, nu, h3⟩ := fieldsFault_none _ _ _ h2 f hf
  have h4 := (fieldFault_ok h3).1
  unfold nameOk at h4
  simp at h4
  exact h4.2.2

theorem fieldOfNum_mem {s : List Mes} {root n : Int} {f : Fld} (h : fieldOfNum s root n = some f) (h0 : 0 ≤ root) (h1 : root < s.length) : f ∈ (s.getD root.toNat .zero).fields ∧ s.getD root.toNat .zero ∈ s ∧ f.number = n := by
  unfold fieldOfNum at h
  have h2 := List.mem_of_find?_eq_some h
  have h3 := List.find?_some h
  exact ⟨h2, getD_mem _ _ _ (by omega), by simpa using h3⟩

theorem look_steps {w : World} {r : Nat} {s : List Mes} (h : MapIs w r stepK (stepsOf s 0)) {root n : Int} (h0 : 0 ≤ root) (h1 : root < s.length) :
    (Instr.lookup 69 (.map (some r)) (.agg #[.int .i64 root, .int .i64 n]) true).run Tryd.prog w = .ok (.tuple #[((fieldOfNum s root n).map Fld.val).getD (Fld.val .zero), .bool (fieldOfNum s root n).isSome]) w := by
  have hz : ∀ w : World, (zeroValue 55).run Tryd.prog w = .ok (Fld.val .zero) w := fun w => by kernel_rfl
  have := map_lookup (P := Tryd.prog) step_ok Tryd.underlying69 hz h (root, n) true
  rw [getOf_steps h0 h1] at this
  simp only [stepK, if_true] at this
  rw [this]
  cases fieldOfNum s root n <;> rfl

def PathsPost (w : World) (x : Nat × List (List UInt8)) (e : Ending) (w' : World) : Prop := ∃ v', e = .returned (.tuple #[v', .int .u8 (x.1 : Nat)]) ∧ StrsOwn w' w.heap.size v' x.2 ∧ Below w.heap.size w w'

theorem twt_le : ∀ l : List (List UInt8), (∀ t ∈ l, t.length ≤ 60) → twt l ≤ 61 * l.length
  | [], _ => by simp [twt]
  | x :: r, h => by
    have h1 := twt_le r fun t ht => h t (by simp [ht])
    have h2 := h x (by simp)
    unfold twt at h1 ⊢
    rw [List.map_cons, List.sum_cons, List.length_cons]
    omega

set_option maxRecDepth 100000 in
set_option maxHeartbeats 8000000 in
theorem mask_Paths {w : World} {sv mv : Value} {s : List Mes} {ws : List (List Int)} (hS : SchemaAt w sv s) (root : Int) (hM : WaysAt w mv ws) (hL : LightW ws) (hL2 : ∀ l ∈ ws, l.length ≤ 1073741824) :
    Calls Tryd.prog 22 #[sv, .int .i64 root, maskV mv] w (PathsPost w (pathsC s root ws)) := by
  unfold maskV
  obtain ⟨wB, HWB⟩ : ∃ wB, Hid (wB = w.alloc (.cells #[mv] 27)) := ⟨_, rfl⟩
  have hB0 : Below w.heap.size w wB := by rw [HWB.out]; (repeat (first | with_reducible exact Below.refl _ _ | with_reducible refine Below.setCell ?_ (by first | omega | (simp; omega) | (simp; done)) _ | with_reducible refine Below.alloc ?_ (by first | omega | (simp; omega) | (simp; done)) _ | with_reducible refine below_drewN ?_ _ | with_reducible refine Below.drew ?_))
  have HB0 := hid hB0
  have hbx : Blk wB w.heap.size [mv] 27 := by rw [HWB.out]; exact Blk.new w [mv] _
  have HS := hid (hS.below hB0)
  have HMW := hid (hM.below hB0)
  have HAR := hid (mask_args (hS.below hB0) root)
  have HLL := hid hL
  have HL2 := hid hL2
  obtain ⟨-, sa, sc, rfl, -⟩ := hS.open
  obtain ⟨m, HM⟩ : ∃ m, Hid (m = s.length) := ⟨_, rfl⟩
  rw [← HM.out] at HS HAR ⊢
  obtain ⟨-, ma, mc, rfl, -, -⟩ := hM.open
  obtain ⟨n, HN⟩ : ∃ n, Hid (n = ws.length) := ⟨_, rfl⟩
  rw [← HN.out] at HMW HWB hbx ⊢
  have HBX := hid hbx
  obtain ⟨Q, HQ⟩ : ∃ Q : Ending → World → Prop, Hid (Q = PathsPost w (pathsC s root ws)) := ⟨_, rfl⟩
  rw [← HQ.out]
  have HBAD : Hid (∀ w' (c : Nat), Below w.heap.size w w' → pathsC s root ws = (c, []) → Q (.returned (.tuple #[.slice none 0 0, .int .u8 (c : Int)])) w') := by
    intro w' c hb h
    rw [HQ.out, h]
    exact ⟨_, rfl, World.ownsRow_nil _ _ _ _, hb⟩
  obtain ⟨ac, HAC⟩ : ∃ ac, Hid (ac = maskArgs s root) := ⟨_, rfl⟩
  rw [← HAC.out] at HAR
  have HCASES := hid (maskArgs_cases s root)
  clear hS hM hL hL2 hB0 hbx
  by_cases hac : ac = 0
  · obtain ⟨hsr, hr0, hr1⟩ : sright s = true ∧ 0 ≤ root ∧ root < s.length := by
      rcases HCASES.out with h | h | h
      · rw [← HAC.out, hac] at h; cases h
      · rw [← HAC.out, hac] at h; cases h
      · exact h.2
    have HAZ : Hid (maskArgs s root = 0) := by rw [Hid, ← HAC.out]; exact hac
    subst hac
    have HE : Hid (pathsC s root ws = if isMaskW ws = false then (10, []) else match pathsW s root ws with | some l => (0, l) | none => (10, [])) := by
      rw [Hid, pathsC, if_neg (by rw [HAZ.out]; decide)]
    have HSR := hid hsr
    have HR01 := hid (And.intro hr0 hr1)
    clear hsr hr0 hr1
    go_enter Tryd.func22, Tryd.ntmps22
    go_wp2_with fail
    rw [← HWB.out]
    refine HAR.out.mono ?_
    rintro e w1 ⟨rfl, hb1⟩
    have HB1 : Hid (Below w.heap.size w w1) := below_step HB0.out hb1 HB0.out.size
    have c0 := (HBX.out.below hb1).cell 0 _ rfl
    have HBX1 := hid (HBX.out.below hb1)
    have hri := mask_right (HMW.out.below hb1) HLL.out
    unfold maskV at hri
    obtain ⟨z, HZ⟩ : ∃ z, Hid (z = isMaskW ws) := ⟨_, rfl⟩
    rw [← HZ.out] at hri HE
    have HRI := hid hri
    have HS1 := hid (HS.out.below hb1)
    have HMW1 := hid (HMW.out.below hb1)
    clear hb1 hri
    go_wp2_with fail
    refine HRI.out.mono ?_
    rintro e w2 ⟨rfl, hb2⟩
    have HB2 : Hid (Below w.heap.size w w2) := below_step HB1.out hb2 HB1.out.size
    cases z with
    | false =>
      clear hb2
      go_wp2_with fail
      exact HBAD.out _ 10 HB2.out (by rw [HE.out]; rfl)
    | true =>
      have HE2 : Hid (pathsC s root ws = match pathsW s root ws with | some l => (0, l) | none => (10, [])) := by rw [Hid, HE.out]; rfl
      have HST := hid (mask_steps (HS1.out.below hb2) HSR.out)
      have HBX2 := hid (HBX1.out.below hb2)
      have HMW2 := hid (HMW1.out.below hb2)
      clear hb2 c0
      go_wp2_with fail
      refine HST.out.mono ?_
      rintro e w3 ⟨mr, rfl, hMI, hb3⟩
      have HB3 : Hid (Below w.heap.size w w3) := below_step HB2.out hb3 HB2.out.size
      have c0 := (HBX2.out.below hb3).cell 0 _ rfl
      have HMI := hid hMI
      have HMW3 := hid (HMW2.out.below hb3)
      obtain ⟨-, ma', mc', he, -, hat⟩ := HMW3.out.open
      rw [← HN.out] at he
      cases he
      have HAT := hid hat
      have hn : n ≤ 1099511627776 := by rw [HN.out]; exact HLL.out.1
      clear hMI hb3 hat
      go_wp2_with fail
      go_loopw [10, 35] (fun v10 v35 wr => ∃ (i : Nat) (ls : List (List UInt8)), v35 = .int .i64 i ∧ i ≤ n ∧ Hid (StrsOwn wr w3.heap.size v10 ls ∧ Below w3.heap.size w3 wr ∧ ls.length = i ∧ pathsW s root ws = (pathsW s root (ws.drop i)).map (ls ++ ·))) (fun _ v35 _ => n - (intOf v35).toNat)
      case atStart => exact ⟨0, [], rfl, by omega, World.ownsRow_nil _ _ _ _, Below.refl _ _, rfl, by simp⟩
      case round =>
        obtain ⟨i, ls, rfl, hi, HI⟩ := hrel
        obtain ⟨oa, oc, hoe⟩ := HI.out.1.form
        rw [HI.out.2.2.1] at hoe
        subst hoe
        by_cases hlt : i < n
        · obtain ⟨y, hy⟩ := way_get HN.out hlt
          obtain ⟨b, o, ya, yc, ha, g0, hY⟩ := HAT.out i y hy
          have hix := index_run1 Tryd.underlying22 size_ints ha i hlt (cap := mc)
          replace g0 := below_keeps HI.out.2.1 _ _ g0
          have HYL : Hid (y.length ≤ 1073741824) := HL2.out y (List.mem_of_getElem? hy)
          obtain ⟨yn, HYN⟩ : ∃ yn, Hid (yn = y.length) := ⟨_, rfl⟩
          have hyn : yn ≤ 1073741824 := by rw [HYN.out]; exact HYL.out
          rw [← HYN.out] at g0 hY
          have HD := hid (drop_at hy)
          obtain ⟨-, ya', yc', hye, -, hyat⟩ := hY.open
          rw [← HYN.out] at hye
          cases hye
          have HYAT := hid hyat
          have HPW : Hid (pathsW s root ws = match namesW s root y with | none => none | some ns => if joinOk ns = true then (pathsW s root (ws.drop (i + 1))).map ((ls ++ [sjoin ns]) ++ ·) else none) := by
            rw [Hid, HI.out.2.2.2, HD.out, pathsW]
            cases namesW s root y with
            | none => rfl
            | some ns =>
              simp only
              split
              · cases pathsW s root (ws.drop (i + 1)) <;> simp
              · rfl
          obtain ⟨wo, rfl⟩ : ∃ wo : World, wo = wr := ⟨_, rfl⟩
          clear hy ha hY hyat
          go_wp2_with fail
          go_loopw [13, 14, 42] (fun v13 v14 v42 wr => ∃ (at' : Int) (q : Nat) (ns : List (List UInt8)), v13 = .int .i64 at' ∧ v42 = .int .i64 q ∧ q ≤ yn ∧ Hid (StrsOwn wr wo.heap.size v14 ns ∧ Below wo.heap.size wo wr ∧ ns.length = q ∧ namesW s root y = (namesW s at' (y.drop q)).map (ns ++ ·) ∧ (q < yn → 0 ≤ at' ∧ at' < s.length) ∧ ∀ t ∈ ns, t.length ≤ 60)) (fun _ _ v42 _ => yn - (intOf v42).toNat)
          case atStart => exact ⟨root, 0, [], rfl, rfl, by omega, World.ownsRow_nil _ _ _ _, Below.refl _ _, rfl, by simp, fun _ => HR01.out, by simp⟩
          case round =>
            obtain ⟨at', q, ns, rfl, rfl, hq, HJ⟩ := hrel
            obtain ⟨na, nc, hne⟩ := HJ.out.1.form
            rw [HJ.out.2.2.1] at hne
            subst hne
            by_cases hlt2 : q < yn
            · obtain ⟨nb, hnb⟩ := int_get HYN.out hlt2
              obtain ⟨h64, b2, o2, ha2, g2⟩ := HYAT.out q nb hnb
              have hix2 := index_run1 Tryd.underlying23 size_int ha2 q hlt2 (cap := yc)
              have hbw : Below w3.heap.size w3 wr := HI.out.2.1.trans (HJ.out.2.1.mono HI.out.2.1.size)
              replace g2 := below_keeps hbw _ _ g2
              have HDQ := hid (drop_at hnb)
              obtain ⟨hat0, hat1⟩ := HJ.out.2.2.2.2.1 hlt2
              have hlook := look_steps (mapIs_later HMI.out hbw) (n := nb) hat0 hat1
              obtain ⟨of, HOF⟩ : ∃ of, Hid (of = fieldOfNum s at' nb) := ⟨_, rfl⟩
              have HFM : Hid (∀ f, of = some f → f ∈ (s.getD at'.toNat .zero).fields ∧ s.getD at'.toNat .zero ∈ s ∧ f.number = nb) := fun f hf => fieldOfNum_mem (HOF.out ▸ hf) hat0 hat1
              rw [← HOF.out] at hlook
              have HAT01 := hid (And.intro hat0 hat1)
              clear hnb ha2 h64 hbw hat0 hat1
              cases of with
              | none =>
                have HX : Hid (pathsC s root ws = (10, [])) := by
                  rw [Hid, HE2.out, HPW.out, HJ.out.2.2.2.1, HDQ.out, namesW, ← HOF.out]; rfl
                have HBW : Hid (Below w.heap.size w wr) := HB3.out.trans ((HI.out.2.1.trans (HJ.out.2.1.mono HI.out.2.1.size)).mono HB3.out.size)
                simp only [Option.map_none, Option.getD_none, Option.isSome_none, Fld.val, Fld.zero] at hlook
                go_wp2_with fail
                exact HBAD.out _ 10 (HBW.out.alloc HBW.out.size _) HX.out
              | some f =>
                obtain ⟨hfm, hsm, hfn⟩ := HFM.out f rfl
                have HN60 : Hid (f.name.size ≤ 60) := sright_name HSR.out _ hsm f hfm
                have HK17 : Hid (f.kind = 17 → 0 ≤ f.of ∧ f.of < s.length) := by
                  refine (sright_field HSR.out at'.toNat ?_ f hfm).2.1
                  have := HAT01.out; omega
                have HNW : Hid (namesW s root y = if y.drop (q + 1) ≠ [] ∧ (f.rep = true ∨ f.kind ≠ 17) then none else (namesW s f.of (y.drop (q + 1))).map ((ns ++ [f.name.data.toList]) ++ ·)) := by
                  rw [Hid, HJ.out.2.2.2.1, HDQ.out, namesW, ← HOF.out]
                  simp only
                  split
                  · rfl
                  · cases namesW s f.of (y.drop (q + 1)) <;> simp
                have HNIL : Hid (y.drop (q + 1) ≠ [] ↔ q + 1 < yn) := by
                  show _ ↔ _
                  rw [HYN.out]
                  constructor
                  · intro h
                    rcases Nat.lt_or_ge (q + 1) y.length with h1 | h1
                    · exact h1
                    · exact absurd (List.drop_eq_nil_of_le h1) h
                  · intro h e
                    have := congrArg List.length e
                    simp at this; omega
                have HBW : Hid (Below w.heap.size w wr) := HB3.out.trans ((HI.out.2.1.trans (HJ.out.2.1.mono HI.out.2.1.size)).mono HB3.out.size)
                simp only [Option.map_some, Option.getD_some, Option.isSome_some, Fld.val] at hlook
                obtain ⟨fname, fnum, fkind, frep, fpack, fof⟩ := f
                simp only at HN60 HK17 HNW hlook
                clear hfm hsm hfn
                by_cases hbad : q + 1 < yn ∧ (frep = true ∨ fkind ≠ 17)
                · have HX : Hid (pathsC s root ws = (10, [])) := by
                    rw [Hid, HE2.out, HPW.out, HNW.out, if_pos ⟨HNIL.out.2 hbad.1, hbad.2⟩]
                  obtain ⟨hb1, hb2⟩ := hbad
                  have e1 : decide ((q : Int) < (yn : Int) - 1) = true := decide_eq_true (by omega)
                  cases frep with
                  | true =>
                    go_wp2_with fail
                    exact HBAD.out _ 10 (HBW.out.alloc HBW.out.size _) HX.out
                  | false =>
                    have h17 : fkind ≠ 17 := by rcases hb2 with h | h; cases h; exact h
                    have k1 : (fkind != 17) = true := by simpa using h17
                    have k2 : (fkind == 17) = false := by simpa using h17
                    clear hb2 h17
                    go_wp2_with fail
                    exact HBAD.out _ 10 (HBW.out.alloc HBW.out.size _) HX.out
                · rw [if_neg (fun h => hbad ⟨HNIL.out.1 h.1, h.2⟩)] at HNW
                  obtain ⟨W1, HW1⟩ : ∃ W1, Hid (W1 = wr.alloc (.cells #[.string fname, .int .i64 fnum, .int .i64 fkind, .bool frep, .bool fpack, .int .i64 fof] 55)) := ⟨_, rfl⟩
                  have hbx : Blk W1 wr.heap.size [.string fname, .int .i64 fnum, .int .i64 fkind, .bool frep, .bool fpack, .int .i64 fof] 55 := by rw [HW1.out]; exact Blk.new wr [.string fname, .int .i64 fnum, .int .i64 fkind, .bool frep, .bool fpack, .int .i64 fof] _
                  have hb1 : Below wr.heap.size wr W1 := by rw [HW1.out]; (repeat (first | with_reducible exact Below.refl _ _ | with_reducible refine Below.setCell ?_ (by first | omega | (simp; omega) | (simp; done)) _ | with_reducible refine Below.alloc ?_ (by first | omega | (simp; omega) | (simp; done)) _ | with_reducible refine below_drewN ?_ _ | with_reducible refine Below.drew ?_))
                  have hbd : Below wr.heap.size wr W1.drew := hb1.drew
                  have hsv : strV fname.data.toList = .string fname := by unfold strV; simp
                  have hs1 : wo.heap.size ≤ W1.drew.heap.size := Nat.le_trans HJ.out.2.1.size hb1.size
                  have hown1 := HJ.out.1.later hbd
                  obtain ⟨v8, w8, hr8, hO8, hg8⟩ := StrsOwn.one hown1 fname.data.toList (by rw [HJ.out.2.2.1]; omega) hs1
                  obtain ⟨a8, c8, e8⟩ := hO8.form
                  rw [List.length_append, List.length_singleton, HJ.out.2.2.1] at e8
                  subst e8
                  rw [hsv] at hr8
                  have hX8 : Blk w8 wr.heap.size [.string fname, .int .i64 fnum, .int .i64 fkind, .bool frep, .bool fpack, .int .i64 fof] 55 := (hg8.block _ hbx.lt (fun e => by have := (World.ownsRow.lt HJ.out.1 _ e.symm).2; omega)).trans hbx
                  have k0 := And.intro (show W1.drew.cell? ⟨wr.heap.size, 0, none⟩ = some (.string fname) from hbx.cell 0 _ rfl) (show W1.drew.cell? ⟨wr.heap.size, 5, none⟩ = some (.int .i64 fof) from hbx.cell 5 _ rfl)
                  have k1 := And.intro (show (W1.alloc (.cells #[.string fname] 9)).drew.cell? ⟨wr.heap.size, 0, none⟩ = some (.string fname) from (hbx.alloc _).cell 0 _ rfl) (show (W1.alloc (.cells #[.string fname] 9)).drew.cell? ⟨wr.heap.size, 5, none⟩ = some (.int .i64 fof) from (hbx.alloc _).cell 5 _ rfl)
                  have k3 := And.intro (hX8.cell 0 _ rfl) (hX8.cell 5 _ rfl)
                  have HR8 : Hid ((Builtin.append_ #[43, 43] 43 #[.slice na q nc, .slice (some ⟨W1.heap.size, 0, none⟩) 1 1]).run Tryd.prog (W1.alloc (.cells #[.string fname] 9)).drew = .ok (.slice a8 (q + 1) c8) w8) := hr8
                  have HREL : Hid (StrsOwn w8 wo.heap.size (.slice a8 (q + 1) c8) (ns ++ [fname.data.toList]) ∧ Below wo.heap.size wo w8 ∧ (ns ++ [fname.data.toList]).length = q + 1 ∧ namesW s root y = (namesW s fof (y.drop (q + 1))).map ((ns ++ [fname.data.toList]) ++ ·) ∧ (q + 1 < yn → 0 ≤ fof ∧ fof < s.length) ∧ ∀ t ∈ ns ++ [fname.data.toList], t.length ≤ 60) := by
                    refine ⟨hO8, (HJ.out.2.1.trans (hbd.mono HJ.out.2.1.size)).grown hg8 hs1 (fun e1 e2 => (World.ownsRow.lt HJ.out.1 e1 e2).1), by rw [List.length_append, HJ.out.2.2.1]; rfl, HNW.out, fun h => ?_, fun t ht => ?_⟩
                    · refine HK17.out ?_
                      exact Classical.byContradiction fun h17 => hbad ⟨h, .inr h17⟩
                    · rcases List.mem_append.1 ht with ht | ht
                      · exact HJ.out.2.2.2.2.2 t ht
                      · have e : t = fname.data.toList := by simpa using ht
                        rw [e]
                        have := HN60.out
                        rw [Array.length_toList]; exact this
                  clear hbx hb1 hbd hsv hs1 hown1 hr8 hO8 hg8 hX8
                  by_cases hq1 : q + 1 < yn
                  · have e1 : decide ((q : Int) < (yn : Int) - 1) = true := decide_eq_true (by omega)
                    have hrep : frep = false := by cases frep; rfl; exact absurd ⟨hq1, .inl rfl⟩ hbad
                    have h17 : fkind = 17 := Classical.byContradiction fun h => hbad ⟨hq1, .inr h⟩
                    subst hrep
                    subst h17
                    clear hbad
                    go_wp2_with fail
                    rw [← HW1.out]
                    go_region_held3 (fun w' => w'.cell? ⟨wr.heap.size, 0, none⟩ = some (.string fname) ∧ w'.cell? ⟨wr.heap.size, 5, none⟩ = some (.int .i64 fof)) (first | (with_reducible exact k0) | (with_reducible exact k1) | (with_reducible exact k3) | go_keep) (first | (refine step_append_eq rfl (.tmp 73) (.tmp 76) _ rfl _ _ rfl rfl HR8.out ?_))
                    go_wp2_with fail
                    go_roundw
                    case rel => exact ⟨fof, q + 1, _, rfl, by go_num, hlt2, HREL.out⟩
                    case measure => simp [intOf]; omega
                  · have e1 : decide ((q : Int) < (yn : Int) - 1) = false := decide_eq_false (by omega)
                    have e2 : ¬ ((q : Int) < (yn : Int) - 1) := by omega
                    clear hbad hq1
                    go_wp2_with fail
                    rw [← HW1.out]
                    go_region_held3 (fun w' => w'.cell? ⟨wr.heap.size, 0, none⟩ = some (.string fname) ∧ w'.cell? ⟨wr.heap.size, 5, none⟩ = some (.int .i64 fof)) (first | (with_reducible exact k0) | (with_reducible exact k1) | (with_reducible exact k3) | go_keep) (first | (refine step_append_eq rfl (.tmp 73) (.tmp 76) _ rfl _ _ rfl rfl HR8.out ?_))
                    go_wp2_with fail
                    go_roundw
                    case rel => exact ⟨fof, q + 1, _, rfl, by go_num, hlt2, HREL.out⟩
                    case measure => simp [intOf]; omega
            · obtain rfl : q = yn := by omega
              have HNS : Hid (namesW s root y = some ns) := by
                rw [Hid, HJ.out.2.2.2.1, List.drop_eq_nil_of_le (by rw [← HYN.out]; omega), namesW]; simp
              have hst := StrsOwn.strs HJ.out.1 (by rw [HJ.out.2.2.1]; omega) (fun t ht => by have := HJ.out.2.2.2.2.2 t ht; omega)
              have hJN := path_Join hst (by have := twt_le ns HJ.out.2.2.2.2.2; rw [HJ.out.2.2.1] at this; omega)
              rw [HNS.out] at HPW
              have HJN := hid hJN
              obtain ⟨jb, HJB⟩ : ∃ jb, Hid (jb = joinOk ns) := ⟨_, rfl⟩
              rw [← HJB.out] at HJN
              simp only [← HJB.out] at HPW
              obtain ⟨jt, HJT⟩ : ∃ jt, Hid (jt = sjoin ns) := ⟨_, rfl⟩
              rw [← HJT.out] at HJN
              have HBW : Hid (Below w.heap.size w wr) := HB3.out.trans ((HI.out.2.1.trans (HJ.out.2.1.mono HI.out.2.1.size)).mono HB3.out.size)
              clear hst hJN hlt2
              go_wp2_with fail
              refine HJN.out.mono ?_
              rintro e w7 ⟨rfl, hb7⟩
              have HB7 := hid hb7
              cases jb with
              | false =>
                have HX : Hid (pathsC s root ws = (10, [])) := by rw [Hid, HE2.out, HPW.out]; rfl
                clear hb7
                unfold strV
                simp only [Bool.false_eq_true, if_false]
                go_wp2_with fail
                exact HBAD.out _ 10 (below_step HBW.out HB7.out HBW.out.size) HX.out
              | true =>
                have HPW2 : Hid (pathsW s root ws = (pathsW s root (ws.drop (i + 1))).map ((ls ++ [jt]) ++ ·)) := by
                  rw [Hid, HPW.out, HJT.out]; rfl
                have hbo : Below wo.heap.size wo w7 := below_step HJ.out.2.1 hb7 HJ.out.2.1.size
                obtain ⟨v8, w8, hr8, hO8, hg8⟩ := StrsOwn.one (HI.out.1.later hbo) jt (by rw [HI.out.2.2.1]; omega) (Nat.le_trans HI.out.2.1.size hbo.size)
                have hB8 : Below w3.heap.size w3 w8 := (below_step HI.out.2.1 hbo HI.out.2.1.size).grown hg8 (Nat.le_trans HI.out.2.1.size hbo.size) (fun e1 e2 => (World.ownsRow.lt (HI.out.1.later hbo) e1 e2).1)
                obtain ⟨a8, c8, e8⟩ := hO8.form
                rw [List.length_append, List.length_singleton, HI.out.2.2.1] at e8
                subst e8
                have HREL : Hid (StrsOwn w8 w3.heap.size (.slice a8 (i + 1) c8) (ls ++ [jt]) ∧ Below w3.heap.size w3 w8 ∧ (ls ++ [jt]).length = i + 1 ∧ pathsW s root ws = (pathsW s root (ws.drop (i + 1))).map ((ls ++ [jt]) ++ ·)) :=
                  ⟨hO8, hB8, by rw [List.length_append, HI.out.2.2.1]; rfl, HPW2.out⟩
                unfold strV at hr8 ⊢
                simp only [if_true]
                clear hb7 hbo hO8 hg8 hB8
                go_wp2_with (at_builtin; refine wpList_append_eq rfl _ _ _ rfl _ _ rfl rfl hr8 ?_)
                go_roundw
                case rel => exact ⟨i + 1, _, by go_num, hlt, HREL.out⟩
                case measure => simp [intOf]; omega
        · obtain rfl : i = n := by omega
          have HX : Hid (pathsC s root ws = (0, ls)) := by
            rw [Hid, HE2.out, HI.out.2.2.2, List.drop_eq_nil_of_le (by rw [← HN.out]; omega), pathsW]; simp
          have HFIN : Hid (Q (.returned (.tuple #[.slice oa i oc, .int .u8 0])) wr) := by
            rw [HQ.out, HX.out]
            exact ⟨_, rfl, StrsOwn.mono HI.out.1 HB3.out.size, HB3.out.trans (HI.out.2.1.mono HB3.out.size)⟩
          clear hlt
          go_wp2_with fail
          exact HFIN.out
  · have HE : Hid (pathsC s root ws = (ac, [])) := by rw [Hid, pathsC, if_pos (by rw [← HAC.out]; exact hac), HAC.out]
    have e1 : ((ac : Int) != 0) = true := by simp; exact hac
    have e2 : ((ac : Int) == 0) = false := by simp; exact hac
    have e3 : (ac != 0) = true := by simp; exact hac
    have e4 : (ac == 0) = false := by simp; exact hac
    have hac0 : 0 < ac := by omega
    clear hac
    go_enter Tryd.func22, Tryd.ntmps22
    go_wp2_with fail
    rw [← HWB.out]
    refine HAR.out.mono ?_
    rintro e w1 ⟨rfl, hb⟩
    have HB : Hid (Below w.heap.size w w1) := below_step HB0.out hb HB0.out.size
    clear hb
    go_wp2_with fail
    exact HBAD.out _ ac HB.out HE.out

end Go.Proofs.YtpjikakbdahmfaaDoor

namespace Go.Proofs.YtpjikakbdahmfaaDoor
open Go.RowKit

theorem waysOf_get {s : List Mes} {root : Int} : ∀ {paths : List (List UInt8)} {ws : List (List Int)}, waysOf s root paths = some ws → ∀ (i : Nat) (p : List UInt8), paths[i]? = some p → ∃ w, ws[i]? = some w ∧ resolveW s root p = some w
  | [], ws, _, i, p, hp => by simp at hp
  | q :: r, ws, h, i, p, hp => by
    rw [waysOf] at h
    split at h
    · cases h
    · rename_i x hx
      obtain ⟨l', h1, rfl⟩ := Option.map_eq_some_iff.1 h
      cases i with
      | zero => simp at hp; subst hp; exact ⟨x, rfl, hx⟩
      | succ i => simpa using waysOf_get h1 i p (by simpa using hp)
theorem waysOf_mem {s : List Mes} {root : Int} : ∀ {paths : List (List UInt8)} {ws : List (List Int)}, waysOf s root paths = some ws → ∀ w ∈ ws, ∃ p ∈ paths, resolveW s root p = some w
  | [], ws, h, w, hw => by simp [waysOf] at h; subst h; simp at hw
  | q :: r, ws, h, w, hw => by
    rw [waysOf] at h
    split at h
    · cases h
    · rename_i x hx
      obtain ⟨l', h1, rfl⟩ := Option.map_eq_some_iff.1 h
      rcases List.mem_cons.1 hw with e | hw
      · exact ⟨q, by simp, by rw [e]; exact hx⟩
      · obtain ⟨p, h2, h3⟩ := waysOf_mem h1 w hw
        exact ⟨p, by simp [h2], h3⟩
theorem resolveW_names {s : List Mes} (hs : sright s = true) {root : Int} {p : List UInt8} {w : List Int} (h : resolveW s root p = some w) : namesW s root w = some (sdot p) ∧ joinOk (sdot p) = true ∧ w ≠ [] := by
  unfold resolveW at h
  split at h
  · rename_i hp
    obtain ⟨a, b, e⟩ := sdot_cons p
    refine ⟨wayP_names hs _ _ _ h, ?_, ?_⟩
    · unfold pathOk at hp
      unfold joinOk
      simp only [Bool.and_eq_true, decide_eq_true_eq] at hp ⊢
      refine ⟨hp.2, ?_, hp.1⟩
      rw [e]; simp
    · intro hw
      subst hw
      rw [e, wayP] at h
      split at h
      · cases h
      · split at h
        · cases h
        · split at h
          · cases h
          · obtain ⟨l', -, h2⟩ := Option.map_eq_some_iff.1 h
            cases h2
  · cases h
theorem paths_back {s : List Mes} (hs : sright s = true) {root : Int} : ∀ (o : List (List Int)), (∀ w ∈ o, ∃ p, resolveW s root p = some w) → ∃ l, pathsW s root o = some l ∧ waysOf s root l = some o ∧ l.length = o.length
  | [], _ => ⟨[], rfl, rfl, rfl⟩
  | w :: r, h => by
    obtain ⟨p, hp⟩ := h w (by simp)
    obtain ⟨l, h1, h2, h3⟩ := paths_back hs r fun w hw => h w (by simp [hw])
    obtain ⟨g1, g2, -⟩ := resolveW_names hs hp
    refine ⟨p :: l, ?_, ?_, by simp [h3]⟩
    · rw [pathsW, g1]
      simp only
      rw [if_pos g2, h1, sjoin_sdot]
      rfl
    · rw [waysOf, hp]
      simp only
      rw [h2]; rfl

/-- the law, in plain words -/
theorem names_law {s : List Mes} {root : Int} {paths : List (List UInt8)} {o : List (List Int)} (h : makeC s root paths = (0, o)) :
    ∃ l, pathsC s root o = (0, l) ∧ makeC s root l = (0, o) ∧ l.length = o.length ∧ l.length ≤ paths.length ∧ ∀ (i : Nat) (p : List UInt8), paths[i]? = some p → ∃ w, resolveC s root p = (0, w) ∧ hasW o w = true := by
  rcases maskArgs_cases s root with h0 | h0 | ⟨h0, hs, -, -⟩
  · unfold makeC at h; rw [if_pos (by rw [h0]; decide), h0] at h; cases h
  · unfold makeC at h; rw [if_pos (by rw [h0]; decide), h0] at h; cases h
  · have hmk : ∀ q, makeC s root q = if 200 < q.length then (13, []) else match waysOf s root q with | some l => (0, mOf l) | none => (10, []) := fun q => by
      unfold makeC; rw [if_neg (by rw [h0]; decide)]; first | done | rfl
    have hpc : pathsC s root o = if isMaskW o = false then (10, []) else match pathsW s root o with | some l => (0, l) | none => (10, []) := by
      unfold pathsC; rw [if_neg (by rw [h0]; decide)]; first | done | rfl
    rw [hmk] at h
    split at h
    · cases h
    · rename_i hlen
      split at h
      · rename_i ws hws
        have ho : mOf ws = o := congrArg Prod.snd h
        have hmask : mOf o = o := by rw [← ho]; exact mOf_self ws
        obtain ⟨l, h1, h2, h3⟩ := paths_back hs (root := root) o fun w hw => by
          rw [← ho] at hw
          obtain ⟨p, -, hp⟩ := waysOf_mem hws w (((mOf_mask ws).2 w).1 hw).1
          exact ⟨p, hp⟩
        have hlo : o.length ≤ ws.length := by rw [← ho]; exact mOf_len ws
        have hwl := (waysOf_light hws).1
        refine ⟨l, ?_, ?_, h3, by omega, fun i p hp => ?_⟩
        · rw [hpc, if_neg (by simp [isMaskW, hmask]), h1]
        · rw [hmk, if_neg (by omega), h2]; show (0, mOf o) = (0, o); rw [hmask]
        · obtain ⟨w, hw1, hw2⟩ := waysOf_get hws i p hp
          refine ⟨w, ?_, ?_⟩
          · unfold resolveC; rw [if_neg (by rw [h0]; decide), hw2]
          · rw [← ho, mOf_has, hasW_iff]
            exact ⟨w, List.mem_of_getElem? hw1, (resolveW_names hs hw2).2.2, List.prefix_refl w⟩
      · cases h

end Go.Proofs.YtpjikakbdahmfaaDoor

namespace Go.Proofs.YtpjikakbdahmfaaDoor
open Go.RowKit

def s13 : List Mes := [⟨⟨#[109]⟩, [⟨⟨#[97]⟩, 7, 17, false, false, 0⟩, ⟨⟨#[98]⟩, 2, 1, false, false, 0⟩, ⟨⟨#[99]⟩, 3, 1, false, false, 0⟩]⟩]
def p13 : List (List UInt8) := [[97, 46, 98], [97], [97, 46, 99]]
theorem make13 : makeC s13 0 p13 = (0, [[7]]) := by decide +kernel

set_option maxRecDepth 100000 in
set_option maxHeartbeats 4000000 in
theorem law13_alive (w : World) : Calls Tryd.prog 6 #[] w fun e w' => e = .returned (.bool true) ∧ Below w.heap.size w w' := by
  go_enter Tryd.func6, Tryd.ntmps6
  go_wp2_with fail
  obtain ⟨W, HW⟩ : ∃ W, Hid (W = ((w.alloc (.cells #[.string ⟨#[97]⟩, .int .i64 7, .int .i64 17, .bool false, .bool false, .int .i64 0, .string ⟨#[98]⟩, .int .i64 2, .int .i64 1, .bool false, .bool false, .int .i64 0, .string ⟨#[99]⟩, .int .i64 3, .int .i64 1, .bool false, .bool false, .int .i64 0] 55)).alloc
    (.cells #[.string ⟨#[109]⟩, .slice (some ⟨w.heap.size, 0, none⟩) 3 3] 58)).alloc (.cells #[.string ⟨#[97, 46, 98]⟩, .string ⟨#[97]⟩, .string ⟨#[97, 46, 99]⟩] 9)) := ⟨_, rfl⟩
  have hS : SchemaAt W (.slice (some ⟨w.heap.size + 1, 0, none⟩) 1 1) s13 := by
    rw [HW.out]
    refine schema_one (Blk.alloc (Blk.new' _ [.string ⟨#[109]⟩, .slice (some ⟨w.heap.size, 0, none⟩) 3 3] _ _ (by simp)) _) (by decide) ?_
    refine fields_blk (Blk.alloc (Blk.alloc (Blk.new w _ _) _) _) 3 rfl (by omega) ?_
    intro f hf
    simp at hf
    rcases hf with rfl | rfl | rfl <;> exact ⟨by decide, by decide, by decide, by decide⟩
  have hP : StrsAt W (.slice (some ⟨w.heap.size + 1 + 1, 0, none⟩) 3 3) p13 := by
    rw [HW.out]
    refine ⟨seg_blk (Blk.new' _ (p13.map strV) 9 _ (by simp)) 1 3 rfl (by omega), by decide⟩
  have HM := hid (mask_Make hS 0 hP (by decide))
  rw [make13] at HM
  have HB : Hid (Below w.heap.size w W) := by show Below _ _ _; rw [HW.out]; (repeat (first | with_reducible exact Below.refl _ _ | with_reducible refine Below.setCell ?_ (by first | omega | (simp; omega) | (simp; done)) _ | with_reducible refine Below.alloc ?_ (by first | omega | (simp; omega) | (simp; done)) _ | with_reducible refine below_drewN ?_ _ | with_reducible refine Below.drew ?_))
  rw [← HW.out]
  clear hS hP
  refine HM.out.mono ?_
  rintro e w1 ⟨v1, rfl, hN, hb1⟩
  have HB1 : Hid (Below w.heap.size w w1) := below_step HB.out hb1 HB.out.size
  obtain ⟨b, q, a, c, hv, g0, hb5, hb5', hE⟩ := hN.elem (k := 0) (x := [7]) rfl
  obtain ⟨c1, hv1⟩ : ∃ c1, v1 = .slice (some ⟨b, q, none⟩) 1 c1 := ⟨_, hv⟩
  subst hv1
  have hI := hE w1 fun _ _ _ => rfl
  rw [Nat.add_zero] at g0
  have g0' : w1.cell? ⟨b, q, none⟩ = some (.slice a 1 c) := g0
  have hI' : IntsAt w1 (.slice a 1 c) [7] := hI
  have HI := hid hI'
  have hix := index_0 Tryd.underlying22 size_ints (a := some ⟨b, q, none⟩) rfl (by decide : 0 < 1) (cap := c1)
  unfold maskV
  clear hN hb1 hv hb5 hE hI hI' g0
  go_wp2_with fail
  have hA : Below w1.heap.size w1 ((w1.alloc (.cells #[.slice (some ⟨b, q, none⟩) 1 c1] 27)).alloc (.cells #[.int .i64 7] 3)) := by (repeat (first | with_reducible exact Below.refl _ _ | with_reducible refine Below.setCell ?_ (by first | omega | (simp; omega) | (simp; done)) _ | with_reducible refine Below.alloc ?_ (by first | omega | (simp; omega) | (simp; done)) _ | with_reducible refine below_drewN ?_ _ | with_reducible refine Below.drew ?_))
  have h7 : IntsAt ((w1.alloc (.cells #[.slice (some ⟨b, q, none⟩) 1 c1] 27)).alloc (.cells #[.int .i64 7] 3)) (.slice (some ⟨w1.heap.size + 1, 0, none⟩) 1 1) [7] :=
    ⟨seg_blk (Blk.new' _ [.int .i64 7] 3 _ (by simp)) 1 1 rfl (by omega), by simp [i64ok]⟩
  have HSM := hid (ref07_SameInts (HI.out.below hA) h7)
  have HB5 := hid (HB1.out.trans (hA.mono HB1.out.size))
  clear hA h7
  refine HSM.out.mono ?_
  rintro e w2 ⟨rfl, hd⟩
  have HB6 := hid (below_step HB5.out hd.below HB5.out.size)
  clear hd
  go_wp2_with fail
  go_ret
  exact ⟨by simp, HB6.out⟩

end Go.Proofs.YtpjikakbdahmfaaDoor

namespace Go.Proofs.YtpjikakbdahmfaaDoor
open Go.RowKit

theorem half_mOf (x y : List (List Int)) : halfW x (mOf y) = halfW x y := by
  unfold halfW
  congr 1
  funext u
  exact mOf_has y u

def LawPost (w : World) (e : Ending) (w' : World) : Prop := e = .returned (.bool true) ∧ Below w.heap.size w w'

set_option maxRecDepth 100000 in
set_option maxHeartbeats 8000000 in
theorem law13_MaskWays {w : World} {va vb vw : Value} {la lb : List (List Int)} {way : List Int} (hA : WaysAt w va la) (hB : WaysAt w vb lb) (hW : IntsAt w vw way) (hLa : LightW la) (hLb : LightW lb) (hL : la.length + lb.length ≤ 1099511627776) (x : Int) :
    Calls Tryd.prog 4 #[va, vb, .int .i64 x, vw] w (LawPost w) := by
  have HA := hid hA
  have HB := hid hB
  have HW := hid hW
  have HLL := hid (And.intro hLa hLb)
  obtain ⟨-, aa, ac, rfl, -, -⟩ := hA.open
  obtain ⟨-, ba, bc, rfl, -, -⟩ := hB.open
  obtain ⟨-, wa, wc, rfl, -, -⟩ := hW.open
  obtain ⟨na, HNA⟩ : ∃ n, Hid (n = la.length) := ⟨_, rfl⟩
  obtain ⟨nb, HNB⟩ : ∃ n, Hid (n = lb.length) := ⟨_, rfl⟩
  obtain ⟨nw, HNW⟩ : ∃ n, Hid (n = way.length) := ⟨_, rfl⟩
  rw [← HNA.out] at HA hL ⊢
  rw [← HNB.out] at HB hL ⊢
  rw [← HNW.out] at HW ⊢
  obtain ⟨Q, HQ⟩ : ∃ Q : Ending → World → Prop, Hid (Q = LawPost w) := ⟨_, rfl⟩
  rw [← HQ.out]
  have HTRUE : Hid (∀ w', Below w.heap.size w w' → Q (.returned (.bool true)) w') := fun w' hb => by rw [HQ.out]; exact ⟨rfl, hb⟩
  clear hA hB hW hLa hLb
  go_enter Tryd.func4, Tryd.ntmps4
  go_wp2_with fail
  refine (law13_alive _).mono ?_
  rintro e w1 ⟨rfl, hb⟩
  have HB1 := hid hb
  clear hb
  go_wp2_with fail
  refine (law13_Many (HA.out.below HB1.out)).mono ?_
  rintro e w1' ⟨⟨m1, rfl⟩, rfl⟩
  cases m1 with
  | true =>
    go_wp2_with fail
    exact HTRUE.out _ HB1.out
  | false =>
    go_wp2_with fail
    refine (law13_Many (HB.out.below HB1.out)).mono ?_
    rintro e w1' ⟨⟨m2, rfl⟩, rfl⟩
    cases m2 with
    | true =>
      go_wp2_with fail
      exact HTRUE.out _ HB1.out
    | false =>
      by_cases h100 : 100 < nw
      · go_wp2_with fail
        exact HTRUE.out _ HB1.out
      · have e1 : decide ((100 : Int) < nw) = false := decide_eq_false (by omega)
        have e2 : decide (100 < nw) = false := decide_eq_false h100
        clear h100
        go_wp2_with fail
        refine (ref13_Of (HA.out.below HB1.out) (by rw [← HNA.out]; omega)).mono ?_
        rintro e w2 ⟨x1, rfl, hX, hb2⟩
        have HB2 : Hid (Below w.heap.size w w2) := below_step HB1.out hb2 HB1.out.size
        obtain ⟨-, xa, xc, rfl, -, -⟩ := hX.open
        have HX := hid hX
        clear hX hb2
        go_wp2_with fail
        refine (ref13_Of (HB.out.below HB2.out) (by rw [← HNB.out]; omega)).mono ?_
        rintro e w3 ⟨y1, rfl, hY, hb3⟩
        have HB3 : Hid (Below w.heap.size w w3) := below_step HB2.out hb3 HB2.out.size
        obtain ⟨-, ya, yc, rfl, -, -⟩ := hY.open
        have HY := hid hY
        have HX3 := hid (HX.out.below hb3)
        clear hY hb3
        obtain ⟨X, HXM⟩ : ∃ X, Hid (X = mOf la) := ⟨_, rfl⟩
        obtain ⟨Y, HYM⟩ : ∃ Y, Hid (Y = mOf lb) := ⟨_, rfl⟩
        rw [← HXM.out] at HX3 ⊢
        rw [← HYM.out] at HY ⊢
        obtain ⟨xn, HXN⟩ : ∃ n, Hid (n = X.length) := ⟨_, rfl⟩
        obtain ⟨yn, HYN⟩ : ∃ n, Hid (n = Y.length) := ⟨_, rfl⟩
        rw [← HXN.out] at HX3 ⊢
        rw [← HYN.out] at HY ⊢
        go_wp2_with fail
        have hA4 : Below w3.heap.size w3 (w3.alloc (.cells #[.slice aa na ac] 27)) := by (repeat (first | with_reducible exact Below.refl _ _ | with_reducible refine Below.setCell ?_ (by first | omega | (simp; omega) | (simp; done)) _ | with_reducible refine Below.alloc ?_ (by first | omega | (simp; omega) | (simp; done)) _ | with_reducible refine below_drewN ?_ _ | with_reducible refine Below.drew ?_))
        have HU := hid (mask_Under ((HA.out.below HB3.out).below hA4) HLL.out.1 x)
        unfold maskV at HU
        have HBXM : Hid (Blk (w3.alloc (.cells #[.slice aa na ac] 27)) w3.heap.size [.slice aa na ac] 27) := Blk.new _ [.slice aa na ac] _
        have HA4 := hid hA4
        clear hA4
        refine HU.out.mono ?_
        rintro e w4 ⟨u1, rfl, hN4, hb4⟩
        obtain ⟨U, HU1⟩ : ∃ U, Hid (U = underW X x) := ⟨_, rfl⟩
        have HUX : Hid (underW (mOf la) x = U) := by rw [Hid, HU1.out, HXM.out]
        rw [HUX.out] at hN4 ⊢
        have hU4 := hN4.here
        obtain ⟨-, ua, uc, rfl, -, -⟩ := hU4.open
        obtain ⟨un, HUN⟩ : ∃ n, Hid (n = U.length) := ⟨_, rfl⟩
        rw [← HUN.out] at hN4 hU4 ⊢
        have hb34 : Below w3.heap.size w3 w4 := HA4.out.trans (hb4.mono HA4.out.size)
        have HB4 : Hid (Below w.heap.size w w4) := below_step HB3.out hb34 HB3.out.size
        obtain ⟨w5, HW5⟩ : ∃ w5, Hid (w5 = w4.alloc (.cells #[.slice ua un uc] 27)) := ⟨_, rfl⟩
        have hb45 : Below w4.heap.size w4 w5 := by rw [HW5.out]; (repeat (first | with_reducible exact Below.refl _ _ | with_reducible refine Below.setCell ?_ (by first | omega | (simp; omega) | (simp; done)) _ | with_reducible refine Below.alloc ?_ (by first | omega | (simp; omega) | (simp; done)) _ | with_reducible refine below_drewN ?_ _ | with_reducible refine Below.drew ?_))
        have HB5 : Hid (Below w.heap.size w w5) := below_step HB4.out hb45 HB4.out.size
        have HA5 : Hid (WaysAt w5.drew (.slice aa na ac) la) := (HA.out.below HB5.out).keep fun _ _ h => h
        have HX5 : Hid (WaysAt w5.drew (.slice xa xn xc) X) := ((HX3.out.below hb34).below hb45).keep fun _ _ h => h
        have HY5 : Hid (WaysAt w5.drew (.slice ya yn yc) Y) := ((HY.out.below hb34).below hb45).keep fun _ _ h => h
        have HU5 : Hid (WaysAt w5.drew (.slice ua un uc) U) := (hU4.below hb45).keep fun _ _ h => h
        have HW5' : Hid (IntsAt w5.drew (.slice wa nw wc) way) := (HW.out.below HB5.out).keep fun _ _ h => h
        have c11 : w5.cell? ⟨w3.heap.size, 0, none⟩ = some (.slice aa na ac) := below_keeps hb45 _ _ (below_keeps hb4 _ _ (HBXM.out.cell 0 _ rfl))
        have c12 : w5.cell? ⟨w4.heap.size, 0, none⟩ = some (.slice ua un uc) := by rw [HW5.out]; exact (Blk.new w4 [.slice ua un uc] _).cell 0 _ rfl
        have q0 := And.intro (show w5.drew.cell? ⟨w3.heap.size, 0, none⟩ = some (.slice aa na ac) from c11) (show w5.drew.cell? ⟨w4.heap.size, 0, none⟩ = some (.slice ua un uc) from c12)
        have HOF := hid (mask_Of HA5.out HLL.out.1)
        have hfd := field_mask
        clear hN4 hU4 hb4 hb34 hb45
        unfold maskV
        obtain ⟨y1, HY1⟩ : ∃ y1, Hid (y1 = X.any (wholeW x)) := ⟨_, rfl⟩
        obtain ⟨y2, HY2⟩ : ∃ y2, Hid (y2 = hasW la way) := ⟨_, rfl⟩
        have HLX : Hid (LightW X) := by rw [HXM.out]; exact mOf_light HLL.out.1
        go_wp2_with fail
        rw [← HW5.out]
        go_region_held3 (fun w' => w'.cell? ⟨w3.heap.size, 0, none⟩ = some (.slice aa na ac) ∧ w'.cell? ⟨w4.heap.size, 0, none⟩ = some (.slice ua un uc)) (first | (with_reducible exact q0) | (with_reducible exact q1) | (with_reducible exact q2) | (with_reducible exact q3) | (with_reducible exact q4) | (with_reducible exact q5) | (with_reducible exact q6) | (with_reducible exact q7) | (with_reducible exact q8) | (with_reducible exact q9) | go_keep) (first | (go_at_call 8; (with_reducible refine HOF.out.mono ?_); intro e k1 hp; obtain ⟨p1a, p1c, rfl, hP1, hk1, -⟩ := hp.open; have HK1 := hid hk1; have HP1 := hid hP1; have q1 := And.intro (below_keeps hk1 _ _ q0.1) (below_keeps hk1 _ _ q0.2); unfold maskV; rw [← HXM.out] at HP1 ⊢; rw [← HXN.out] at HP1 ⊢; clear hp hP1 hk1) | (go_at_call 12; (with_reducible refine (ref13_Same HP1.out (HX5.out.below HK1.out)).mono ?_); rintro e k2 ⟨rfl, hd⟩; rw [show decide (X = X) = true from decide_eq_true rfl]; have HK2 := hid (below_step HK1.out hd.below HK1.out.size); have q2 := And.intro (hd.keeps _ _ q1.1) (hd.keeps _ _ q1.2); clear hd) | (go_at_call 15; have hwh := mask_Whole (HA5.out.below HK2.out) HLL.out.1 x; unfold maskV at hwh; (with_reducible refine hwh.mono ?_); clear hwh; rintro e k3 ⟨rfl, hd⟩; rw [← HXM.out, ← HY1.out]; have HK3 := hid (below_step HK2.out hd HK2.out.size); have q3 := And.intro (below_keeps hd _ _ q2.1) (below_keeps hd _ _ q2.2); clear hd) | (go_at_call 16; (with_reducible refine (ref13_Whole (HX5.out.below HK3.out) x).mono ?_); rintro e k4 ⟨rfl, hd⟩; rw [← HY1.out]; have HK4 := hid (below_step HK3.out hd.below HK3.out.size); have q4 := And.intro (hd.keeps _ _ q3.1) (hd.keeps _ _ q3.2); clear hd) | (go_at_call 17; (with_reducible refine (ref13_Under (HX5.out.below HK4.out) HLX.out x).mono ?_); rintro e k5 ⟨p5, rfl, hP5, hk5⟩; rw [← HU1.out] at hP5; obtain ⟨-, p5a, p5c, rfl, -, -⟩ := hP5.open; rw [← HUN.out] at hP5 ⊢; have HP5 := hid hP5; have HK5 := hid (below_step HK4.out hk5 HK4.out.size); have q5 := And.intro (below_keeps hk5 _ _ q4.1) (below_keeps hk5 _ _ q4.2); clear hP5 hk5) | (go_at_call 12; (with_reducible refine (ref13_Same (HU5.out.below HK5.out) HP5.out).mono ?_); rintro e k6 ⟨rfl, hd⟩; rw [show decide (U = U) = true from decide_eq_true rfl]; have HK6 := hid (below_step HK5.out hd.below HK5.out.size); have q6 := And.intro (hd.keeps _ _ q5.1) (hd.keeps _ _ q5.2); clear hd) | (go_at_call 17; (with_reducible refine (ref13_Under (HX5.out.below HK6.out) HLX.out x).mono ?_); rintro e k7 ⟨p7, rfl, hP7, hk7⟩; rw [← HU1.out] at hP7; obtain ⟨-, p7a, p7c, rfl, -, -⟩ := hP7.open; rw [← HUN.out] at hP7 ⊢; have HK7 := hid (below_step HK6.out hk7 HK6.out.size); have q7 := And.intro (below_keeps hk7 _ _ q6.1) (below_keeps hk7 _ _ q6.2); clear hP7 hk7) | (go_at_call 9; have hha := mask_Has (HA5.out.below HK7.out) (HW5'.out.below HK7.out); unfold maskV at hha; (with_reducible refine hha.mono ?_); clear hha; rintro e k8 ⟨rfl, hd⟩; rw [← HY2.out]; have HK8 := hid (below_step HK7.out hd HK7.out.size); have q8 := And.intro (below_keeps hd _ _ q7.1) (below_keeps hd _ _ q7.2); clear hd) | (go_at_call 18; (with_reducible refine (ref13_Has (HA5.out.below HK8.out) (HW5'.out.below HK8.out)).mono ?_); rintro e k9 ⟨rfl, hd⟩; rw [← HY2.out]; have HK9 := hid (below_step HK8.out hd.below HK8.out.size); have q9 := And.intro (hd.keeps _ _ q8.1) (hd.keeps _ _ q8.2); clear hd))
        have HKK : Hid (Below w5.heap.size w5 k9) := below_step (Below.drew (Below.refl _ _)) HK9.out (Nat.le_refl _)
        have hsz5 : w.heap.size ≤ w5.heap.size := HB5.out.size
        have HX9 := hid (HX5.out.below HK9.out)
        have HY9 := hid (HY5.out.below HK9.out)
        have HA9 := hid (HA5.out.below HK9.out)
        have HB9 : Hid (WaysAt k9 (.slice ba nb bc) lb) := (HB.out.below HB5.out).below HKK.out
        have HBW9 : Hid (Below w.heap.size w k9) := HB5.out.trans (HKK.out.mono HB5.out.size)
        have HQ9 := hid q9
        have HXAT : Hid (∀ k l, X[k]? = some l → ∃ b o a2 c2, xa = some ⟨b, o, none⟩ ∧ k9.cell? ⟨b, o + k, none⟩ = some (.slice a2 l.length c2) ∧ IntsAt k9 (.slice a2 l.length c2) l) := by
          obtain ⟨-, a', c', he, -, hat⟩ := HX9.out.open
          cases he
          exact hat
        have HYAT : Hid (∀ k l, Y[k]? = some l → ∃ b o a2 c2, ya = some ⟨b, o, none⟩ ∧ k9.cell? ⟨b, o + k, none⟩ = some (.slice a2 l.length c2) ∧ IntsAt k9 (.slice a2 l.length c2) l) := by
          obtain ⟨-, a', c', he, -, hat⟩ := HY9.out.open
          cases he
          exact hat
        have hxn : xn ≤ na := by rw [HXN.out, HNA.out, HXM.out]; exact mOf_len la
        have hyn : yn ≤ nb := by rw [HYN.out, HNB.out, HYM.out]; exact mOf_len lb
        clear q0 q1 q2 q3 q4 q5 q6 q7 q8 q9 c11 c12
        go_wp2_with fail
        go_loopw [14, 15] (fun v14 v15 wr => ∃ (i : Nat) (o : List (List Int)), v15 = .int .i64 i ∧ i ≤ xn ∧ Hid (RowsOwn WayP 23 1 k9.heap.size k9.heap.size wr v14 o ∧ o.length ≤ i ∧ o ++ halfW (X.drop i) Y = halfW X Y ∧ Below k9.heap.size k9 wr)) (fun _ v15 _ => xn - (intOf v15).toNat)
        case atStart => exact ⟨0, [], rfl, by omega, RowsOwn.nil _ _ _ _ _ _, by simp, rfl, Below.refl _ _⟩
        case round =>
          obtain ⟨i, o, rfl, hi, HI⟩ := hrel
          obtain ⟨oa, oc, hoe⟩ := HI.out.1.form
          obtain ⟨j, HJ⟩ : ∃ j, Hid (j = o.length) := ⟨_, rfl⟩
          rw [← HJ.out] at hoe
          subst hoe
          have hjk : j ≤ i := by rw [HJ.out]; exact HI.out.2.1
          by_cases hlt : i < xn
          · obtain ⟨z, hz⟩ := way_get HXN.out hlt
            obtain ⟨b, q, za, zc, ha, g0, hZ⟩ := HXAT.out i z hz
            have hix := index_run1 Tryd.underlying22 size_ints ha i hlt (cap := xc)
            replace g0 := below_keeps HI.out.2.2.2 _ _ g0
            have HD := hid (drop_at hz)
            obtain ⟨zn, HZN⟩ : ∃ zn, Hid (zn = z.length) := ⟨_, rfl⟩
            rw [← HZN.out] at g0 hZ
            have HZ := hid hZ
            have hhas := ref13_Has (HY9.out.below HI.out.2.2.2) (hZ.below HI.out.2.2.2)
            obtain ⟨y, HY0⟩ : ∃ y, Hid (y = hasW Y z) := ⟨_, rfl⟩
            rw [← HY0.out] at hhas
            have HHAS := hid hhas
            have HHC := hid (half_cons z (X.drop (i + 1)) Y)
            rw [← HY0.out] at HHC
            clear hz ha hZ hhas
            go_wp2_with fail
            refine HHAS.out.mono ?_
            rintro e w8 ⟨rfl, hd8⟩
            have hb8 := hd8.below
            have g8 := hd8.keeps _ _ g0
            have HB8 := hid hb8
            clear hd8 g0
            cases y with
            | true =>
              obtain ⟨a', c', w9, hr, hO9, hB9, hB10⟩ := (HI.out.1).step hb8 (by decide) (Nat.le_refl _) HI.out.2.2.2.size HJ.out.symm (G := Tryd.prog) 22 (.slice none 0 0) 24 under_ways info_ints rfl #[.slice za zn zc] rfl (by intro u hu; simp at hu; subst hu; rfl) z
                (fun w' hw' => ⟨_, rfl, HZ.out.keep (keep_old fun b hb => (hw' b (Nat.lt_of_lt_of_le (Nat.lt_of_lt_of_le hb HI.out.2.2.2.size) HB8.out.size) (.inl hb)).trans ((HB8.out.block b (Nat.lt_of_lt_of_le hb HI.out.2.2.2.size)).trans (HI.out.2.2.2.block b hb)))⟩) (by omega) (by decide)
              have HO9 := hid hO9
              have HB10 := hid hB10
              clear hO9 hB9 hB10 hb8
              go_wp2_with (at_builtin; refine wpList_append_eq rfl _ _ _ rfl _ _ rfl rfl hr ?_)
              go_roundw
              case rel => exact ⟨i + 1, _, by go_num, hlt, HO9.out, by rw [List.length_append]; have := HI.out.2.1; simp; omega, by rw [← HI.out.2.2.1, HD.out, HHC.out]; simp, HI.out.2.2.2.trans HB10.out⟩
              case measure => simp [intOf]; omega
            | false =>
              clear hb8
              go_wp2_with fail
              go_roundw
              case rel => exact ⟨i + 1, o, by go_num, hlt, HI.out.1.below HB8.out, by have := HI.out.2.1; omega, by rw [← HI.out.2.2.1, HD.out, HHC.out]; simp, below_step HI.out.2.2.2 HB8.out HI.out.2.2.2.size⟩
              case measure => simp [intOf]; omega
          · obtain rfl : xn = i := by omega
            have HEN : Hid (o = halfW X Y) := by
              have := HI.out.2.2.1
              rw [List.drop_eq_nil_of_le (by rw [← HXN.out]; omega)] at this
              rw [Hid, ← this]; simp [halfW]
            have HO1 : Hid (RowsOwn WayP 23 1 k9.heap.size k9.heap.size wr (.slice oa j oc) o ∧ Below k9.heap.size k9 wr) := And.intro HI.out.1 HI.out.2.2.2
            have HEN1 := hid HEN.out
            have HJX : Hid (o.length ≤ xn) := HI.out.2.1
            clear hlt hjk hi HI HEN HJ
            obtain ⟨wo, rfl⟩ : ∃ wo : World, wo = wr := ⟨_, rfl⟩
            go_wp2_with fail
            go_loopw [14, 16] (fun v14 v15 wr => ∃ (i : Nat) (o : List (List Int)), v15 = .int .i64 i ∧ i ≤ yn ∧ Hid (RowsOwn WayP 23 1 k9.heap.size k9.heap.size wr v14 o ∧ o.length ≤ xn + i ∧ o ++ halfW (Y.drop i) X = halfW X Y ++ halfW Y X ∧ Below k9.heap.size k9 wr)) (fun _ v15 _ => yn - (intOf v15).toNat)
            case atStart => exact ⟨0, _, rfl, by omega, HO1.out.1, by have := HJX.out; omega, by rw [HEN1.out]; rfl, HO1.out.2⟩
            case round =>
              obtain ⟨i, o, rfl, hi, HI⟩ := hrel
              obtain ⟨oa, oc, hoe⟩ := HI.out.1.form
              obtain ⟨j, HJ⟩ : ∃ j, Hid (j = o.length) := ⟨_, rfl⟩
              rw [← HJ.out] at hoe
              subst hoe
              have hjk : j ≤ xn + i := by rw [HJ.out]; exact HI.out.2.1
              by_cases hlt : i < yn
              · obtain ⟨z, hz⟩ := way_get HYN.out hlt
                obtain ⟨b, q, za, zc, ha, g0, hZ⟩ := HYAT.out i z hz
                have hix := index_run1 Tryd.underlying22 size_ints ha i hlt (cap := yc)
                replace g0 := below_keeps HI.out.2.2.2 _ _ g0
                have HD := hid (drop_at hz)
                obtain ⟨zn, HZN⟩ : ∃ zn, Hid (zn = z.length) := ⟨_, rfl⟩
                rw [← HZN.out] at g0 hZ
                have HZ := hid hZ
                have hhas := ref13_Has (HX9.out.below HI.out.2.2.2) (hZ.below HI.out.2.2.2)
                obtain ⟨y, HY0⟩ : ∃ y, Hid (y = hasW X z) := ⟨_, rfl⟩
                rw [← HY0.out] at hhas
                have HHAS := hid hhas
                have HHC := hid (half_cons z (Y.drop (i + 1)) X)
                rw [← HY0.out] at HHC
                clear hz ha hZ hhas
                go_wp2_with fail
                refine HHAS.out.mono ?_
                rintro e w8 ⟨rfl, hd8⟩
                have hb8 := hd8.below
                have g8 := hd8.keeps _ _ g0
                have HB8 := hid hb8
                clear hd8 g0
                cases y with
                | true =>
                  obtain ⟨a', c', w9, hr, hO9, hB9, hB10⟩ := (HI.out.1).step hb8 (by decide) (Nat.le_refl _) HI.out.2.2.2.size HJ.out.symm (G := Tryd.prog) 22 (.slice none 0 0) 24 under_ways info_ints rfl #[.slice za zn zc] rfl (by intro u hu; simp at hu; subst hu; rfl) z
                    (fun w' hw' => ⟨_, rfl, HZ.out.keep (keep_old fun b hb => (hw' b (Nat.lt_of_lt_of_le (Nat.lt_of_lt_of_le hb HI.out.2.2.2.size) HB8.out.size) (.inl hb)).trans ((HB8.out.block b (Nat.lt_of_lt_of_le hb HI.out.2.2.2.size)).trans (HI.out.2.2.2.block b hb)))⟩) (by omega) (by decide)
                  have HO9 := hid hO9
                  have HB10 := hid hB10
                  clear hO9 hB9 hB10 hb8
                  go_wp2_with (at_builtin; refine wpList_append_eq rfl _ _ _ rfl _ _ rfl rfl hr ?_)
                  go_roundw
                  case rel => exact ⟨i + 1, _, by go_num, hlt, HO9.out, by rw [List.length_append]; have := HI.out.2.1; simp; omega, by rw [← HI.out.2.2.1, HD.out, HHC.out]; simp, HI.out.2.2.2.trans HB10.out⟩
                  case measure => simp [intOf]; omega
                | false =>
                  clear hb8
                  go_wp2_with fail
                  go_roundw
                  case rel => exact ⟨i + 1, o, by go_num, hlt, HI.out.1.below HB8.out, by have := HI.out.2.1; omega, by rw [← HI.out.2.2.1, HD.out, HHC.out]; simp, below_step HI.out.2.2.2 HB8.out HI.out.2.2.2.size⟩
                  case measure => simp [intOf]; omega
              · obtain rfl : i = yn := by omega
                have HEN : Hid (o = halfW X Y ++ halfW Y X) := by
                  have := HI.out.2.2.1
                  rw [List.drop_eq_nil_of_le (by rw [← HYN.out]; omega)] at this
                  rw [Hid, ← this]; simp [halfW]
                clear hlt
                have hbF : Below w.heap.size w wr := HBW9.out.trans (HI.out.2.2.2.mono HBW9.out.size)
                obtain ⟨wF, HWF⟩ : ∃ wF, Hid (wF = wr.alloc (.cells #[.slice ba nb bc] 27)) := ⟨_, rfl⟩
                have hrF : Below wr.heap.size wr wF := by rw [HWF.out]; (repeat (first | with_reducible exact Below.refl _ _ | with_reducible refine Below.setCell ?_ (by first | omega | (simp; omega) | (simp; done)) _ | with_reducible refine Below.alloc ?_ (by first | omega | (simp; omega) | (simp; done)) _ | with_reducible refine below_drewN ?_ _ | with_reducible refine Below.drew ?_))
                have HBF : Hid (Below w.heap.size w wF) := below_step hbF hrF hbF.size
                have HAF := hid (HA.out.below HBF.out)
                have HBBF := hid (HB.out.below HBF.out)
                have k11 : wF.cell? ⟨w3.heap.size, 0, none⟩ = some (.slice aa na ac) := below_keeps hrF _ _ (below_keeps HI.out.2.2.2 _ _ HQ9.out.1)
                have k11r : wr.cell? ⟨w3.heap.size, 0, none⟩ = some (.slice aa na ac) := below_keeps HI.out.2.2.2 _ _ HQ9.out.1
                have hlt11 := World.block_lt_of_cell? wr _ k11r
                have k17 : wF.cell? ⟨wr.heap.size, 0, none⟩ = some (.slice ba nb bc) := by rw [HWF.out]; exact (Blk.new wr [.slice ba nb bc] _).cell 0 _ rfl
                have hUN := mask_Union HAF.out HBBF.out HLL.out.1 HLL.out.2 (by rw [← HNA.out, ← HNB.out]; exact hL)
                unfold maskV at hUN
                have HUN := hid hUN
                have hWM := RowsOwn.at HI.out.1 (by have := HI.out.2.1; omega) (w' := wr) (fun _ _ _ => rfl)
                have HWM : Hid (WaysAt wF (.slice oa j oc) o) := WaysAt.below hWM hrF
                have HK11 := hid k11
                have HK17 := hid k17
                have HOL : Hid (o.length ≤ 1099511627776) := by show _ ≤ _; have := HI.out.2.1; omega
                clear hbF hrF hUN hWM
                go_wp2_with fail
                rw [← HWF.out]
                refine HUN.out.mono ?_
                intro e wU hp
                obtain ⟨ma, mc, rfl, hM, hbU, -⟩ := hp.open
                obtain ⟨mn, HMN⟩ : ∃ n, Hid (n = (mOf (la ++ lb)).length) := ⟨_, rfl⟩
                rw [← HMN.out] at hM ⊢
                have HMU := hid hM
                have HBU := hid hbU
                unfold maskV
                -- the two lists, one behind the other
                obtain ⟨psa, ea, sa⟩ := (HAF.out.below hbU).pairs
                obtain ⟨psb, eb, sb⟩ := (HBBF.out.below hbU).pairs
                have hla : psa.length = na := by rw [HNA.out, ← ea, List.length_map]
                have hlb : psb.length = nb := by rw [HNB.out, ← eb, List.length_map]
                rw [hla] at sa
                rw [hlb] at sb
                have own0 : World.ownsRow (wU.alloc (.cells #[] 23)) wU.heap.size 23 1 (.slice (some ⟨wU.heap.size, 0, none⟩) 0 0) 0 [] := World.ownsRow_made (base := wU.heap.size) (e := 23) (size := 1) wU #[] 0 (Nat.le_refl _) (by unfold maxLen; omega) rfl
                obtain ⟨v6, w6, hr6, own6, hg6, -⟩ := seg_append (P := Tryd.prog) _ wU.heap.size 22 22 23 (.slice none 0 0) 1 24 under_ways info_ints rfl (by decide) _ _ 0 na _ _ own0 (sa.below ((Below.refl _ _).alloc (Nat.le_refl _) _)) (wv_vals_one psa) (by omega) (by omega) (by simp)
                have hB6 : Below wU.heap.size wU w6 := ((Below.refl wU.heap.size wU).alloc (Nat.le_refl _) (.cells #[] 23)).grown hg6 (by simp) (by intro q e; simp [Value.ownBlock] at e; omega)
                rw [Nat.zero_add, List.nil_append] at own6
                obtain ⟨a6, c6, e6⟩ := row_form own6
                subst e6
                obtain ⟨v7, w7, hr7, own7, hg7, -⟩ := seg_append (P := Tryd.prog) _ wU.heap.size 22 22 23 (.slice none 0 0) 1 24 under_ways info_ints rfl (by decide) _ _ _ nb _ _ own6 (sb.below hB6) (wv_vals_one psb) (by omega) (by omega) hB6.size
                have hB7 : Below wU.heap.size wU w7 := hB6.grown hg7 hB6.size (fun q e => (World.ownsRow.lt own6 q e).1)
                obtain ⟨a7, c7, e7⟩ := row_form own7
                subst e7
                have HB7 := hid hB7
                have HCAT : Hid (WaysAt w7 (.slice a7 (na + nb) c7) (la ++ lb)) := by
                  have hs := row_seg own7 (by omega)
                  rw [← List.map_append] at hs
                  have h1 := ways_of_row (psa ++ psb) (by rw [List.length_append, hla, hlb]; exact hs) (below_keeps hB7)
                  rwa [List.map_append, ea, eb] at h1
                have HCL : Hid ((la ++ lb).length ≤ 1099511627776) := by show _ ≤ _; rw [List.length_append, ← HNA.out, ← HNB.out]; exact hL
                have hfd := field_mask
                clear hp hM hbU ea eb sa sb hla hlb own0 own6 hg6 hB6 own7 hg7 hB7 k11 k17 k11r hlt11
                go_wp2_with (at_builtin; first | refine wpList_append_eq (o := ⟨some 131, _, _, _, _, _⟩) rfl _ _ _ rfl _ _ rfl rfl hr6 ?_ | refine wpList_append_eq (o := ⟨some 133, _, _, _, _, _⟩) rfl _ _ _ rfl _ _ rfl rfl hr7 ?_)
                refine (ref13_Of HCAT.out HCL.out).mono ?_
                rintro e w8 ⟨v8, rfl, hW8, hb8⟩
                obtain ⟨-, a8, c8, rfl, -, -⟩ := hW8.open
                have HB8 : Hid (Below wU.heap.size wU w8) := below_step HB7.out hb8 HB7.out.size
                have HW8 := hid hW8
                have HSM := hid (ref13_Same (HMU.out.below HB8.out) hW8)
                rw [decide_eq_true rfl, ← HMN.out] at HSM
                rw [← HMN.out]
                clear hW8 hb8 hr6 hr7
                go_wp2_with fail
                refine HSM.out.mono ?_
                rintro e w9 ⟨rfl, hd⟩
                have HB9' : Hid (Below wF.heap.size wF w9) := below_step HBU.out (HB8.out.trans (hd.below.mono HB8.out.size)) HBU.out.size
                have k11 := below_keeps HB9'.out _ _ HK11.out
                have k17 := below_keeps HB9'.out _ _ HK17.out
                have hME := mask_Meet (HAF.out.below HB9'.out) (HBBF.out.below HB9'.out) HLL.out.1 HLL.out.2 (by rw [← HNA.out, ← HNB.out]; exact hL)
                unfold maskV at hME
                have HEQM : Hid (mOf (halfW (mOf la) lb ++ halfW (mOf lb) la) = mOf o) := by
                  rw [Hid, HEN.out, HXM.out, HYM.out, half_mOf (mOf la), half_mOf (mOf lb)]
                rw [HEQM.out] at hME
                have HME := hid hME
                clear hME hd
                go_wp2_with fail
                refine HME.out.mono ?_
                intro e w10 hp
                obtain ⟨na', nc', rfl, hM10, hb10, -⟩ := hp.open
                obtain ⟨zn, HZN⟩ : ∃ n, Hid (n = (mOf o).length) := ⟨_, rfl⟩
                rw [← HZN.out] at hM10 ⊢
                have HM10 := hid hM10
                have HB10 : Hid (Below wF.heap.size wF w10) := below_step HB9'.out hb10 HB9'.out.size
                unfold maskV
                clear hp hM10 hb10
                go_wp2_with fail
                refine (ref13_Of (HWM.out.below HB10.out) HOL.out).mono ?_
                rintro e w11 ⟨v11, rfl, hW11, hb11⟩
                obtain ⟨-, a11, c11, rfl, -, -⟩ := hW11.open
                have HSM2 := hid (ref13_Same (HM10.out.below hb11) hW11)
                rw [decide_eq_true rfl, ← HZN.out] at HSM2
                rw [← HZN.out]
                have HB11 : Hid (Below wF.heap.size wF w11) := below_step HB10.out hb11 HB10.out.size
                clear hW11 hb11
                go_wp2_with fail
                refine HSM2.out.mono ?_
                rintro e w12 ⟨rfl, hd⟩
                have HFIN := hid (HTRUE.out w12 (below_step (below_step HBF.out HB11.out HBF.out.size) hd.below (Nat.le_trans HBF.out.size HB11.out.size)))
                clear hd
                go_wp2_with fail
                exact HFIN.out

end Go.Proofs.YtpjikakbdahmfaaDoor
