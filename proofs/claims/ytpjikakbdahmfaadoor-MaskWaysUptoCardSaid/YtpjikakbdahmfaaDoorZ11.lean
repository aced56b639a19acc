/- mask.Resolve, mask.Make. Paths are at most 2^40 bytes. darninglaw13.alive: true. darninglaw13.MaskWays: true. -/
import Derived.Test.YtpjikakbdahmfaaDoorZ10
namespace Go.Proofs.YtpjikakbdahmfaaDoor
open Go.RowKit

theorem wayP_len (s : List Mes) : ∀ (names : List (List UInt8)) (root : Int) (l : List Int), wayP s names root = some l → l.length ≤ names.length
  | [], _, l, h => by simp [wayP] at h; subst h; simp
  | t :: r, root, l, h => by
    rw [wayP] at h
    split at h
    · cases h
    · split at h
      · cases h; simp
      · split at h
        · cases h
        · obtain ⟨l', h1, rfl⟩ := Option.map_eq_some_iff.1 h
          have := wayP_len s r _ l' h1
          simp; omega
/-- the way of a path -/
def resolveW (s : List Mes) (root : Int) (p : List UInt8) : Option (List Int) := if pathOk p = true then wayP s (sdot p) root else none
theorem resolveW_len {s : List Mes} {root : Int} {p : List UInt8} {l : List Int} (h : resolveW s root p = some l) : l.length ≤ 65 := by
  unfold resolveW at h
  split at h
  · rename_i hp
    have h1 := wayP_len s _ _ _ h
    unfold pathOk at hp
    simp at hp
    omega
  · cases h
def resolveC (s : List Mes) (root : Int) (p : List UInt8) : Nat × List Int := if maskArgs s root ≠ 0 then (maskArgs s root, []) else match resolveW s root p with | some l => (0, l) | none => (10, [])

def ResolvePost (w : World) (x : Nat × List Int) (e : Ending) (w' : World) : Prop := ∃ v', e = .returned (.tuple #[v', .int .u8 (x.1 : Nat)]) ∧ IntsOwn w' w.heap.size v' x.2 ∧ Below w.heap.size w w'

theorem maskArgs_cases (s : List Mes) (root : Int) : maskArgs s root = 9 ∨ maskArgs s root = 2 ∨ maskArgs s root = 0 ∧ sright s = true ∧ 0 ≤ root ∧ root < s.length := by
  unfold maskArgs
  split
  · exact .inl rfl
  · rename_i h
    split
    · exact .inr (.inl rfl)
    · exact .inr (.inr ⟨rfl, by simpa using h, by omega, by omega⟩)

theorem strs_len_le {p : List UInt8} {t : List UInt8} (h : t ∈ sdot p) : t.length ≤ p.length := sdot_mem_len p t h

set_option maxRecDepth 100000 in
set_option maxHeartbeats 4000000 in
theorem mask_Resolve {w : World} {sv : Value} {s : List Mes} (hS : SchemaAt w sv s) (root : Int) (p : List UInt8) (hp : p.length ≤ 1099511627776) :
    Calls Tryd.prog 23 #[sv, .int .i64 root, strV p] w (ResolvePost w (resolveC s root p)) := by
  have HS := hid hS
  have HAR := hid (mask_args hS root)
  have HP := hid hp
  obtain ⟨-, sa, sc, rfl, -⟩ := hS.open
  obtain ⟨n, HN⟩ : ∃ n, Hid (n = s.length) := ⟨_, rfl⟩
  rw [← HN.out] at HS HAR ⊢
  have HVP : Hid (strV p = .string ⟨p.toArray⟩) := rfl
  have HSP := hid fun W => path_Split (w := W) p HP.out
  obtain ⟨PS, HPS⟩ : ∃ PS, Hid (PS = (⟨p.toArray⟩ : ByteArray)) := ⟨_, rfl⟩
  rw [HVP.out, ← HPS.out] at HSP ⊢
  obtain ⟨Q, HQ⟩ : ∃ Q : Ending → World → Prop, Hid (Q = ResolvePost w (resolveC s root p)) := ⟨_, rfl⟩
  rw [← HQ.out]
  have HBAD : Hid (∀ w' (c : Nat), Below w.heap.size w w' → resolveC s root p = (c, []) → Q (.returned (.tuple #[.slice none 0 0, .int .u8 (c : Int)])) w') := by
    intro w' c hb h
    rw [HQ.out, h]
    exact ⟨_, rfl, World.ownsRow_nil _ _ _ _, hb⟩
  obtain ⟨ac, HAC⟩ : ∃ ac, Hid (ac = maskArgs s root) := ⟨_, rfl⟩
  rw [← HAC.out] at HAR
  clear hS hp
  rcases maskArgs_cases s root with h | h | ⟨h, hsr, hr0, hr1⟩
  · have HE : Hid (resolveC s root p = (9, [])) := by rw [Hid, resolveC, if_pos (by rw [h]; decide), h]
    rw [← HAC.out] at h
    subst h
    go_enter Tryd.func23, Tryd.ntmps23
    go_wp2_with fail
    refine HAR.out.mono ?_
    rintro e w1 ⟨rfl, hb⟩
    have HB := hid hb
    clear hb
    go_wp2_with fail
    exact HBAD.out _ 9 HB.out HE.out
  · have HE : Hid (resolveC s root p = (2, [])) := by rw [Hid, resolveC, if_pos (by rw [h]; decide), h]
    rw [← HAC.out] at h
    subst h
    go_enter Tryd.func23, Tryd.ntmps23
    go_wp2_with fail
    refine HAR.out.mono ?_
    rintro e w1 ⟨rfl, hb⟩
    have HB := hid hb
    clear hb
    go_wp2_with fail
    exact HBAD.out _ 2 HB.out HE.out
  · have HE : Hid (resolveC s root p = match resolveW s root p with | some l => (0, l) | none => (10, [])) := by rw [Hid, resolveC, if_neg (by rw [h]; decide)]
    have HSR := hid hsr
    rw [← HAC.out] at h
    subst h
    obtain ⟨r, rfl⟩ : ∃ r : Nat, root = r := ⟨root.toNat, by omega⟩
    have HR1 : Hid (r < s.length) := by show _ < _; omega
    clear hsr hr0 hr1
    go_enter Tryd.func23, Tryd.ntmps23
    go_wp2_with fail
    refine HAR.out.mono ?_
    rintro e w1 ⟨rfl, hb⟩
    have HB := hid hb
    clear hb
    go_wp2_with fail
    refine (HSP.out w1).mono ?_
    rintro e w2 ⟨v2, rfl, hO, hb2⟩
    have HB2 : Hid (Below w.heap.size w w2) := below_step HB.out hb2 HB.out.size
    by_cases hok : pathOk p = true
    · rw [if_pos hok] at hO ⊢
      have hn65 : (sdot p).length ≤ 65 := by unfold pathOk at hok; simp at hok; exact hok.1
      have hst := StrsOwn.strs hO (by omega) (fun t ht => by have := strs_len_le ht; have := HP.out; omega)
      have HL := hid (mask_lead (HS.out.below HB2.out) HSR.out hst (by omega) r HR1.out)
      obtain ⟨oa, oc, hoe⟩ := hO.form
      obtain ⟨k, HK⟩ : ∃ k, Hid (k = (sdot p).length) := ⟨_, rfl⟩
      rw [← HK.out] at hoe
      subst hoe
      have HRW : Hid (resolveW s (r : Int) p = wayP s (sdot p) r) := by rw [Hid, resolveW, if_pos hok]
      rw [HRW.out] at HE
      obtain ⟨ow, HOW⟩ : ∃ ow, Hid (ow = wayP s (sdot p) r) := ⟨_, rfl⟩
      rw [← HOW.out] at HE HL
      clear hO hb2 hok hn65 hst
      go_wp2_with fail
      refine HL.out.mono ?_
      rintro e w3 ⟨v3, rfl, hO3, hb3⟩
      have HB3 : Hid (Below w.heap.size w w3) := below_step HB2.out hb3 HB2.out.size
      cases ow with
      | none =>
        clear hO3 hb3
        go_wp2_with fail
        exact HBAD.out _ 10 HB3.out HE.out
      | some l =>
        have HO3 : Hid (IntsOwn w3 w.heap.size v3 l) := row_mono hO3 HB2.out.size
        obtain ⟨a3, c3, rfl⟩ := hO3.form
        have HFIN : Hid (Q (.returned (.tuple #[.slice a3 l.length c3, .int .u8 0])) w3) := by
          rw [HQ.out, HE.out]
          exact ⟨_, rfl, HO3.out, HB3.out⟩
        clear hO3 hb3
        go_wp2_with fail
        exact HFIN.out
    · rw [if_neg hok]
      have HRW : Hid (resolveW s (r : Int) p = none) := by rw [Hid, resolveW, if_neg hok]
      rw [HRW.out] at HE
      obtain ⟨oa, oc, hoe⟩ := hO.form
      obtain ⟨k, HK⟩ : ∃ k, Hid (k = (if pathOk p = true then sdot p else []).length) := ⟨_, rfl⟩
      rw [← HK.out] at hoe
      subst hoe
      clear hO hb2 hok
      go_wp2_with fail
      exact HBAD.out _ 10 HB2.out HE.out

/-- the ways of paths -/
def waysOf (s : List Mes) (root : Int) : List (List UInt8) → Option (List (List Int))
  | [] => some []
  | p :: r => match resolveW s root p with
    | none => none
    | some l => (waysOf s root r).map (l :: ·)
def makeC (s : List Mes) (root : Int) (paths : List (List UInt8)) : Nat × List (List Int) :=
  if maskArgs s root ≠ 0 then (maskArgs s root, []) else if 200 < paths.length then (13, []) else match waysOf s root paths with | some l => (0, mOf l) | none => (10, [])
def MakePost (w : World) (x : Nat × List (List Int)) (e : Ending) (w' : World) : Prop := ∃ v', e = .returned (.tuple #[maskV v', .int .u8 (x.1 : Nat)]) ∧ NewWays w w' v' x.2 ∧ Below w.heap.size w w'
theorem waysOf_light {s : List Mes} {root : Int} : ∀ {paths : List (List UInt8)} {l : List (List Int)}, waysOf s root paths = some l → l.length = paths.length ∧ ∀ x ∈ l, x.length ≤ 65
  | [], l, h => by simp [waysOf] at h; subst h; simp
  | p :: r, l, h => by
    rw [waysOf] at h
    split at h
    · cases h
    · rename_i x hx
      obtain ⟨l', h1, rfl⟩ := Option.map_eq_some_iff.1 h
      obtain ⟨h2, h3⟩ := waysOf_light h1
      refine ⟨by simp [h2], fun y hy => ?_⟩
      rcases List.mem_cons.1 hy with e | hy
      · rw [e]; exact resolveW_len hx
      · exact h3 y hy

theorem ways_step (s : List Mes) (root : Int) (paths : List (List UInt8)) (ws : List (List Int)) (i : Nat) (p : List UInt8) (ow : Option (List Int)) (hd : paths.drop i = p :: paths.drop (i + 1)) (h : waysOf s root paths = (waysOf s root (paths.drop i)).map (ws ++ ·)) (ho : ow = resolveW s root p) :
    waysOf s root paths = ow.bind fun l => (waysOf s root (paths.drop (i + 1))).map ((ws ++ [l]) ++ ·) := by
  rw [h, hd, waysOf, ← ho]
  cases ow with
  | none => rfl
  | some l => cases waysOf s root (paths.drop (i + 1)) <;> simp
theorem schema_ok {w : World} {v : Value} {s : List Mes} (h : SchemaAt w v s) (m : Mes) (hm : m ∈ s) (f : Fld) (hf : f ∈ m.fields) : f.Ok := by
  obtain ⟨fv, -, -, -, h4⟩ := h
  obtain ⟨i, hi, e⟩ := List.getElem_of_mem hm
  have := (h4 i hi).2 f
  rw [List.getD_eq_getElem?_getD, List.getElem?_eq_getElem hi, e] at this
  exact this hf
theorem getD_mem {α : Type} (l : List α) (k : Nat) (d : α) (h : k < l.length) : l.getD k d ∈ l := by
  rw [List.getD_eq_getElem?_getD, List.getElem?_eq_getElem h]
  exact List.getElem_mem h
theorem fieldNamed_mem {s : List Mes} {root : Int} {t : List UInt8} {f : Fld} (h : fieldNamed s root t = some f) : ∃ m ∈ s, f ∈ m.fields := by
  unfold fieldNamed at h
  split at h
  · rename_i h0
    simp only [Option.some.injEq] at h
    obtain ⟨k, hk, hkl⟩ : ∃ k : Nat, namedAt (s.getD root.toNat .zero).fields ⟨t.toArray⟩ = k ∧ k < (s.getD root.toNat .zero).fields.length := by
      rcases firstAt_bd (fun f : Fld => decide (f.name = ⟨t.toArray⟩)) (s.getD root.toNat .zero).fields 0 with h | ⟨j, h, h1, h2⟩
      · unfold namedAt at h0; omega
      · exact ⟨j, h, by omega⟩
    rw [hk, Int.toNat_natCast] at h
    have hf : f ∈ (s.getD root.toNat .zero).fields := by
      rw [← h]
      exact getD_mem _ _ _ hkl
    by_cases hr : root.toNat < s.length
    · exact ⟨s.getD root.toNat .zero, getD_mem _ _ _ hr, hf⟩
    · rw [List.getD_eq_getElem?_getD, List.getElem?_eq_none (by omega)] at hf
      simp [Mes.zero] at hf
  · cases h
theorem wayP_ok {s : List Mes} (hs : ∀ m ∈ s, ∀ f ∈ m.fields, f.Ok) : ∀ (names : List (List UInt8)) (root : Int) (l : List Int), wayP s names root = some l → ∀ x ∈ l, i64ok x
  | [], _, l, h => by simp [wayP] at h; subst h; simp
  | t :: r, root, l, h => by
    rw [wayP] at h
    split at h
    · cases h
    · rename_i f hf
      obtain ⟨m, h1, h2⟩ := fieldNamed_mem hf
      have hfo : i64ok f.number := (hs m h1 f h2).number
      split at h
      · cases h; simpa using hfo
      · split at h
        · cases h
        · obtain ⟨l', h3, rfl⟩ := Option.map_eq_some_iff.1 h
          have := wayP_ok hs r _ l' h3
          intro x hx
          rcases List.mem_cons.1 hx with e | hx
          · rw [e]; exact hfo
          · exact this x hx
theorem resolveW_ok {w : World} {v : Value} {s : List Mes} (hS : SchemaAt w v s) {root : Int} {p : List UInt8} {l : List Int} (h : resolveW s root p = some l) : ∀ x ∈ l, i64ok x := by
  unfold resolveW at h
  split at h
  · exact wayP_ok (schema_ok hS) _ _ _ h
  · cases h

set_option maxRecDepth 100000 in
set_option maxHeartbeats 4000000 in
theorem mask_Make {w : World} {sv pv : Value} {s : List Mes} {paths : List (List UInt8)} (hS : SchemaAt w sv s) (root : Int) (hP : StrsAt w pv paths) (hpl : ∀ p ∈ paths, p.length ≤ 1099511627776) :
    Calls Tryd.prog 21 #[sv, .int .i64 root, pv] w (MakePost w (makeC s root paths)) := by
  obtain ⟨wB, HWB⟩ : ∃ wB, Hid (wB = w.alloc (.cells #[.slice none 0 0] 27)) := ⟨_, rfl⟩
  have hB0 : Below w.heap.size w wB := by rw [HWB.out]; (repeat (first | with_reducible exact Below.refl _ _ | with_reducible refine Below.setCell ?_ (by first | omega | (simp; omega) | (simp; done)) _ | with_reducible refine Below.alloc ?_ (by first | omega | (simp; omega) | (simp; done)) _ | with_reducible refine below_drewN ?_ _ | with_reducible refine Below.drew ?_))
  have HB0 := hid hB0
  have HSZ : Hid (wB.heap.size = w.heap.size + 1) := by rw [HWB.out]; simp [Hid]
  have HBX : Hid (Blk wB w.heap.size [.slice none 0 0] 27) := by rw [HWB.out]; exact Blk.new w [.slice none 0 0] _
  have HS := hid (hS.below hB0)
  have HAR := hid (mask_args (hS.below hB0) root)
  obtain ⟨-, sa, sc, rfl, -⟩ := hS.open
  obtain ⟨m, HM⟩ : ∃ m, Hid (m = s.length) := ⟨_, rfl⟩
  rw [← HM.out] at HS HAR ⊢
  obtain ⟨hn, pa, pc, rfl, -, hpat⟩ := hP.open
  obtain ⟨n, HN⟩ : ∃ n, Hid (n = paths.length) := ⟨_, rfl⟩
  rw [← HN.out] at hn ⊢
  have HPL := hid hpl
  have HPAT := hid hpat
  obtain ⟨Q, HQ⟩ : ∃ Q : Ending → World → Prop, Hid (Q = MakePost w (makeC s root paths)) := ⟨_, rfl⟩
  rw [← HQ.out]
  have HBAD : Hid (∀ w' (c : Nat), Below w.heap.size w w' → makeC s root paths = (c, []) → Q (.returned (.tuple #[maskV (.slice none 0 0), .int .u8 (c : Int)])) w') := by
    intro w' c hb h
    rw [HQ.out, h]
    exact ⟨_, rfl, ⟨by simp, _, Nat.le_refl _, RowsOwn.nil _ _ _ _ _ _⟩, hb⟩
  obtain ⟨ac, HAC⟩ : ∃ ac, Hid (ac = maskArgs s root) := ⟨_, rfl⟩
  rw [← HAC.out] at HAR
  have HCASES := hid (maskArgs_cases s root)
  have HRES := hid fun (W : World) (h : Below w.heap.size w W) (hs : Below wB.heap.size wB W) (p : List UInt8) (hp : p.length ≤ 1099511627776) => mask_Resolve (HS.out.below hs) root p hp
  clear hS hP hpl hpat hB0
  by_cases hac : ac = 0
  · obtain ⟨hsr, hr0, hr1⟩ : sright s = true ∧ 0 ≤ root ∧ root < s.length := by
      rcases HCASES.out with h | h | h
      · rw [← HAC.out, hac] at h; cases h
      · rw [← HAC.out, hac] at h; cases h
      · exact h.2
    have HAZ : Hid (maskArgs s root = 0) := by rw [Hid, ← HAC.out]; exact hac
    subst hac
    have HE : Hid (makeC s root paths = if 200 < n then (13, []) else match waysOf s root paths with | some l => (0, mOf l) | none => (10, [])) := by
      rw [Hid, makeC, if_neg (by rw [HAZ.out]; decide), HN.out]
    have HRC : Hid (∀ p, resolveC s root p = match resolveW s root p with | some l => (0, l) | none => (10, [])) := fun p => by rw [resolveC, if_neg (by rw [HAZ.out]; decide)]
    clear hsr hr0 hr1
    by_cases h200 : 200 < n
    · rw [if_pos h200] at HE
      go_enter Tryd.func21, Tryd.ntmps21
      go_wp2_with fail
      rw [← HWB.out]
      refine HAR.out.mono ?_
      rintro e w1 ⟨rfl, hb⟩
      have HB : Hid (Below w.heap.size w w1) := HB0.out.trans (hb.mono HB0.out.size)
      have HBX1 := hid (HBX.out.below hb)
      have c0 := HBX1.out.cell 0 _ rfl
      have f0 := HBX1.out.free 0
      have hsz := HBX1.out.lt
      have HCS : Hid ((w1.setCell ⟨w.heap.size, 0, none⟩ (.slice none 0 0)).cell? ⟨w.heap.size, 0, none⟩ = some (.slice none 0 0)) := World.cell?_setCell_same' _ _ _ (by rw [c0]; rfl)
      have HFIN := hid (HBAD.out (w1.setCell ⟨w.heap.size, 0, none⟩ (.slice none 0 0)) 13 (HB.out.setCell (by simp) _) HE.out)
      clear hb
      go_wp2_with fail
      refine bodyPost_ret (v := .tuple #[maskV (.slice none 0 0), .int .u8 13]) (by simp [results, Tryd.results21, go_sem, maskV, HCS.out]) rfl HFIN.out
    · rw [if_neg h200] at HE
      have hn200 : n ≤ 200 := by omega
      clear h200
      go_enter Tryd.func21, Tryd.ntmps21
      go_wp2_with fail
      rw [← HWB.out]
      refine HAR.out.mono ?_
      rintro e w1 ⟨rfl, hb1⟩
      have HB1 := hid hb1
      clear hb1
      go_wp2_with fail
      go_loopw [9, 27] (fun v9 v27 wr => ∃ (i : Nat) (ws : List (List Int)), v27 = .int .i64 i ∧ i ≤ n ∧ Hid (RowsOwn WayP 23 1 0 wB.heap.size wr v9 ws ∧ Below wB.heap.size wB wr ∧ ws.length = i ∧ waysOf s root paths = (waysOf s root (paths.drop i)).map (ws ++ ·))) (fun _ v27 _ => n - (intOf v27).toNat)
      case atStart => exact ⟨0, [], rfl, by omega, RowsOwn.nil _ _ _ _ _ _, HB1.out, rfl, by simp⟩
      case round =>
        obtain ⟨i, ws, rfl, hi, HI⟩ := hrel
        obtain ⟨oa, oc, hoe⟩ := HI.out.1.form
        rw [HI.out.2.2.1] at hoe
        subst hoe
        by_cases hlt : i < n
        · obtain ⟨p, hp⟩ : ∃ p, paths[i]? = some p := ⟨_, List.getElem?_eq_getElem (by rw [← HN.out]; exact hlt)⟩
          obtain ⟨-, b, o, ha, g0⟩ := HPAT.out i p hp
          have hix := index_run1 Tryd.underlying43 size_strp ha i hlt (cap := pc)
          have hbw : Below w.heap.size w wr := HB0.out.trans (HI.out.2.1.mono HB0.out.size)
          have HBW := hid hbw
          replace g0 := below_keeps hbw _ _ g0
          have HR := hid (HRES.out wr hbw HI.out.2.1 p (HPL.out p (List.mem_of_getElem? hp)))
          have HD := hid (drop_at hp)
          rw [HRC.out] at HR
          unfold strV at g0 HR
          obtain ⟨PS, HPS⟩ : ∃ PS, Hid (PS = (⟨p.toArray⟩ : ByteArray)) := ⟨_, rfl⟩
          rw [← HPS.out] at g0 HR
          obtain ⟨ow, HOW⟩ : ∃ ow, Hid (ow = resolveW s root p) := ⟨_, rfl⟩
          rw [← HOW.out] at HR
          have HWO := hid (ways_step s root paths ws i p ow HD.out HI.out.2.2.2 HOW.out)
          have HLEN : Hid (∀ l, ow = some l → l.length ≤ 65) := fun l h => resolveW_len (HOW.out ▸ h)
          have HL64 : Hid (∀ l, ow = some l → ∀ x ∈ l, i64ok x) := fun l h => resolveW_ok HS.out (HOW.out ▸ h)
          clear hp ha hbw
          go_wp2_with fail
          refine HR.out.mono ?_
          rintro e w5 ⟨v5, rfl, hO5, hb5⟩
          have HB5 := hid hb5
          cases ow with
          | none =>
            have HE2 : Hid (makeC s root paths = (10, [])) := by rw [Hid, HE.out, HWO.out]; rfl
            obtain ⟨a5, c5, rfl⟩ := hO5.form
            have HB : Hid (Below w.heap.size w w5) := below_step HBW.out HB5.out HBW.out.size
            have HBX1 := hid ((HBX.out.below HI.out.2.1).below hb5)
            have c0 := HBX1.out.cell 0 _ rfl
            have f0 := HBX1.out.free 0
            have hsz := HBX1.out.lt
            have HCS : Hid ((w5.setCell ⟨w.heap.size, 0, none⟩ (.slice none 0 0)).cell? ⟨w.heap.size, 0, none⟩ = some (.slice none 0 0)) := World.cell?_setCell_same' _ _ _ (by rw [c0]; rfl)
            have HFIN := hid (HBAD.out (w5.setCell ⟨w.heap.size, 0, none⟩ (.slice none 0 0)) 10 (HB.out.setCell (by simp) _) HE2.out)
            clear hO5 hb5
            go_wp2_with fail
            refine bodyPost_ret (v := .tuple #[maskV (.slice none 0 0), .int .u8 10]) (by simp [results, Tryd.results21, go_sem, maskV, HCS.out]) rfl HFIN.out
          | some l =>
            obtain ⟨a5, c5, hv5⟩ := hO5.form
            have h65 := HLEN.out l rfl
            subst hv5
            have h64 := HL64.out l rfl
            obtain ⟨a', c', w6, hr, hO6, hB6, hB7⟩ := (HI.out.1).step hb5 (by decide) (Nat.zero_le _) HI.out.2.1.size HI.out.2.2.1 (G := Tryd.prog) 22 (.slice none 0 0) 24 under_ways info_ints rfl #[.slice a5 l.length c5] rfl (by intro u hu; simp at hu; subst hu; rfl) l (hO5.apart (by show l.length ≤ _; omega) h64) (by omega) (by decide)
            have HREL : Hid (RowsOwn WayP 23 1 0 wB.heap.size w6 (.slice a' (i + 1) c') (ws ++ [l]) ∧ Below wB.heap.size wB w6 ∧ (ws ++ [l]).length = i + 1 ∧ waysOf s root paths = (waysOf s root (paths.drop (i + 1))).map ((ws ++ [l]) ++ ·)) :=
              ⟨hO6, HI.out.2.1.trans hB7, by rw [List.length_append, HI.out.2.2.1]; rfl, HWO.out⟩
            clear hO5 hb5 h64 hO6 hB6 hB7 h65
            go_wp2_with (at_builtin; refine wpList_append_eq rfl _ _ _ rfl _ _ rfl rfl hr ?_)
            go_roundw
            case rel => exact ⟨i + 1, _, by go_num, hlt, HREL.out⟩
            case measure => simp [intOf]; omega
        · obtain rfl : i = n := by omega
          have HWS : Hid (waysOf s root paths = some ws) := by
            rw [Hid, HI.out.2.2.2, List.drop_eq_nil_of_le (by rw [← HN.out]; omega), waysOf]; simp
          have HE2 : Hid (makeC s root paths = (0, mOf ws)) := by rw [Hid, HE.out, HWS.out]
          have hWO := RowsOwn.at HI.out.1 (by rw [HI.out.2.2.1]; omega) (w' := wr) (fun _ _ _ => rfl)
          have HOF := hid (mask_Of (show WaysAt wr (.slice oa i oc) ws from hWO) ⟨by rw [HI.out.2.2.1]; omega, fun l hl => by have := (waysOf_light HWS.out).2 l hl; omega⟩)
          have HBX2 := hid (HBX.out.below HI.out.2.1)
          obtain ⟨o, HO⟩ : ∃ o, Hid (o = mOf ws) := ⟨_, rfl⟩
          rw [← HO.out] at HOF HE2
          clear hWO hlt
          go_wp2_with fail
          refine HOF.out.mono ?_
          intro e w3 hp3
          obtain ⟨a3, c3, rfl, -, hb3, hN3⟩ := hp3.open
          obtain ⟨q3, HQ3⟩ : ∃ q3, Hid (q3 = o.length) := ⟨_, rfl⟩
          rw [← HQ3.out] at hN3 ⊢
          have HBX3 := hid (HBX2.out.below hb3)
          have hsz3 := HBX3.out.lt
          have c0 := HBX3.out.cell 0 _ rfl
          have f0 := HBX3.out.free 0
          have hs2 := HI.out.2.1.size
          have HB3 : Hid (Below w.heap.size w w3) := (HB0.out.trans (HI.out.2.1.mono HB0.out.size)).trans (hb3.mono (by have := HSZ.out; omega))
          have HCS : Hid ((w3.setCell ⟨w.heap.size, 0, none⟩ (.slice a3 q3 c3)).cell? ⟨w.heap.size, 0, none⟩ = some (.slice a3 q3 c3)) := World.cell?_setCell_same' _ _ _ (by rw [c0]; rfl)
          have HFIN : Hid (Q (.returned (.tuple #[maskV (.slice a3 q3 c3), .int .u8 0])) (w3.setCell ⟨w.heap.size, 0, none⟩ (.slice a3 q3 c3))) := by
            rw [HQ.out, HE2.out]
            exact ⟨_, rfl, hN3.later (by have := HSZ.out; omega) (by simp) fun b h1 h2 => Below.heap_setCell _ _ _ _ (by show b ≠ w.heap.size; have := HSZ.out; omega), HB3.out.setCell (by simp) _⟩
          unfold maskV
          clear hp3 hb3 hN3 hs2
          go_wp2_with fail
          refine bodyPost_ret (v := .tuple #[maskV (.slice a3 q3 c3), .int .u8 0]) (by simp [results, Tryd.results21, go_sem, maskV, HCS.out]) rfl HFIN.out
  · have HE : Hid (makeC s root paths = (ac, [])) := by rw [Hid, makeC, if_pos (by rw [← HAC.out]; exact hac), HAC.out]
    have e1 : ((ac : Int) != 0) = true := by simp; exact hac
    have e2 : ((ac : Int) == 0) = false := by simp; exact hac
    have e3 : (ac != 0) = true := by simp; exact hac
    have hac0 : 0 < ac := by omega
    have e4 : (ac == 0) = false := by simp; exact hac
    clear hac
    go_enter Tryd.func21, Tryd.ntmps21
    go_wp2_with fail
    rw [← HWB.out]
    refine HAR.out.mono ?_
    rintro e w1 ⟨rfl, hb⟩
    have HB : Hid (Below w.heap.size w w1) := HB0.out.trans (hb.mono HB0.out.size)
    have HBX1 := hid (HBX.out.below hb)
    have c0 := HBX1.out.cell 0 _ rfl
    have f0 := HBX1.out.free 0
    have hsz := HBX1.out.lt
    have HCS : Hid ((w1.setCell ⟨w.heap.size, 0, none⟩ (.slice none 0 0)).cell? ⟨w.heap.size, 0, none⟩ = some (.slice none 0 0)) := World.cell?_setCell_same' _ _ _ (by rw [c0]; rfl)
    have HFIN := hid (HBAD.out (w1.setCell ⟨w.heap.size, 0, none⟩ (.slice none 0 0)) ac (HB.out.setCell (by simp) _) HE.out)
    clear hb
    go_wp2_with fail
    refine bodyPost_ret (v := .tuple #[maskV (.slice none 0 0), .int .u8 (ac : Int)]) (by simp [results, Tryd.results21, go_sem, maskV, HCS.out]) rfl HFIN.out

end Go.Proofs.YtpjikakbdahmfaaDoor

namespace Go.Proofs.YtpjikakbdahmfaaDoor
open Go.RowKit

def s13 : List Mes := [⟨⟨#[109]⟩, [⟨⟨#[97]⟩, 7, 17, false, false, 0⟩, ⟨⟨#[98]⟩, 2, 1, false, false, 0⟩, ⟨⟨#[99]⟩, 3, 1, false, false, 0⟩]⟩]
def p13 : List (List UInt8) := [[97, 46, 98], [97], [97, 46, 99]]
theorem make13 : makeC s13 0 p13 = (0, [[7]]) := by decide +kernel

set_option maxRecDepth 100000 in
set_option maxHeartbeats 4000000 in
theorem law13_alive (w : World) : Calls Tryd.prog 6 #[] w fun e w' => e = .returned (.bool true) ∧ Below w.heap.size w w' := by
  go_enter Tryd.func6, Tryd.ntmps6
  go_wp2_with fail
  obtain ⟨W, HW⟩ : ∃ W, Hid (W = ((w.alloc (.cells #[.string ⟨#[97]⟩, .int .i64 7, .int .i64 17, .bool false, .bool false, .int .i64 0, .string ⟨#[98]⟩, .int .i64 2, .int .i64 1, .bool false, .bool false, .int .i64 0, .string ⟨#[99]⟩, .int .i64 3, .int .i64 1, .bool false, .bool false, .int .i64 0] 55)).alloc
    (.cells #[.string ⟨#[109]⟩, .slice (some ⟨w.heap.size, 0, none⟩) 3 3] 58)).alloc (.cells #[.string ⟨#[97, 46, 98]⟩, .string ⟨#[97]⟩, .string ⟨#[97, 46, 99]⟩] 9)) := ⟨_, rfl⟩
  have hS : SchemaAt W (.slice (some ⟨w.heap.size + 1, 0, none⟩) 1 1) s13 := by
    rw [HW.out]
    refine schema_one (Blk.alloc (Blk.new' _ [.string ⟨#[109]⟩, .slice (some ⟨w.heap.size, 0, none⟩) 3 3] _ _ (by simp)) _) (by decide) ?_
    refine fields_blk (Blk.alloc (Blk.alloc (Blk.new w _ _) _) _) 3 rfl (by omega) ?_
    intro f hf
    simp at hf
    rcases hf with rfl | rfl | rfl <;> exact ⟨by decide, by decide, by decide, by decide⟩
  have hP : StrsAt W (.slice (some ⟨w.heap.size + 1 + 1, 0, none⟩) 3 3) p13 := by
    rw [HW.out]
    refine ⟨seg_blk (Blk.new' _ (p13.map strV) 9 _ (by simp)) 1 3 rfl (by omega), by decide⟩
  have HM := hid (mask_Make hS 0 hP (by decide))
  rw [make13] at HM
  have HB : Hid (Below w.heap.size w W) := by show Below _ _ _; rw [HW.out]; (repeat (first | with_reducible exact Below.refl _ _ | with_reducible refine Below.setCell ?_ (by first | omega | (simp; omega) | (simp; done)) _ | with_reducible refine Below.alloc ?_ (by first | omega | (simp; omega) | (simp; done)) _ | with_reducible refine below_drewN ?_ _ | with_reducible refine Below.drew ?_))
  rw [← HW.out]
  clear hS hP
  refine HM.out.mono ?_
  rintro e w1 ⟨v1, rfl, hN, hb1⟩
  have HB1 : Hid (Below w.heap.size w w1) := below_step HB.out hb1 HB.out.size
  obtain ⟨b, q, a, c, hv, g0, hb5, hb5', hE⟩ := hN.elem (k := 0) (x := [7]) rfl
  obtain ⟨c1, hv1⟩ : ∃ c1, v1 = .slice (some ⟨b, q, none⟩) 1 c1 := ⟨_, hv⟩
  subst hv1
  have hI := hE w1 fun _ _ _ => rfl
  rw [Nat.add_zero] at g0
  have g0' : w1.cell? ⟨b, q, none⟩ = some (.slice a 1 c) := g0
  have hI' : IntsAt w1 (.slice a 1 c) [7] := hI
  have HI := hid hI'
  have hix := index_0 Tryd.underlying22 size_ints (a := some ⟨b, q, none⟩) rfl (by decide : 0 < 1) (cap := c1)
  unfold maskV
  clear hN hb1 hv hb5 hE hI hI' g0
  go_wp2_with fail
  have hA : Below w1.heap.size w1 ((w1.alloc (.cells #[.slice (some ⟨b, q, none⟩) 1 c1] 27)).alloc (.cells #[.int .i64 7] 3)) := by (repeat (first | with_reducible exact Below.refl _ _ | with_reducible refine Below.setCell ?_ (by first | omega | (simp; omega) | (simp; done)) _ | with_reducible refine Below.alloc ?_ (by first | omega | (simp; omega) | (simp; done)) _ | with_reducible refine below_drewN ?_ _ | with_reducible refine Below.drew ?_))
  have h7 : IntsAt ((w1.alloc (.cells #[.slice (some ⟨b, q, none⟩) 1 c1] 27)).alloc (.cells #[.int .i64 7] 3)) (.slice (some ⟨w1.heap.size + 1, 0, none⟩) 1 1) [7] :=
    ⟨seg_blk (Blk.new' _ [.int .i64 7] 3 _ (by simp)) 1 1 rfl (by omega), by simp [i64ok]⟩
  have HSM := hid (ref07_SameInts (HI.out.below hA) h7)
  have HB5 := hid (HB1.out.trans (hA.mono HB1.out.size))
  clear hA h7
  refine HSM.out.mono ?_
  rintro e w2 ⟨rfl, hd⟩
  have HB6 := hid (below_step HB5.out hd.below HB5.out.size)
  clear hd
  go_wp2_with fail
  go_ret
  exact ⟨by simp, HB6.out⟩

end Go.Proofs.YtpjikakbdahmfaaDoor

namespace Go.Proofs.YtpjikakbdahmfaaDoor
open Go.RowKit

theorem half_mOf (x y : List (List Int)) : halfW x (mOf y) = halfW x y := by
  unfold halfW
  congr 1
  funext u
  exact mOf_has y u

def LawPost (w : World) (e : Ending) (w' : World) : Prop := e = .returned (.bool true) ∧ Below w.heap.size w w'

set_option maxRecDepth 100000 in
set_option maxHeartbeats 8000000 in
theorem law13_MaskWays {w : World} {va vb vw : Value} {la lb : List (List Int)} {way : List Int} (hA : WaysAt w va la) (hB : WaysAt w vb lb) (hW : IntsAt w vw way) (hLa : LightW la) (hLb : LightW lb) (hL : la.length + lb.length ≤ 1099511627776) (x : Int) :
    Calls Tryd.prog 4 #[va, vb, .int .i64 x, vw] w (LawPost w) := by
  have HA := hid hA
  have HB := hid hB
  have HW := hid hW
  have HLL := hid (And.intro hLa hLb)
  obtain ⟨-, aa, ac, rfl, -, -⟩ := hA.open
  obtain ⟨-, ba, bc, rfl, -, -⟩ := hB.open
  obtain ⟨-, wa, wc, rfl, -, -⟩ := hW.open
  obtain ⟨na, HNA⟩ : ∃ n, Hid (n = la.length) := ⟨_, rfl⟩
  obtain ⟨nb, HNB⟩ : ∃ n, Hid (n = lb.length) := ⟨_, rfl⟩
  obtain ⟨nw, HNW⟩ : ∃ n, Hid (n = way.length) := ⟨_, rfl⟩
  rw [← HNA.out] at HA hL ⊢
  rw [← HNB.out] at HB hL ⊢
  rw [← HNW.out] at HW ⊢
  obtain ⟨Q, HQ⟩ : ∃ Q : Ending → World → Prop, Hid (Q = LawPost w) := ⟨_, rfl⟩
  rw [← HQ.out]
  have HTRUE : Hid (∀ w', Below w.heap.size w w' → Q (.returned (.bool true)) w') := fun w' hb => by rw [HQ.out]; exact ⟨rfl, hb⟩
  clear hA hB hW hLa hLb
  go_enter Tryd.func4, Tryd.ntmps4
  go_wp2_with fail
  refine (law13_alive _).mono ?_
  rintro e w1 ⟨rfl, hb⟩
  have HB1 := hid hb
  clear hb
  go_wp2_with fail
  refine (law13_Many (HA.out.below HB1.out)).mono ?_
  rintro e w1' ⟨⟨m1, rfl⟩, rfl⟩
  cases m1 with
  | true =>
    go_wp2_with fail
    exact HTRUE.out _ HB1.out
  | false =>
    go_wp2_with fail
    refine (law13_Many (HB.out.below HB1.out)).mono ?_
    rintro e w1' ⟨⟨m2, rfl⟩, rfl⟩
    cases m2 with
    | true =>
      go_wp2_with fail
      exact HTRUE.out _ HB1.out
    | false =>
      by_cases h100 : 100 < nw
      · go_wp2_with fail
        exact HTRUE.out _ HB1.out
      · have e1 : decide ((100 : Int) < nw) = false := decide_eq_false (by omega)
        have e2 : decide (100 < nw) = false := decide_eq_false h100
        clear h100
        go_wp2_with fail
        refine (ref13_Of (HA.out.below HB1.out) (by rw [← HNA.out]; omega)).mono ?_
        rintro e w2 ⟨x1, rfl, hX, hb2⟩
        have HB2 : Hid (Below w.heap.size w w2) := below_step HB1.out hb2 HB1.out.size
        obtain ⟨-, xa, xc, rfl, -, -⟩ := hX.open
        have HX := hid hX
        clear hX hb2
        go_wp2_with fail
        refine (ref13_Of (HB.out.below HB2.out) (by rw [← HNB.out]; omega)).mono ?_
        rintro e w3 ⟨y1, rfl, hY, hb3⟩
        have HB3 : Hid (Below w.heap.size w w3) := below_step HB2.out hb3 HB2.out.size
        obtain ⟨-, ya, yc, rfl, -, -⟩ := hY.open
        have HY := hid hY
        have HX3 := hid (HX.out.below hb3)
        clear hY hb3
        obtain ⟨X, HXM⟩ : ∃ X, Hid (X = mOf la) := ⟨_, rfl⟩
        obtain ⟨Y, HYM⟩ : ∃ Y, Hid (Y = mOf lb) := ⟨_, rfl⟩
        rw [← HXM.out] at HX3 ⊢
        rw [← HYM.out] at HY ⊢
        obtain ⟨xn, HXN⟩ : ∃ n, Hid (n = X.length) := ⟨_, rfl⟩
        obtain ⟨yn, HYN⟩ : ∃ n, Hid (n = Y.length) := ⟨_, rfl⟩
        rw [← HXN.out] at HX3 ⊢
        rw [← HYN.out] at HY ⊢
        go_wp2_with fail
        have hA4 : Below w3.heap.size w3 (w3.alloc (.cells #[.slice aa na ac] 27)) := by (repeat (first | with_reducible exact Below.refl _ _ | with_reducible refine Below.setCell ?_ (by first | omega | (simp; omega) | (simp; done)) _ | with_reducible refine Below.alloc ?_ (by first | omega | (simp; omega) | (simp; done)) _ | with_reducible refine below_drewN ?_ _ | with_reducible refine Below.drew ?_))
        have HU := hid (mask_Under ((HA.out.below HB3.out).below hA4) HLL.out.1 x)
        unfold maskV at HU
        have HBXM : Hid (Blk (w3.alloc (.cells #[.slice aa na ac] 27)) w3.heap.size [.slice aa na ac] 27) := Blk.new _ [.slice aa na ac] _
        have HA4 := hid hA4
        clear hA4
        refine HU.out.mono ?_
        rintro e w4 ⟨u1, rfl, hN4, hb4⟩
        obtain ⟨U, HU1⟩ : ∃ U, Hid (U = underW X x) := ⟨_, rfl⟩
        have HUX : Hid (underW (mOf la) x = U) := by rw [Hid, HU1.out, HXM.out]
        rw [HUX.out] at hN4 ⊢
        have hU4 := hN4.here
        obtain ⟨-, ua, uc, rfl, -, -⟩ := hU4.open
        obtain ⟨un, HUN⟩ : ∃ n, Hid (n = U.length) := ⟨_, rfl⟩
        rw [← HUN.out] at hN4 hU4 ⊢
        have hb34 : Below w3.heap.size w3 w4 := HA4.out.trans (hb4.mono HA4.out.size)
        have HB4 : Hid (Below w.heap.size w w4) := below_step HB3.out hb34 HB3.out.size
        obtain ⟨w5, HW5⟩ : ∃ w5, Hid (w5 = w4.alloc (.cells #[.slice ua un uc] 27)) := ⟨_, rfl⟩
        have hb45 : Below w4.heap.size w4 w5 := by rw [HW5.out]; (repeat (first | with_reducible exact Below.refl _ _ | with_reducible refine Below.setCell ?_ (by first | omega | (simp; omega) | (simp; done)) _ | with_reducible refine Below.alloc ?_ (by first | omega | (simp; omega) | (simp; done)) _ | with_reducible refine below_drewN ?_ _ | with_reducible refine Below.drew ?_))
        have HB5 : Hid (Below w.heap.size w w5) := below_step HB4.out hb45 HB4.out.size
        have HA5 : Hid (WaysAt w5.drew (.slice aa na ac) la) := (HA.out.below HB5.out).keep fun _ _ h => h
        have HX5 : Hid (WaysAt w5.drew (.slice xa xn xc) X) := ((HX3.out.below hb34).below hb45).keep fun _ _ h => h
        have HY5 : Hid (WaysAt w5.drew (.slice ya yn yc) Y) := ((HY.out.below hb34).below hb45).keep fun _ _ h => h
        have HU5 : Hid (WaysAt w5.drew (.slice ua un uc) U) := (hU4.below hb45).keep fun _ _ h => h
        have HW5' : Hid (IntsAt w5.drew (.slice wa nw wc) way) := (HW.out.below HB5.out).keep fun _ _ h => h
        have c11 : w5.cell? ⟨w3.heap.size, 0, none⟩ = some (.slice aa na ac) := below_keeps hb45 _ _ (below_keeps hb4 _ _ (HBXM.out.cell 0 _ rfl))
        have c12 : w5.cell? ⟨w4.heap.size, 0, none⟩ = some (.slice ua un uc) := by rw [HW5.out]; exact (Blk.new w4 [.slice ua un uc] _).cell 0 _ rfl
        have q0 := And.intro (show w5.drew.cell? ⟨w3.heap.size, 0, none⟩ = some (.slice aa na ac) from c11) (show w5.drew.cell? ⟨w4.heap.size, 0, none⟩ = some (.slice ua un uc) from c12)
        have HOF := hid (mask_Of HA5.out HLL.out.1)
        have hfd := field_mask
        clear hN4 hU4 hb4 hb34 hb45
        unfold maskV
        obtain ⟨y1, HY1⟩ : ∃ y1, Hid (y1 = X.any (wholeW x)) := ⟨_, rfl⟩
        obtain ⟨y2, HY2⟩ : ∃ y2, Hid (y2 = hasW la way) := ⟨_, rfl⟩
        have HLX : Hid (LightW X) := by rw [HXM.out]; exact mOf_light HLL.out.1
        go_wp2_with fail
        rw [← HW5.out]
        go_region_held3 (fun w' => w'.cell? ⟨w3.heap.size, 0, none⟩ = some (.slice aa na ac) ∧ w'.cell? ⟨w4.heap.size, 0, none⟩ = some (.slice ua un uc)) (first | (with_reducible exact q0) | (with_reducible exact q1) | (with_reducible exact q2) | (with_reducible exact q3) | (with_reducible exact q4) | (with_reducible exact q5) | (with_reducible exact q6) | (with_reducible exact q7) | (with_reducible exact q8) | (with_reducible exact q9) | go_keep) (first | (go_at_call 8; (with_reducible refine HOF.out.mono ?_); intro e k1 hp; obtain ⟨p1a, p1c, rfl, hP1, hk1, -⟩ := hp.open; have HK1 := hid hk1; have HP1 := hid hP1; have q1 := And.intro (below_keeps hk1 _ _ q0.1) (below_keeps hk1 _ _ q0.2); unfold maskV; rw [← HXM.out] at HP1 ⊢; rw [← HXN.out] at HP1 ⊢; clear hp hP1 hk1) | (go_at_call 12; (with_reducible refine (ref13_Same HP1.out (HX5.out.below HK1.out)).mono ?_); rintro e k2 ⟨rfl, hd⟩; rw [show decide (X = X) = true from decide_eq_true rfl]; have HK2 := hid (below_step HK1.out hd.below HK1.out.size); have q2 := And.intro (hd.keeps _ _ q1.1) (hd.keeps _ _ q1.2); clear hd) | (go_at_call 15; have hwh := mask_Whole (HA5.out.below HK2.out) HLL.out.1 x; unfold maskV at hwh; (with_reducible refine hwh.mono ?_); clear hwh; rintro e k3 ⟨rfl, hd⟩; rw [← HXM.out, ← HY1.out]; have HK3 := hid (below_step HK2.out hd HK2.out.size); have q3 := And.intro (below_keeps hd _ _ q2.1) (below_keeps hd _ _ q2.2); clear hd) | (go_at_call 16; (with_reducible refine (ref13_Whole (HX5.out.below HK3.out) x).mono ?_); rintro e k4 ⟨rfl, hd⟩; rw [← HY1.out]; have HK4 := hid (below_step HK3.out hd.below HK3.out.size); have q4 := And.intro (hd.keeps _ _ q3.1) (hd.keeps _ _ q3.2); clear hd) | (go_at_call 17; (with_reducible refine (ref13_Under (HX5.out.below HK4.out) HLX.out x).mono ?_); rintro e k5 ⟨p5, rfl, hP5, hk5⟩; rw [← HU1.out] at hP5; obtain ⟨-, p5a, p5c, rfl, -, -⟩ := hP5.open; rw [← HUN.out] at hP5 ⊢; have HP5 := hid hP5; have HK5 := hid (below_step HK4.out hk5 HK4.out.size); have q5 := And.intro (below_keeps hk5 _ _ q4.1) (below_keeps hk5 _ _ q4.2); clear hP5 hk5) | (go_at_call 12; (with_reducible refine (ref13_Same (HU5.out.below HK5.out) HP5.out).mono ?_); rintro e k6 ⟨rfl, hd⟩; rw [show decide (U = U) = true from decide_eq_true rfl]; have HK6 := hid (below_step HK5.out hd.below HK5.out.size); have q6 := And.intro (hd.keeps _ _ q5.1) (hd.keeps _ _ q5.2); clear hd) | (go_at_call 17; (with_reducible refine (ref13_Under (HX5.out.below HK6.out) HLX.out x).mono ?_); rintro e k7 ⟨p7, rfl, hP7, hk7⟩; rw [← HU1.out] at hP7; obtain ⟨-, p7a, p7c, rfl, -, -⟩ := hP7.open; rw [← HUN.out] at hP7 ⊢; have HK7 := hid (below_step HK6.out hk7 HK6.out.size); have q7 := And.intro (below_keeps hk7 _ _ q6.1) (below_keeps hk7 _ _ q6.2); clear hP7 hk7) | (go_at_call 9; have hha := mask_Has (HA5.out.below HK7.out) (HW5'.out.below HK7.out); unfold maskV at hha; (with_reducible refine hha.mono ?_); clear hha; rintro e k8 ⟨rfl, hd⟩; rw [← HY2.out]; have HK8 := hid (below_step HK7.out hd HK7.out.size); have q8 := And.intro (below_keeps hd _ _ q7.1) (below_keeps hd _ _ q7.2); clear hd) | (go_at_call 18; (with_reducible refine (ref13_Has (HA5.out.below HK8.out) (HW5'.out.below HK8.out)).mono ?_); rintro e k9 ⟨rfl, hd⟩; rw [← HY2.out]; have HK9 := hid (below_step HK8.out hd.below HK8.out.size); have q9 := And.intro (hd.keeps _ _ q8.1) (hd.keeps _ _ q8.2); clear hd))
        have HKK : Hid (Below w5.heap.size w5 k9) := below_step (Below.drew (Below.refl _ _)) HK9.out (Nat.le_refl _)
        have hsz5 : w.heap.size ≤ w5.heap.size := HB5.out.size
        have HX9 := hid (HX5.out.below HK9.out)
        have HY9 := hid (HY5.out.below HK9.out)
        have HA9 := hid (HA5.out.below HK9.out)
        have HB9 : Hid (WaysAt k9 (.slice ba nb bc) lb) := (HB.out.below HB5.out).below HKK.out
        have HBW9 : Hid (Below w.heap.size w k9) := HB5.out.trans (HKK.out.mono HB5.out.size)
        have HQ9 := hid q9
        have HXAT : Hid (∀ k l, X[k]? = some l → ∃ b o a2 c2, xa = some ⟨b, o, none⟩ ∧ k9.cell? ⟨b, o + k, none⟩ = some (.slice a2 l.length c2) ∧ IntsAt k9 (.slice a2 l.length c2) l) := by
          obtain ⟨-, a', c', he, -, hat⟩ := HX9.out.open
          cases he
          exact hat
        have HYAT : Hid (∀ k l, Y[k]? = some l → ∃ b o a2 c2, ya = some ⟨b, o, none⟩ ∧ k9.cell? ⟨b, o + k, none⟩ = some (.slice a2 l.length c2) ∧ IntsAt k9 (.slice a2 l.length c2) l) := by
          obtain ⟨-, a', c', he, -, hat⟩ := HY9.out.open
          cases he
          exact hat
        have hxn : xn ≤ na := by rw [HXN.out, HNA.out, HXM.out]; exact mOf_len la
        have hyn : yn ≤ nb := by rw [HYN.out, HNB.out, HYM.out]; exact mOf_len lb
        clear q0 q1 q2 q3 q4 q5 q6 q7 q8 q9 c11 c12
        go_wp2_with fail
        go_loopw [14, 15] (fun v14 v15 wr => ∃ (i : Nat) (o : List (List Int)), v15 = .int .i64 i ∧ i ≤ xn ∧ Hid (RowsOwn WayP 23 1 k9.heap.size k9.heap.size wr v14 o ∧ o.length ≤ i ∧ o ++ halfW (X.drop i) Y = halfW X Y ∧ Below k9.heap.size k9 wr)) (fun _ v15 _ => xn - (intOf v15).toNat)
        case atStart => exact ⟨0, [], rfl, by omega, RowsOwn.nil _ _ _ _ _ _, by simp, rfl, Below.refl _ _⟩
        case round =>
          obtain ⟨i, o, rfl, hi, HI⟩ := hrel
          obtain ⟨oa, oc, hoe⟩ := HI.out.1.form
          obtain ⟨j, HJ⟩ : ∃ j, Hid (j = o.length) := ⟨_, rfl⟩
          rw [← HJ.out] at hoe
          subst hoe
          have hjk : j ≤ i := by rw [HJ.out]; exact HI.out.2.1
          by_cases hlt : i < xn
          · obtain ⟨z, hz⟩ := way_get HXN.out hlt
            obtain ⟨b, q, za, zc, ha, g0, hZ⟩ := HXAT.out i z hz
            have hix := index_run1 Tryd.underlying22 size_ints ha i hlt (cap := xc)
            replace g0 := below_keeps HI.out.2.2.2 _ _ g0
            have HD := hid (drop_at hz)
            obtain ⟨zn, HZN⟩ : ∃ zn, Hid (zn = z.length) := ⟨_, rfl⟩
            rw [← HZN.out] at g0 hZ
            have HZ := hid hZ
            have hhas := ref13_Has (HY9.out.below HI.out.2.2.2) (hZ.below HI.out.2.2.2)
            obtain ⟨y, HY0⟩ : ∃ y, Hid (y = hasW Y z) := ⟨_, rfl⟩
            rw [← HY0.out] at hhas
            have HHAS := hid hhas
            have HHC := hid (half_cons z (X.drop (i + 1)) Y)
            rw [← HY0.out] at HHC
            clear hz ha hZ hhas
            go_wp2_with fail
            refine HHAS.out.mono ?_
            rintro e w8 ⟨rfl, hd8⟩
            have hb8 := hd8.below
            have g8 := hd8.keeps _ _ g0
            have HB8 := hid hb8
            clear hd8 g0
            cases y with
            | true =>
              obtain ⟨a', c', w9, hr, hO9, hB9, hB10⟩ := (HI.out.1).step hb8 (by decide) (Nat.le_refl _) HI.out.2.2.2.size HJ.out.symm (G := Tryd.prog) 22 (.slice none 0 0) 24 under_ways info_ints rfl #[.slice za zn zc] rfl (by intro u hu; simp at hu; subst hu; rfl) z
                (fun w' hw' => ⟨_, rfl, HZ.out.keep (keep_old fun b hb => (hw' b (Nat.lt_of_lt_of_le (Nat.lt_of_lt_of_le hb HI.out.2.2.2.size) HB8.out.size) (.inl hb)).trans ((HB8.out.block b (Nat.lt_of_lt_of_le hb HI.out.2.2.2.size)).trans (HI.out.2.2.2.block b hb)))⟩) (by omega) (by decide)
              have HO9 := hid hO9
              have HB10 := hid hB10
              clear hO9 hB9 hB10 hb8
              go_wp2_with (at_builtin; refine wpList_append_eq rfl _ _ _ rfl _ _ rfl rfl hr ?_)
              go_roundw
              case rel => exact ⟨i + 1, _, by go_num, hlt, HO9.out, by rw [List.length_append]; have := HI.out.2.1; simp; omega, by rw [← HI.out.2.2.1, HD.out, HHC.out]; simp, HI.out.2.2.2.trans HB10.out⟩
              case measure => simp [intOf]; omega
            | false =>
              clear hb8
              go_wp2_with fail
              go_roundw
              case rel => exact ⟨i + 1, o, by go_num, hlt, HI.out.1.below HB8.out, by have := HI.out.2.1; omega, by rw [← HI.out.2.2.1, HD.out, HHC.out]; simp, below_step HI.out.2.2.2 HB8.out HI.out.2.2.2.size⟩
              case measure => simp [intOf]; omega
          · obtain rfl : xn = i := by omega
            have HEN : Hid (o = halfW X Y) := by
              have := HI.out.2.2.1
              rw [List.drop_eq_nil_of_le (by rw [← HXN.out]; omega)] at this
              rw [Hid, ← this]; simp [halfW]
            have HO1 : Hid (RowsOwn WayP 23 1 k9.heap.size k9.heap.size wr (.slice oa j oc) o ∧ Below k9.heap.size k9 wr) := And.intro HI.out.1 HI.out.2.2.2
            have HEN1 := hid HEN.out
            have HJX : Hid (o.length ≤ xn) := HI.out.2.1
            clear hlt hjk hi HI HEN HJ
            obtain ⟨wo, rfl⟩ : ∃ wo : World, wo = wr := ⟨_, rfl⟩
            go_wp2_with fail
            go_loopw [14, 16] (fun v14 v15 wr => ∃ (i : Nat) (o : List (List Int)), v15 = .int .i64 i ∧ i ≤ yn ∧ Hid (RowsOwn WayP 23 1 k9.heap.size k9.heap.size wr v14 o ∧ o.length ≤ xn + i ∧ o ++ halfW (Y.drop i) X = halfW X Y ++ halfW Y X ∧ Below k9.heap.size k9 wr)) (fun _ v15 _ => yn - (intOf v15).toNat)
            case atStart => exact ⟨0, _, rfl, by omega, HO1.out.1, by have := HJX.out; omega, by rw [HEN1.out]; rfl, HO1.out.2⟩
            case round =>
              obtain ⟨i, o, rfl, hi, HI⟩ := hrel
              obtain ⟨oa, oc, hoe⟩ := HI.out.1.form
              obtain ⟨j, HJ⟩ : ∃ j, Hid (j = o.length) := ⟨_, rfl⟩
              rw [← HJ.out] at hoe
              subst hoe
              have hjk : j ≤ xn + i := by rw [HJ.out]; exact HI.out.2.1
              by_cases hlt : i < yn
              · obtain ⟨z, hz⟩ := way_get HYN.out hlt
                obtain ⟨b, q, za, zc, ha, g0, hZ⟩ := HYAT.out i z hz
                have hix := index_run1 Tryd.underlying22 size_ints ha i hlt (cap := yc)
                replace g0 := below_keeps HI.out.2.2.2 _ _ g0
                have HD := hid (drop_at hz)
                obtain ⟨zn, HZN⟩ : ∃ zn, Hid (zn = z.length) := ⟨_, rfl⟩
                rw [← HZN.out] at g0 hZ
                have HZ := hid hZ
                have hhas := ref13_Has (HX9.out.below HI.out.2.2.2) (hZ.below HI.out.2.2.2)
                obtain ⟨y, HY0⟩ : ∃ y, Hid (y = hasW X z) := ⟨_, rfl⟩
                rw [← HY0.out] at hhas
                have HHAS := hid hhas
                have HHC := hid (half_cons z (Y.drop (i + 1)) X)
                rw [← HY0.out] at HHC
                clear hz ha hZ hhas
                go_wp2_with fail
                refine HHAS.out.mono ?_
                rintro e w8 ⟨rfl, hd8⟩
                have hb8 := hd8.below
                have g8 := hd8.keeps _ _ g0
                have HB8 := hid hb8
                clear hd8 g0
                cases y with
                | true =>
                  obtain ⟨a', c', w9, hr, hO9, hB9, hB10⟩ := (HI.out.1).step hb8 (by decide) (Nat.le_refl _) HI.out.2.2.2.size HJ.out.symm (G := Tryd.prog) 22 (.slice none 0 0) 24 under_ways info_ints rfl #[.slice za zn zc] rfl (by intro u hu; simp at hu; subst hu; rfl) z
                    (fun w' hw' => ⟨_, rfl, HZ.out.keep (keep_old fun b hb => (hw' b (Nat.lt_of_lt_of_le (Nat.lt_of_lt_of_le hb HI.out.2.2.2.size) HB8.out.size) (.inl hb)).trans ((HB8.out.block b (Nat.lt_of_lt_of_le hb HI.out.2.2.2.size)).trans (HI.out.2.2.2.block b hb)))⟩) (by omega) (by decide)
                  have HO9 := hid hO9
                  have HB10 := hid hB10
                  clear hO9 hB9 hB10 hb8
                  go_wp2_with (at_builtin; refine wpList_append_eq rfl _ _ _ rfl _ _ rfl rfl hr ?_)
                  go_roundw
                  case rel => exact ⟨i + 1, _, by go_num, hlt, HO9.out, by rw [List.length_append]; have := HI.out.2.1; simp; omega, by rw [← HI.out.2.2.1, HD.out, HHC.out]; simp, HI.out.2.2.2.trans HB10.out⟩
                  case measure => simp [intOf]; omega
                | false =>
                  clear hb8
                  go_wp2_with fail
                  go_roundw
                  case rel => exact ⟨i + 1, o, by go_num, hlt, HI.out.1.below HB8.out, by have := HI.out.2.1; omega, by rw [← HI.out.2.2.1, HD.out, HHC.out]; simp, below_step HI.out.2.2.2 HB8.out HI.out.2.2.2.size⟩
                  case measure => simp [intOf]; omega
              · obtain rfl : i = yn := by omega
                have HEN : Hid (o = halfW X Y ++ halfW Y X) := by
                  have := HI.out.2.2.1
                  rw [List.drop_eq_nil_of_le (by rw [← HYN.out]; omega)] at this
                  rw [Hid, ← this]; simp [halfW]
                clear hlt
                have hbF : Below w.heap.size w wr := HBW9.out.trans (HI.out.2.2.2.mono HBW9.out.size)
                obtain ⟨wF, HWF⟩ : ∃ wF, Hid (wF = wr.alloc (.cells #[.slice ba nb bc] 27)) := ⟨_, rfl⟩
                have hrF : Below wr.heap.size wr wF := by rw [HWF.out]; (repeat (first | with_reducible exact Below.refl _ _ | with_reducible refine Below.setCell ?_ (by first | omega | (simp; omega) | (simp; done)) _ | with_reducible refine Below.alloc ?_ (by first | omega | (simp; omega) | (simp; done)) _ | with_reducible refine below_drewN ?_ _ | with_reducible refine Below.drew ?_))
                have HBF : Hid (Below w.heap.size w wF) := below_step hbF hrF hbF.size
                have HAF := hid (HA.out.below HBF.out)
                have HBBF := hid (HB.out.below HBF.out)
                have k11 : wF.cell? ⟨w3.heap.size, 0, none⟩ = some (.slice aa na ac) := below_keeps hrF _ _ (below_keeps HI.out.2.2.2 _ _ HQ9.out.1)
                have k11r : wr.cell? ⟨w3.heap.size, 0, none⟩ = some (.slice aa na ac) := below_keeps HI.out.2.2.2 _ _ HQ9.out.1
                have hlt11 := World.block_lt_of_cell? wr _ k11r
                have k17 : wF.cell? ⟨wr.heap.size, 0, none⟩ = some (.slice ba nb bc) := by rw [HWF.out]; exact (Blk.new wr [.slice ba nb bc] _).cell 0 _ rfl
                have hUN := mask_Union HAF.out HBBF.out HLL.out.1 HLL.out.2 (by rw [← HNA.out, ← HNB.out]; exact hL)
                unfold maskV at hUN
                have HUN := hid hUN
                have hWM := RowsOwn.at HI.out.1 (by have := HI.out.2.1; omega) (w' := wr) (fun _ _ _ => rfl)
                have HWM : Hid (WaysAt wF (.slice oa j oc) o) := WaysAt.below hWM hrF
                have HK11 := hid k11
                have HK17 := hid k17
                have HOL : Hid (o.length ≤ 1099511627776) := by show _ ≤ _; have := HI.out.2.1; omega
                clear hbF hrF hUN hWM
                go_wp2_with fail
                rw [← HWF.out]
                refine HUN.out.mono ?_
                intro e wU hp
                obtain ⟨ma, mc, rfl, hM, hbU, -⟩ := hp.open
                obtain ⟨mn, HMN⟩ : ∃ n, Hid (n = (mOf (la ++ lb)).length) := ⟨_, rfl⟩
                rw [← HMN.out] at hM ⊢
                have HMU := hid hM
                have HBU := hid hbU
                unfold maskV
                -- the two lists, one behind the other
                obtain ⟨psa, ea, sa⟩ := (HAF.out.below hbU).pairs
                obtain ⟨psb, eb, sb⟩ := (HBBF.out.below hbU).pairs
                have hla : psa.length = na := by rw [HNA.out, ← ea, List.length_map]
                have hlb : psb.length = nb := by rw [HNB.out, ← eb, List.length_map]
                rw [hla] at sa
                rw [hlb] at sb
                have own0 : World.ownsRow (wU.alloc (.cells #[] 23)) wU.heap.size 23 1 (.slice (some ⟨wU.heap.size, 0, none⟩) 0 0) 0 [] := World.ownsRow_made (base := wU.heap.size) (e := 23) (size := 1) wU #[] 0 (Nat.le_refl _) (by unfold maxLen; omega) rfl
                obtain ⟨v6, w6, hr6, own6, hg6, -⟩ := seg_append (P := Tryd.prog) _ wU.heap.size 22 22 23 (.slice none 0 0) 1 24 under_ways info_ints rfl (by decide) _ _ 0 na _ _ own0 (sa.below ((Below.refl _ _).alloc (Nat.le_refl _) _)) (wv_vals_one psa) (by omega) (by omega) (by simp)
                have hB6 : Below wU.heap.size wU w6 := ((Below.refl wU.heap.size wU).alloc (Nat.le_refl _) (.cells #[] 23)).grown hg6 (by simp) (by intro q e; simp [Value.ownBlock] at e; omega)
                rw [Nat.zero_add, List.nil_append] at own6
                obtain ⟨a6, c6, e6⟩ := row_form own6
                subst e6
                obtain ⟨v7, w7, hr7, own7, hg7, -⟩ := seg_append (P := Tryd.prog) _ wU.heap.size 22 22 23 (.slice none 0 0) 1 24 under_ways info_ints rfl (by decide) _ _ _ nb _ _ own6 (sb.below hB6) (wv_vals_one psb) (by omega) (by omega) hB6.size
                have hB7 : Below wU.heap.size wU w7 := hB6.grown hg7 hB6.size (fun q e => (World.ownsRow.lt own6 q e).1)
                obtain ⟨a7, c7, e7⟩ := row_form own7
                subst e7
                have HB7 := hid hB7
                have HCAT : Hid (WaysAt w7 (.slice a7 (na + nb) c7) (la ++ lb)) := by
                  have hs := row_seg own7 (by omega)
                  rw [← List.map_append] at hs
                  have h1 := ways_of_row (psa ++ psb) (by rw [List.length_append, hla, hlb]; exact hs) (below_keeps hB7)
                  rwa [List.map_append, ea, eb] at h1
                have HCL : Hid ((la ++ lb).length ≤ 1099511627776) := by show _ ≤ _; rw [List.length_append, ← HNA.out, ← HNB.out]; exact hL
                have hfd := field_mask
                clear hp hM hbU ea eb sa sb hla hlb own0 own6 hg6 hB6 own7 hg7 hB7 k11 k17 k11r hlt11
                go_wp2_with (at_builtin; first | refine wpList_append_eq (o := ⟨some 131, _, _, _, _, _⟩) rfl _ _ _ rfl _ _ rfl rfl hr6 ?_ | refine wpList_append_eq (o := ⟨some 133, _, _, _, _, _⟩) rfl _ _ _ rfl _ _ rfl rfl hr7 ?_)
                refine (ref13_Of HCAT.out HCL.out).mono ?_
                rintro e w8 ⟨v8, rfl, hW8, hb8⟩
                obtain ⟨-, a8, c8, rfl, -, -⟩ := hW8.open
                have HB8 : Hid (Below wU.heap.size wU w8) := below_step HB7.out hb8 HB7.out.size
                have HW8 := hid hW8
                have HSM := hid (ref13_Same (HMU.out.below HB8.out) hW8)
                rw [decide_eq_true rfl, ← HMN.out] at HSM
                rw [← HMN.out]
                clear hW8 hb8 hr6 hr7
                go_wp2_with fail
                refine HSM.out.mono ?_
                rintro e w9 ⟨rfl, hd⟩
                have HB9' : Hid (Below wF.heap.size wF w9) := below_step HBU.out (HB8.out.trans (hd.below.mono HB8.out.size)) HBU.out.size
                have k11 := below_keeps HB9'.out _ _ HK11.out
                have k17 := below_keeps HB9'.out _ _ HK17.out
                have hME := mask_Meet (HAF.out.below HB9'.out) (HBBF.out.below HB9'.out) HLL.out.1 HLL.out.2 (by rw [← HNA.out, ← HNB.out]; exact hL)
                unfold maskV at hME
                have HEQM : Hid (mOf (halfW (mOf la) lb ++ halfW (mOf lb) la) = mOf o) := by
                  rw [Hid, HEN.out, HXM.out, HYM.out, half_mOf (mOf la), half_mOf (mOf lb)]
                rw [HEQM.out] at hME
                have HME := hid hME
                clear hME hd
                go_wp2_with fail
                refine HME.out.mono ?_
                intro e w10 hp
                obtain ⟨na', nc', rfl, hM10, hb10, -⟩ := hp.open
                obtain ⟨zn, HZN⟩ : ∃ n, Hid (n = (mOf o).length) := ⟨_, rfl⟩
                rw [← HZN.out] at hM10 ⊢
                have HM10 := hid hM10
                have HB10 : Hid (Below wF.heap.size wF w10) := below_step HB9'.out hb10 HB9'.out.size
                unfold maskV
                clear hp hM10 hb10
                go_wp2_with fail
                refine (ref13_Of (HWM.out.below HB10.out) HOL.out).mono ?_
                rintro e w11 ⟨v11, rfl, hW11, hb11⟩
                obtain ⟨-, a11, c11, rfl, -, -⟩ := hW11.open
                have HSM2 := hid (ref13_Same (HM10.out.below hb11) hW11)
                rw [decide_eq_true rfl, ← HZN.out] at HSM2
                rw [← HZN.out]
                have HB11 : Hid (Below wF.heap.size wF w11) := below_step HB10.out hb11 HB10.out.size
                clear hW11 hb11
                go_wp2_with fail
                refine HSM2.out.mono ?_
                rintro e w12 ⟨rfl, hd⟩
                have HFIN := hid (HTRUE.out w12 (below_step (below_step HBF.out HB11.out HBF.out.size) hd.below (Nat.le_trans HBF.out.size HB11.out.size)))
                clear hd
                go_wp2_with fail
                exact HFIN.out

end Go.Proofs.YtpjikakbdahmfaaDoor
