/- mask.Resolve, mask.Make. Paths are at most 2^40 bytes. darninglaw13.alive: true. darninglaw13.MaskWays: true. A region that draws its order, with stores: V holds throughout, X till the gate g (the first store) has come up: what every later one waits for may be taken first by what X says. No condition. A region that draws its order, with stores: walked in an order of one's own choice (ts: an operation's place, and its tag). No condition. -/
import Derived.Test.YtmngpfnjomhhcaaDoorZ02
import Derived.Test.YtmngpfnjomhhcaaDoorZ09
import Derived.OrdersHeld
namespace Go.Proofs.YtmngpfnjomhhcaaDoor
open Go.RowKit
theorem wayP_len (s : List Mes) : ∀ (names : List (List UInt8)) (root : Int) (l : List Int), wayP s names root = some l → l.length ≤ names.length
  | [], _, l, h => by simp [wayP] at h; subst h; simp
  | t :: r, root, l, h => by
    rw [wayP] at h
    split at h
    · cases h
    · split at h
      · cases h; simp
      · split at h
        · cases h
        · obtain ⟨l', h1, rfl⟩ := Option.map_eq_some_iff.1 h
          have := wayP_len s r _ l' h1
          simp; omega
/-- the way of a path -/
def resolveW (s : List Mes) (root : Int) (p : List UInt8) : Option (List Int) := if pathOk p = true then wayP s (sdot p) root else none
theorem resolveW_len {s : List Mes} {root : Int} {p : List UInt8} {l : List Int} (h : resolveW s root p = some l) : l.length ≤ 65 := by
  unfold resolveW at h
  split at h
  · rename_i hp
    have h1 := wayP_len s _ _ _ h
    unfold pathOk at hp
    simp at hp
    omega
  · cases h
def resolveC (s : List Mes) (root : Int) (p : List UInt8) : Nat × List Int := if maskArgs s root ≠ 0 then (maskArgs s root, []) else match resolveW s root p with | some l => (0, l) | none => (10, [])
def ResolvePost (w : World) (x : Nat × List Int) (e : Ending) (w' : World) : Prop := ∃ v', e = .returned (.tuple #[v', .int .u8 (x.1 : Nat)]) ∧ IntsOwn w' w.heap.size v' x.2 ∧ Below w.heap.size w w'
theorem maskArgs_cases (s : List Mes) (root : Int) : maskArgs s root = 9 ∨ maskArgs s root = 2 ∨ maskArgs s root = 0 ∧ sright s = true ∧ 0 ≤ root ∧ root < s.length := by
  unfold maskArgs
  split
  · exact .inl rfl
  · rename_i h
    split
    · exact .inr (.inl rfl)
    · exact .inr (.inr ⟨rfl, by simpa using h, by omega, by omega⟩)
theorem strs_len_le {p : List UInt8} {t : List UInt8} (h : t ∈ sdot p) : t.length ≤ p.length := sdot_mem_len p t h
set_option maxRecDepth 100000 in
set_option maxHeartbeats 4000000 in
theorem mask_Resolve {w : World} {sv : Value} {s : List Mes} (hS : SchemaAt w sv s) (root : Int) (p : List UInt8) (hp : p.length ≤ 1099511627776) :
    Calls Tryd.prog 22 #[sv, .int .i64 root, strV p] w (ResolvePost w (resolveC s root p)) := by
  have HS := hid hS
  have HAR := hid (mask_args hS root)
  have HP := hid hp
  obtain ⟨-, sa, sc, rfl, -⟩ := hS.open
  obtain ⟨n, HN⟩ : ∃ n, Hid (n = s.length) := ⟨_, rfl⟩
  rw [← HN.out] at HS HAR ⊢
  have HVP : Hid (strV p = .string ⟨p.toArray⟩) := rfl
  have HSP := hid fun W => path_Split (w := W) p HP.out
  obtain ⟨PS, HPS⟩ : ∃ PS, Hid (PS = (⟨p.toArray⟩ : ByteArray)) := ⟨_, rfl⟩
  rw [HVP.out, ← HPS.out] at HSP ⊢
  obtain ⟨Q, HQ⟩ : ∃ Q : Ending → World → Prop, Hid (Q = ResolvePost w (resolveC s root p)) := ⟨_, rfl⟩
  rw [← HQ.out]
  have HBAD : Hid (∀ w' (c : Nat), Below w.heap.size w w' → resolveC s root p = (c, []) → Q (.returned (.tuple #[.slice none 0 0, .int .u8 (c : Int)])) w') := by
    intro w' c hb h
    rw [HQ.out, h]
    exact ⟨_, rfl, World.ownsRow_nil _ _ _ _, hb⟩
  obtain ⟨ac, HAC⟩ : ∃ ac, Hid (ac = maskArgs s root) := ⟨_, rfl⟩
  rw [← HAC.out] at HAR
  clear hS hp
  rcases maskArgs_cases s root with h | h | ⟨h, hsr, hr0, hr1⟩
  · have HE : Hid (resolveC s root p = (9, [])) := by rw [Hid, resolveC, if_pos (by rw [h]; decide), h]
    rw [← HAC.out] at h
    subst h
    go_enter Tryd.func22, Tryd.ntmps22
    go_wp2_with fail
    refine HAR.out.mono ?_
    rintro e w1 ⟨rfl, hb⟩
    have HB := hid hb
    clear hb
    go_wp2_with fail
    exact HBAD.out _ 9 HB.out HE.out
  · have HE : Hid (resolveC s root p = (2, [])) := by rw [Hid, resolveC, if_pos (by rw [h]; decide), h]
    rw [← HAC.out] at h
    subst h
    go_enter Tryd.func22, Tryd.ntmps22
    go_wp2_with fail
    refine HAR.out.mono ?_
    rintro e w1 ⟨rfl, hb⟩
    have HB := hid hb
    clear hb
    go_wp2_with fail
    exact HBAD.out _ 2 HB.out HE.out
  · have HE : Hid (resolveC s root p = match resolveW s root p with | some l => (0, l) | none => (10, [])) := by rw [Hid, resolveC, if_neg (by rw [h]; decide)]
    have HSR := hid hsr
    rw [← HAC.out] at h
    subst h
    obtain ⟨r, rfl⟩ : ∃ r : Nat, root = r := ⟨root.toNat, by omega⟩
    have HR1 : Hid (r < s.length) := by show _ < _; omega
    clear hsr hr0 hr1
    go_enter Tryd.func22, Tryd.ntmps22
    go_wp2_with fail
    refine HAR.out.mono ?_
    rintro e w1 ⟨rfl, hb⟩
    have HB := hid hb
    clear hb
    go_wp2_with fail
    refine (HSP.out w1).mono ?_
    rintro e w2 ⟨v2, rfl, hO, hb2⟩
    have HB2 : Hid (Below w.heap.size w w2) := below_step HB.out hb2 HB.out.size
    by_cases hok : pathOk p = true
    · rw [if_pos hok] at hO ⊢
      have hn65 : (sdot p).length ≤ 65 := by unfold pathOk at hok; simp at hok; exact hok.1
      have hst := StrsOwn.strs hO (by omega) (fun t ht => by have := strs_len_le ht; have := HP.out; omega)
      have HL := hid (mask_lead (HS.out.below HB2.out) HSR.out hst (by omega) r HR1.out)
      obtain ⟨oa, oc, hoe⟩ := hO.form
      obtain ⟨k, HK⟩ : ∃ k, Hid (k = (sdot p).length) := ⟨_, rfl⟩
      rw [← HK.out] at hoe
      subst hoe
      have HRW : Hid (resolveW s (r : Int) p = wayP s (sdot p) r) := by rw [Hid, resolveW, if_pos hok]
      rw [HRW.out] at HE
      obtain ⟨ow, HOW⟩ : ∃ ow, Hid (ow = wayP s (sdot p) r) := ⟨_, rfl⟩
      rw [← HOW.out] at HE HL
      clear hO hb2 hok hn65 hst
      go_wp2_with fail
      refine HL.out.mono ?_
      rintro e w3 ⟨v3, rfl, hO3, hb3⟩
      have HB3 : Hid (Below w.heap.size w w3) := below_step HB2.out hb3 HB2.out.size
      cases ow with
      | none =>
        clear hO3 hb3
        go_wp2_with fail
        exact HBAD.out _ 10 HB3.out HE.out
      | some l =>
        have HO3 : Hid (IntsOwn w3 w.heap.size v3 l) := row_mono hO3 HB2.out.size
        obtain ⟨a3, c3, rfl⟩ := hO3.form
        have HFIN : Hid (Q (.returned (.tuple #[.slice a3 l.length c3, .int .u8 0])) w3) := by
          rw [HQ.out, HE.out]
          exact ⟨_, rfl, HO3.out, HB3.out⟩
        clear hO3 hb3
        go_wp2_with fail
        exact HFIN.out
    · rw [if_neg hok]
      have HRW : Hid (resolveW s (r : Int) p = none) := by rw [Hid, resolveW, if_neg hok]
      rw [HRW.out] at HE
      obtain ⟨oa, oc, hoe⟩ := hO.form
      obtain ⟨k, HK⟩ : ∃ k, Hid (k = (if pathOk p = true then sdot p else []).length) := ⟨_, rfl⟩
      rw [← HK.out] at hoe
      subst hoe
      clear hO hb2 hok
      go_wp2_with fail
      exact HBAD.out _ 10 HB2.out HE.out
/-- the ways of paths -/
def waysOf (s : List Mes) (root : Int) : List (List UInt8) → Option (List (List Int))
  | [] => some []
  | p :: r => match resolveW s root p with
    | none => none
    | some l => (waysOf s root r).map (l :: ·)
def makeC (s : List Mes) (root : Int) (paths : List (List UInt8)) : Nat × List (List Int) :=
  if maskArgs s root ≠ 0 then (maskArgs s root, []) else if 200 < paths.length then (13, []) else match waysOf s root paths with | some l => (0, mOf l) | none => (10, [])
def MakePost (w : World) (x : Nat × List (List Int)) (e : Ending) (w' : World) : Prop := ∃ v', e = .returned (.tuple #[maskV v', .int .u8 (x.1 : Nat)]) ∧ NewWays w w' v' x.2 ∧ Below w.heap.size w w'
theorem waysOf_light {s : List Mes} {root : Int} : ∀ {paths : List (List UInt8)} {l : List (List Int)}, waysOf s root paths = some l → l.length = paths.length ∧ ∀ x ∈ l, x.length ≤ 65
  | [], l, h => by simp [waysOf] at h; subst h; simp
  | p :: r, l, h => by
    rw [waysOf] at h
    split at h
    · cases h
    · rename_i x hx
      obtain ⟨l', h1, rfl⟩ := Option.map_eq_some_iff.1 h
      obtain ⟨h2, h3⟩ := waysOf_light h1
      refine ⟨by simp [h2], fun y hy => ?_⟩
      rcases List.mem_cons.1 hy with e | hy
      · rw [e]; exact resolveW_len hx
      · exact h3 y hy
theorem ways_step (s : List Mes) (root : Int) (paths : List (List UInt8)) (ws : List (List Int)) (i : Nat) (p : List UInt8) (ow : Option (List Int)) (hd : paths.drop i = p :: paths.drop (i + 1)) (h : waysOf s root paths = (waysOf s root (paths.drop i)).map (ws ++ ·)) (ho : ow = resolveW s root p) :
    waysOf s root paths = ow.bind fun l => (waysOf s root (paths.drop (i + 1))).map ((ws ++ [l]) ++ ·) := by
  rw [h, hd, waysOf, ← ho]
  cases ow with
  | none => rfl
  | some l => cases waysOf s root (paths.drop (i + 1)) <;> simp
theorem schema_ok {w : World} {v : Value} {s : List Mes} (h : SchemaAt w v s) (m : Mes) (hm : m ∈ s) (f : Fld) (hf : f ∈ m.fields) : f.Ok := by
  obtain ⟨fv, -, -, -, h4⟩ := h
  obtain ⟨i, hi, e⟩ := List.getElem_of_mem hm
  have := (h4 i hi).2 f
  rw [List.getD_eq_getElem?_getD, List.getElem?_eq_getElem hi, e] at this
  exact this hf
theorem getD_memM {α : Type} (l : List α) (k : Nat) (d : α) (h : k < l.length) : l.getD k d ∈ l := by
  rw [List.getD_eq_getElem?_getD, List.getElem?_eq_getElem h]
  exact List.getElem_mem h
theorem fieldNamed_mem {s : List Mes} {root : Int} {t : List UInt8} {f : Fld} (h : fieldNamed s root t = some f) : ∃ m ∈ s, f ∈ m.fields := by
  unfold fieldNamed at h
  split at h
  · rename_i h0
    simp only [Option.some.injEq] at h
    obtain ⟨k, hk, hkl⟩ : ∃ k : Nat, namedAt (s.getD root.toNat .zero).fields ⟨t.toArray⟩ = k ∧ k < (s.getD root.toNat .zero).fields.length := by
      rcases firstAt_bd (fun f : Fld => decide (f.name = ⟨t.toArray⟩)) (s.getD root.toNat .zero).fields 0 with h | ⟨j, h, h1, h2⟩
      · unfold namedAt at h0; omega
      · exact ⟨j, h, by omega⟩
    rw [hk, Int.toNat_natCast] at h
    have hf : f ∈ (s.getD root.toNat .zero).fields := by
      rw [← h]
      exact getD_memM _ _ _ hkl
    by_cases hr : root.toNat < s.length
    · exact ⟨s.getD root.toNat .zero, getD_memM _ _ _ hr, hf⟩
    · rw [List.getD_eq_getElem?_getD, List.getElem?_eq_none (by omega)] at hf
      simp [Mes.zero] at hf
  · cases h
theorem wayP_ok {s : List Mes} (hs : ∀ m ∈ s, ∀ f ∈ m.fields, f.Ok) : ∀ (names : List (List UInt8)) (root : Int) (l : List Int), wayP s names root = some l → ∀ x ∈ l, i64ok x
  | [], _, l, h => by simp [wayP] at h; subst h; simp
  | t :: r, root, l, h => by
    rw [wayP] at h
    split at h
    · cases h
    · rename_i f hf
      obtain ⟨m, h1, h2⟩ := fieldNamed_mem hf
      have hfo : i64ok f.number := (hs m h1 f h2).number
      split at h
      · cases h; simpa using hfo
      · split at h
        · cases h
        · obtain ⟨l', h3, rfl⟩ := Option.map_eq_some_iff.1 h
          have := wayP_ok hs r _ l' h3
          intro x hx
          rcases List.mem_cons.1 hx with e | hx
          · rw [e]; exact hfo
          · exact this x hx
theorem resolveW_ok {w : World} {v : Value} {s : List Mes} (hS : SchemaAt w v s) {root : Int} {p : List UInt8} {l : List Int} (h : resolveW s root p = some l) : ∀ x ∈ l, i64ok x := by
  unfold resolveW at h
  split at h
  · exact wayP_ok (schema_ok hS) _ _ _ h
  · cases h
set_option maxRecDepth 100000 in
set_option maxHeartbeats 4000000 in
theorem mask_Make {w : World} {sv pv : Value} {s : List Mes} {paths : List (List UInt8)} (hS : SchemaAt w sv s) (root : Int) (hP : StrsAt w pv paths) (hpl : ∀ p ∈ paths, p.length ≤ 1099511627776) :
    Calls Tryd.prog 11 #[sv, .int .i64 root, pv] w (MakePost w (makeC s root paths)) := by
  obtain ⟨wB, HWB⟩ : ∃ wB, Hid (wB = w.alloc (.cells #[.slice none 0 0] 27)) := ⟨_, rfl⟩
  have hB0 : Below w.heap.size w wB := by rw [HWB.out]; (repeat (first | with_reducible exact Below.refl _ _ | with_reducible refine Below.setCell ?_ (by first | omega | (simp; omega) | (simp; done)) _ | with_reducible refine Below.alloc ?_ (by first | omega | (simp; omega) | (simp; done)) _ | with_reducible refine below_drewN ?_ _ | with_reducible refine Below.drew ?_))
  have HB0 := hid hB0
  have HSZ : Hid (wB.heap.size = w.heap.size + 1) := by rw [HWB.out]; simp [Hid]
  have HBX : Hid (Blk wB w.heap.size [.slice none 0 0] 27) := by rw [HWB.out]; exact Blk.new w [.slice none 0 0] _
  have HS := hid (hS.below hB0)
  have HAR := hid (mask_args (hS.below hB0) root)
  obtain ⟨-, sa, sc, rfl, -⟩ := hS.open
  obtain ⟨m, HM⟩ : ∃ m, Hid (m = s.length) := ⟨_, rfl⟩
  rw [← HM.out] at HS HAR ⊢
  obtain ⟨hn, pa, pc, rfl, -, hpat⟩ := hP.open
  obtain ⟨n, HN⟩ : ∃ n, Hid (n = paths.length) := ⟨_, rfl⟩
  rw [← HN.out] at hn ⊢
  have HPL := hid hpl
  have HPAT := hid hpat
  obtain ⟨Q, HQ⟩ : ∃ Q : Ending → World → Prop, Hid (Q = MakePost w (makeC s root paths)) := ⟨_, rfl⟩
  rw [← HQ.out]
  have HBAD : Hid (∀ w' (c : Nat), Below w.heap.size w w' → makeC s root paths = (c, []) → Q (.returned (.tuple #[maskV (.slice none 0 0), .int .u8 (c : Int)])) w') := by
    intro w' c hb h
    rw [HQ.out, h]
    exact ⟨_, rfl, ⟨by simp, _, Nat.le_refl _, RowsOwn.nil _ _ _ _ _ _⟩, hb⟩
  obtain ⟨ac, HAC⟩ : ∃ ac, Hid (ac = maskArgs s root) := ⟨_, rfl⟩
  rw [← HAC.out] at HAR
  have HCASES := hid (maskArgs_cases s root)
  have HRES := hid fun (W : World) (h : Below w.heap.size w W) (hs : Below wB.heap.size wB W) (p : List UInt8) (hp : p.length ≤ 1099511627776) => mask_Resolve (HS.out.below hs) root p hp
  clear hS hP hpl hpat hB0
  by_cases hac : ac = 0
  · obtain ⟨hsr, hr0, hr1⟩ : sright s = true ∧ 0 ≤ root ∧ root < s.length := by
      rcases HCASES.out with h | h | h
      · rw [← HAC.out, hac] at h; cases h
      · rw [← HAC.out, hac] at h; cases h
      · exact h.2
    have HAZ : Hid (maskArgs s root = 0) := by rw [Hid, ← HAC.out]; exact hac
    subst hac
    have HE : Hid (makeC s root paths = if 200 < n then (13, []) else match waysOf s root paths with | some l => (0, mOf l) | none => (10, [])) := by
      rw [Hid, makeC, if_neg (by rw [HAZ.out]; decide), HN.out]
    have HRC : Hid (∀ p, resolveC s root p = match resolveW s root p with | some l => (0, l) | none => (10, [])) := fun p => by rw [resolveC, if_neg (by rw [HAZ.out]; decide)]
    clear hsr hr0 hr1
    by_cases h200 : 200 < n
    · rw [if_pos h200] at HE
      go_enter Tryd.func11, Tryd.ntmps11
      go_wp2_with fail
      rw [← HWB.out]
      refine HAR.out.mono ?_
      rintro e w1 ⟨rfl, hb⟩
      have HB : Hid (Below w.heap.size w w1) := HB0.out.trans (hb.mono HB0.out.size)
      have HBX1 := hid (HBX.out.below hb)
      have c0 := HBX1.out.cell 0 _ rfl
      have f0 := HBX1.out.free 0
      have hsz := HBX1.out.lt
      have HCS : Hid ((w1.setCell ⟨w.heap.size, 0, none⟩ (.slice none 0 0)).cell? ⟨w.heap.size, 0, none⟩ = some (.slice none 0 0)) := World.cell?_setCell_same' _ _ _ (by rw [c0]; rfl)
      have HFIN := hid (HBAD.out (w1.setCell ⟨w.heap.size, 0, none⟩ (.slice none 0 0)) 13 (HB.out.setCell (by simp) _) HE.out)
      clear hb
      go_wp2_with fail
      refine bodyPost_ret (v := .tuple #[maskV (.slice none 0 0), .int .u8 13]) (by simp [results, Tryd.results11, go_sem, maskV, HCS.out]) rfl HFIN.out
    · rw [if_neg h200] at HE
      have hn200 : n ≤ 200 := by omega
      clear h200
      go_enter Tryd.func11, Tryd.ntmps11
      go_wp2_with fail
      rw [← HWB.out]
      refine HAR.out.mono ?_
      rintro e w1 ⟨rfl, hb1⟩
      have HB1 := hid hb1
      clear hb1
      go_wp2_with fail
      go_loopw [9, 27] (fun v9 v27 wr => ∃ (i : Nat) (ws : List (List Int)), v27 = .int .i64 i ∧ i ≤ n ∧ Hid (RowsOwn WayP 23 1 0 wB.heap.size wr v9 ws ∧ Below wB.heap.size wB wr ∧ ws.length = i ∧ waysOf s root paths = (waysOf s root (paths.drop i)).map (ws ++ ·))) (fun _ v27 _ => n - (intOf v27).toNat)
      case atStart => exact ⟨0, [], rfl, by omega, RowsOwn.nil _ _ _ _ _ _, HB1.out, rfl, by simp⟩
      case round =>
        obtain ⟨i, ws, rfl, hi, HI⟩ := hrel
        obtain ⟨oa, oc, hoe⟩ := HI.out.1.form
        rw [HI.out.2.2.1] at hoe
        subst hoe
        by_cases hlt : i < n
        · obtain ⟨p, hp⟩ : ∃ p, paths[i]? = some p := ⟨_, List.getElem?_eq_getElem (by rw [← HN.out]; exact hlt)⟩
          obtain ⟨-, b, o, ha, g0⟩ := HPAT.out i p hp
          have hix := index_run1 Tryd.underlying43 size_strp ha i hlt (cap := pc)
          have hbw : Below w.heap.size w wr := HB0.out.trans (HI.out.2.1.mono HB0.out.size)
          have HBW := hid hbw
          replace g0 := below_keeps hbw _ _ g0
          have HR := hid (HRES.out wr hbw HI.out.2.1 p (HPL.out p (List.mem_of_getElem? hp)))
          have HD := hid (drop_at hp)
          rw [HRC.out] at HR
          unfold strV at g0 HR
          obtain ⟨PS, HPS⟩ : ∃ PS, Hid (PS = (⟨p.toArray⟩ : ByteArray)) := ⟨_, rfl⟩
          rw [← HPS.out] at g0 HR
          obtain ⟨ow, HOW⟩ : ∃ ow, Hid (ow = resolveW s root p) := ⟨_, rfl⟩
          rw [← HOW.out] at HR
          have HWO := hid (ways_step s root paths ws i p ow HD.out HI.out.2.2.2 HOW.out)
          have HLEN : Hid (∀ l, ow = some l → l.length ≤ 65) := fun l h => resolveW_len (HOW.out ▸ h)
          have HL64 : Hid (∀ l, ow = some l → ∀ x ∈ l, i64ok x) := fun l h => resolveW_ok HS.out (HOW.out ▸ h)
          clear hp ha hbw
          go_wp2_with fail
          refine HR.out.mono ?_
          rintro e w5 ⟨v5, rfl, hO5, hb5⟩
          have HB5 := hid hb5
          cases ow with
          | none =>
            have HE2 : Hid (makeC s root paths = (10, [])) := by rw [Hid, HE.out, HWO.out]; rfl
            obtain ⟨a5, c5, rfl⟩ := hO5.form
            have HB : Hid (Below w.heap.size w w5) := below_step HBW.out HB5.out HBW.out.size
            have HBX1 := hid ((HBX.out.below HI.out.2.1).below hb5)
            have c0 := HBX1.out.cell 0 _ rfl
            have f0 := HBX1.out.free 0
            have hsz := HBX1.out.lt
            have HCS : Hid ((w5.setCell ⟨w.heap.size, 0, none⟩ (.slice none 0 0)).cell? ⟨w.heap.size, 0, none⟩ = some (.slice none 0 0)) := World.cell?_setCell_same' _ _ _ (by rw [c0]; rfl)
            have HFIN := hid (HBAD.out (w5.setCell ⟨w.heap.size, 0, none⟩ (.slice none 0 0)) 10 (HB.out.setCell (by simp) _) HE2.out)
            clear hO5 hb5
            go_wp2_with fail
            refine bodyPost_ret (v := .tuple #[maskV (.slice none 0 0), .int .u8 10]) (by simp [results, Tryd.results11, go_sem, maskV, HCS.out]) rfl HFIN.out
          | some l =>
            obtain ⟨a5, c5, hv5⟩ := hO5.form
            have h65 := HLEN.out l rfl
            subst hv5
            have h64 := HL64.out l rfl
            obtain ⟨a', c', w6, hr, hO6, hB6, hB7⟩ := (HI.out.1).step hb5 (by decide) (Nat.zero_le _) HI.out.2.1.size HI.out.2.2.1 (G := Tryd.prog) 22 (.slice none 0 0) 24 under_ways info_ints rfl #[.slice a5 l.length c5] rfl (by intro u hu; simp at hu; subst hu; rfl) l (hO5.apart (by show l.length ≤ _; omega) h64) (by omega) (by decide)
            have HREL : Hid (RowsOwn WayP 23 1 0 wB.heap.size w6 (.slice a' (i + 1) c') (ws ++ [l]) ∧ Below wB.heap.size wB w6 ∧ (ws ++ [l]).length = i + 1 ∧ waysOf s root paths = (waysOf s root (paths.drop (i + 1))).map ((ws ++ [l]) ++ ·)) :=
              ⟨hO6, HI.out.2.1.trans hB7, by rw [List.length_append, HI.out.2.2.1]; rfl, HWO.out⟩
            clear hO5 hb5 h64 hO6 hB6 hB7 h65
            go_wp2_with (at_builtin; refine wpList_append_eq rfl _ _ _ rfl _ _ rfl rfl hr ?_)
            go_roundw
            case rel => exact ⟨i + 1, _, by go_num, hlt, HREL.out⟩
            case measure => simp [intOf]; omega
        · obtain rfl : i = n := by omega
          have HWS : Hid (waysOf s root paths = some ws) := by
            rw [Hid, HI.out.2.2.2, List.drop_eq_nil_of_le (by rw [← HN.out]; omega), waysOf]; simp
          have HE2 : Hid (makeC s root paths = (0, mOf ws)) := by rw [Hid, HE.out, HWS.out]
          have hWO := RowsOwn.at HI.out.1 (by rw [HI.out.2.2.1]; omega) (w' := wr) (fun _ _ _ => rfl)
          have HOF := hid (mask_Of (show WaysAt wr (.slice oa i oc) ws from hWO) ⟨by rw [HI.out.2.2.1]; omega, fun l hl => by have := (waysOf_light HWS.out).2 l hl; omega⟩)
          have HBX2 := hid (HBX.out.below HI.out.2.1)
          obtain ⟨o, HO⟩ : ∃ o, Hid (o = mOf ws) := ⟨_, rfl⟩
          rw [← HO.out] at HOF HE2
          clear hWO hlt
          go_wp2_with fail
          refine HOF.out.mono ?_
          intro e w3 hp3
          obtain ⟨a3, c3, rfl, -, hb3, hN3⟩ := hp3.open
          obtain ⟨q3, HQ3⟩ : ∃ q3, Hid (q3 = o.length) := ⟨_, rfl⟩
          rw [← HQ3.out] at hN3 ⊢
          have HBX3 := hid (HBX2.out.below hb3)
          have hsz3 := HBX3.out.lt
          have c0 := HBX3.out.cell 0 _ rfl
          have f0 := HBX3.out.free 0
          have hs2 := HI.out.2.1.size
          have HB3 : Hid (Below w.heap.size w w3) := (HB0.out.trans (HI.out.2.1.mono HB0.out.size)).trans (hb3.mono (by have := HSZ.out; omega))
          have HCS : Hid ((w3.setCell ⟨w.heap.size, 0, none⟩ (.slice a3 q3 c3)).cell? ⟨w.heap.size, 0, none⟩ = some (.slice a3 q3 c3)) := World.cell?_setCell_same' _ _ _ (by rw [c0]; rfl)
          have HFIN : Hid (Q (.returned (.tuple #[maskV (.slice a3 q3 c3), .int .u8 0])) (w3.setCell ⟨w.heap.size, 0, none⟩ (.slice a3 q3 c3))) := by
            rw [HQ.out, HE2.out]
            exact ⟨_, rfl, hN3.later (by have := HSZ.out; omega) (by simp) fun b h1 h2 => Below.heap_setCell _ _ _ _ (by show b ≠ w.heap.size; have := HSZ.out; omega), HB3.out.setCell (by simp) _⟩
          unfold maskV
          clear hp3 hb3 hN3 hs2
          go_wp2_with fail
          refine bodyPost_ret (v := .tuple #[maskV (.slice a3 q3 c3), .int .u8 0]) (by simp [results, Tryd.results11, go_sem, maskV, HCS.out]) rfl HFIN.out
  · have HE : Hid (makeC s root paths = (ac, [])) := by rw [Hid, makeC, if_pos (by rw [← HAC.out]; exact hac), HAC.out]
    have e1 : ((ac : Int) != 0) = true := by simp; exact hac
    have e2 : ((ac : Int) == 0) = false := by simp; exact hac
    have e3 : (ac != 0) = true := by simp; exact hac
    have hac0 : 0 < ac := by omega
    have e4 : (ac == 0) = false := by simp; exact hac
    clear hac
    go_enter Tryd.func11, Tryd.ntmps11
    go_wp2_with fail
    rw [← HWB.out]
    refine HAR.out.mono ?_
    rintro e w1 ⟨rfl, hb⟩
    have HB : Hid (Below w.heap.size w w1) := HB0.out.trans (hb.mono HB0.out.size)
    have HBX1 := hid (HBX.out.below hb)
    have c0 := HBX1.out.cell 0 _ rfl
    have f0 := HBX1.out.free 0
    have hsz := HBX1.out.lt
    have HCS : Hid ((w1.setCell ⟨w.heap.size, 0, none⟩ (.slice none 0 0)).cell? ⟨w.heap.size, 0, none⟩ = some (.slice none 0 0)) := World.cell?_setCell_same' _ _ _ (by rw [c0]; rfl)
    have HFIN := hid (HBAD.out (w1.setCell ⟨w.heap.size, 0, none⟩ (.slice none 0 0)) ac (HB.out.setCell (by simp) _) HE.out)
    clear hb
    go_wp2_with fail
    refine bodyPost_ret (v := .tuple #[maskV (.slice none 0 0), .int .u8 (ac : Int)]) (by simp [results, Tryd.results11, go_sem, maskV, HCS.out]) rfl HFIN.out
end Go.Proofs.YtmngpfnjomhhcaaDoor
namespace Go.Proofs.YtmngpfnjomhhcaaDoor
open Go.RowKit
def s13 : List Mes := [⟨⟨#[109]⟩, [⟨⟨#[97]⟩, 7, 17, false, false, 0⟩, ⟨⟨#[98]⟩, 2, 1, false, false, 0⟩, ⟨⟨#[99]⟩, 3, 1, false, false, 0⟩]⟩]
def p13 : List (List UInt8) := [[97, 46, 98], [97], [97, 46, 99]]
theorem make13 : makeC s13 0 p13 = (0, [[7]]) := by decide +kernel
set_option maxRecDepth 100000 in
set_option maxHeartbeats 4000000 in
theorem law13_alive (w : World) : Calls Tryd.prog 4 #[] w fun e w' => e = .returned (.bool true) ∧ Below w.heap.size w w' := by
  go_enter Tryd.func4, Tryd.ntmps4
  go_wp2_with fail
  obtain ⟨W, HW⟩ : ∃ W, Hid (W = ((w.alloc (.cells #[.string ⟨#[97]⟩, .int .i64 7, .int .i64 17, .bool false, .bool false, .int .i64 0, .string ⟨#[98]⟩, .int .i64 2, .int .i64 1, .bool false, .bool false, .int .i64 0, .string ⟨#[99]⟩, .int .i64 3, .int .i64 1, .bool false, .bool false, .int .i64 0] 34)).alloc
    (.cells #[.string ⟨#[109]⟩, .slice (some ⟨w.heap.size, 0, none⟩) 3 3] 37)).alloc (.cells #[.string ⟨#[97, 46, 98]⟩, .string ⟨#[97]⟩, .string ⟨#[97, 46, 99]⟩] 9)) := ⟨_, rfl⟩
  have hS : SchemaAt W (.slice (some ⟨w.heap.size + 1, 0, none⟩) 1 1) s13 := by
    rw [HW.out]
    refine schema_one (Blk.alloc (Blk.new' _ [.string ⟨#[109]⟩, .slice (some ⟨w.heap.size, 0, none⟩) 3 3] _ _ (by simp)) _) (by decide) ?_
    refine fields_blk (Blk.alloc (Blk.alloc (Blk.new w _ _) _) _) 3 rfl (by omega) ?_
    intro f hf
    simp at hf
    rcases hf with rfl | rfl | rfl <;> exact ⟨by decide, by decide, by decide, by decide⟩
  have hP : StrsAt W (.slice (some ⟨w.heap.size + 1 + 1, 0, none⟩) 3 3) p13 := by
    rw [HW.out]
    refine ⟨seg_blk (Blk.new' _ (p13.map strV) 9 _ (by simp)) 1 3 rfl (by omega), by decide⟩
  have HM := hid (mask_Make hS 0 hP (by decide))
  rw [make13] at HM
  have HB : Hid (Below w.heap.size w W) := by show Below _ _ _; rw [HW.out]; (repeat (first | with_reducible exact Below.refl _ _ | with_reducible refine Below.setCell ?_ (by first | omega | (simp; omega) | (simp; done)) _ | with_reducible refine Below.alloc ?_ (by first | omega | (simp; omega) | (simp; done)) _ | with_reducible refine below_drewN ?_ _ | with_reducible refine Below.drew ?_))
  rw [← HW.out]
  clear hS hP
  refine HM.out.mono ?_
  rintro e w1 ⟨v1, rfl, hN, hb1⟩
  have HB1 : Hid (Below w.heap.size w w1) := below_step HB.out hb1 HB.out.size
  obtain ⟨b, q, a, c, hv, g0, hb5, hb5', hE⟩ := hN.elem (k := 0) (x := [7]) rfl
  obtain ⟨c1, hv1⟩ : ∃ c1, v1 = .slice (some ⟨b, q, none⟩) 1 c1 := ⟨_, hv⟩
  subst hv1
  have hI := hE w1 fun _ _ _ => rfl
  rw [Nat.add_zero] at g0
  have g0' : w1.cell? ⟨b, q, none⟩ = some (.slice a 1 c) := g0
  have hI' : IntsAt w1 (.slice a 1 c) [7] := hI
  have HI := hid hI'
  have hix := index_0 Tryd.underlying22 size_ints (a := some ⟨b, q, none⟩) rfl (by decide : 0 < 1) (cap := c1)
  unfold maskV
  clear hN hb1 hv hb5 hE hI hI' g0
  go_wp2_with fail
  have hA : Below w1.heap.size w1 ((w1.alloc (.cells #[.slice (some ⟨b, q, none⟩) 1 c1] 27)).alloc (.cells #[.int .i64 7] 3)) := by (repeat (first | with_reducible exact Below.refl _ _ | with_reducible refine Below.setCell ?_ (by first | omega | (simp; omega) | (simp; done)) _ | with_reducible refine Below.alloc ?_ (by first | omega | (simp; omega) | (simp; done)) _ | with_reducible refine below_drewN ?_ _ | with_reducible refine Below.drew ?_))
  have h7 : IntsAt ((w1.alloc (.cells #[.slice (some ⟨b, q, none⟩) 1 c1] 27)).alloc (.cells #[.int .i64 7] 3)) (.slice (some ⟨w1.heap.size + 1, 0, none⟩) 1 1) [7] :=
    ⟨seg_blk (Blk.new' _ [.int .i64 7] 3 _ (by simp)) 1 1 rfl (by omega), by simp [i64ok]⟩
  have HSM := hid (ref07_SameInts (HI.out.below hA) h7)
  have HB5 := hid (HB1.out.trans (hA.mono HB1.out.size))
  clear hA h7
  refine HSM.out.mono ?_
  rintro e w2 ⟨rfl, hd⟩
  have HB6 := hid (below_step HB5.out hd.below HB5.out.size)
  clear hd
  go_wp2_with fail
  go_ret
  exact ⟨by simp, HB6.out⟩
end Go.Proofs.YtmngpfnjomhhcaaDoor
namespace Go.Proofs.YtmngpfnjomhhcaaDoor
open Go.RowKit
def LawPost (w : World) (e : Ending) (w' : World) : Prop := e = .returned (.bool true) ∧ Below w.heap.size w w'
end Go.Proofs.YtmngpfnjomhhcaaDoor
namespace Go.Proofs.YtmngpfnjomhhcaaDoor
open Go.RowKit
variable {P : Program} {ops : Array Oper} {md : Region.Mode} {w : World}
/-- t waits for i, through others or not -/
def laterB (md : Region.Mode) (ops : Array Oper) : Nat → Nat → Nat → Bool
  | 0, _, _ => false
  | f + 1, i, t => match ops[t]? with
    | some o => o.after.toList.any fun e => Region.binds md e && (e.on == i || laterB md ops f i e.on)
    | none => false
def ClosedL (md : Region.Mode) (ops : Array Oper) (listed : Array Bool) : Prop := ∀ (j : Nat) (oj : Oper), ops[j]? = some oj → listed.getD j false = true → ∀ e ∈ oj.after, Region.binds md e = true → listed.getD e.on false = true
theorem later_spec {listed : Array Bool} (hc : ClosedL md ops listed) : ∀ (f i t : Nat), laterB md ops f i t = true → listed.getD i false = false → t ∉ Region.ready md ops listed ∧ listed.getD t false = false
  | 0, _, _, h, _ => by cases h
  | f + 1, i, t, h, hi => by
    rw [laterB] at h
    cases ho : ops[t]? with
    | none => rw [ho] at h; cases h
    | some o =>
      rw [ho] at h
      obtain ⟨e, he0, hb⟩ := List.any_eq_true.1 h
      have he : e ∈ o.after := Array.mem_toList_iff.1 he0
      simp only [Bool.and_eq_true, Bool.or_eq_true, beq_iff_eq] at hb
      obtain ⟨hbi, hon⟩ := hb
      have hun : listed.getD e.on false = false := by
        rcases hon with hon | hon
        · rw [hon]; exact hi
        · exact (later_spec hc f i e.on hon hi).2
      constructor
      · intro hr
        obtain ⟨-, o', ho', hall⟩ := mem_ready.1 hr
        rw [ho] at ho'
        cases ho'
        rw [hall e he hbi] at hun
        cases hun
      · cases hl : listed.getD t false with
        | false => rfl
        | true =>
          rw [hc t o ho hl e he hbi] at hun
          cases hun
theorem ClosedL.set {listed : Array Bool} (hc : ClosedL md ops listed) {i : Nat} (hi : i ∈ Region.ready md ops listed) : ClosedL md ops (listed.setIfInBounds i true) := by
  intro j oj hj hl e he hb
  obtain ⟨-, oi, hoi, hall⟩ := mem_ready.1 hi
  by_cases hij : i = j
  · subst hij
    rw [hj] at hoi
    cases hoi
    exact getD_set_true (hall e he hb)
  · rw [getD_set_ne false hij] at hl
    exact getD_set_true (hc j oj hj hl e he hb)
theorem unlisted_of_ready {listed : Array Bool} {i : Nat} (h : i ∈ Region.ready md ops listed) : listed.getD i false = false := by
  have h0 := (mem_ready.1 h).1
  rcases Nat.lt_or_ge i listed.size with h' | h'
  · simp [h'] at h0 ⊢; exact h0
  · simp [Array.getElem?_eq_none h'] at h0
variable {V X : World → Prop} {g : Nat} {Q : Exit → Act → World → Prop}
/-- V holds at w, and X while the gate has not come up -/
def AtG (V X : World → Prop) (g : Nat) (listed : Array Bool) (w : World) : Prop := V w ∧ (listed.getD g false = false → X w)
/-- whatever order is picked from here on, AtG holds behind each operation -/
def wpAnyG (P : Program) (md : Region.Mode) (ops : Array Oper) (Q : Exit → Act → World → Prop) (V X : World → Prop) (g : Nat) : Nat → Array Bool → Act → World → Prop
  | 0, listed, a, w => Region.ready md ops listed = [] ∧ Q .normal a w
  | fuel + 1, listed, a, w => (Region.ready md ops listed = [] → Q .normal a w) ∧
    ∀ i ∈ Region.ready md ops listed, wpOp P ops Q i (fun a' w' => AtG V X g (listed.setIfInBounds i true) w' ∧ wpAnyG P md ops Q V X g fuel (listed.setIfInBounds i true) a' w') a w
theorem wpAny_of_G : ∀ (fuel : Nat) (listed : Array Bool) (a : Act) (w : World), wpAnyG P md ops Q V X g fuel listed a w → wpAny P md ops Q fuel listed a w
  | 0, _, _, _, h => h
  | fuel + 1, _, _, _, h => ⟨h.1, fun i hi => wpOp_mono (fun a' w' h' => wpAny_of_G fuel _ a' w' h'.2) (h.2 i hi)⟩
theorem AtG.back {i : Nat} {listed : Array Bool} {w : World} (hig : i ≠ g) (h : AtG V X g (listed.setIfInBounds i true) w) : AtG V X g listed w :=
  ⟨h.1, fun hl => h.2 (by rw [getD_set_ne false hig]; exact hl)⟩
theorem wpAnyG_first {i : Nat} {oi : Oper} {v : Value} (hi : ops[i]? = some oi) (hsel : ∀ (j : Nat) (o : Oper) cs b, ops[j]? = some o → o.op ≠ .select cs b)
    (hQ : ∀ c a w, Q (.panic c) (a.put oi.dst v) w → Q (.panic c) a w) (hig : i ≠ g) (S : World → Prop) (hS : ∀ (listed : Array Bool) w, ClosedL md ops listed → listed.getD i false = false → AtG V X g listed w → S w) :
    ∀ (fuel : Nat) (listed : Array Bool) (a : Act) (w : World), ClosedL md ops listed →
      (∀ j oj, ops[j]? = some oj → j ≠ i → listed.getD j true = false → (∀ e ∈ oj.after, Region.binds md e = true → e.on ≠ i) → oi.apart ops oj = true) →
      i ∈ Region.ready md ops listed → YieldsIf P ops S oi v a → AtG V X g listed w →
      wpAnyG P md ops Q V X g fuel (listed.setIfInBounds i true) (a.put oi.dst v) w → wpAnyG P md ops Q V X g (fuel + 1) listed a w := by
  have hput : ∀ (listed : Array Bool) (w : World), AtG V X g listed w → AtG V X g (listed.setIfInBounds i true) w := fun listed w h =>
    ⟨h.1, fun hl => h.2 (by rw [getD_set_ne false hig] at hl; exact hl)⟩
  intro fuel
  induction fuel with
  | zero =>
    intro listed a w hc _ hr hy hA H
    refine ⟨fun h => (by rw [h] at hr; cases hr), fun j hj => ?_⟩
    by_cases hji : j = i
    · subst hji; exact hy.wpOp hi (hS listed w hc (unlisted_of_ready hr) hA) ⟨hput _ _ hA, H⟩
    · have := ready_mono hj hji
      rw [H.1] at this
      cases this
  | succ fuel ih =>
    intro listed a w hc hfree hr hy hA H
    refine ⟨fun h => (by rw [h] at hr; cases hr), fun j hj => ?_⟩
    by_cases hji : j = i
    · subst hji; exact hy.wpOp hi (hS listed w hc (unlisted_of_ready hr) hA) ⟨hput _ _ hA, H⟩
    · have h1 := H.2 j (ready_mono hj hji)
      obtain ⟨hjun, oj, hoj, hall⟩ := mem_ready.1 hj
      have hnot : ∀ e ∈ oj.after, Region.binds md e = true → e.on ≠ i := fun e he hb heq => by
        have h2 := hall e he hb
        rw [heq, unlisted_of_ready hr] at h2
        cases h2
      have h2 := wpOp_putIf hoj (hfree j oj hoj hji hjun hnot) (fun cs b => hsel i oi cs b hi) (fun cs b => hsel j oj cs b hoj) hQ hy h1
      have hfree' : ∀ k ok, ops[k]? = some ok → k ≠ i → (listed.setIfInBounds j true).getD k true = false →
          (∀ e ∈ ok.after, Region.binds md e = true → e.on ≠ i) → oi.apart ops ok = true := fun k ok hk hki hun hno => by
        refine hfree k ok hk hki ?_ hno
        by_cases hjk : j = k
        · subst hjk; exact hjun
        · rw [getD_set_ne true hjk] at hun; exact hun
      refine wpOp_mono (fun a' w' h3 => ?_) h2
      obtain ⟨h4, h5, h6⟩ := h3
      rw [Array.setIfInBounds_comm _ _ (Ne.symm hji)] at h5 h6
      exact ⟨h5.back hig, ih (listed.setIfInBounds j true) a' w' (hc.set hj) hfree' (ready_mono hr (Ne.symm hji)) h4 (h5.back hig) h6⟩
theorem wp_swap {o : Oper} {a : Act} {w : World} {K K' : Act → World → Prop} {Q' : Exit → Act → World → Prop} (hK : ∀ a w, K a w → K' a w) (hP : ∀ c a w, Q (.panic c) a w → Q' (.panic c) a w) (hL : LetsOut Q → LetsOut Q') (h : o.wp P a w K Q) : o.wp P a w K' Q' := by
  unfold Oper.wp at *
  generalize (execOp a.eval o).run P w = r at *
  cases r with
  | ok n w' =>
    cases n <;> simp only [Oper.upon] at h ⊢
    case value u => exact hK _ _ h
    case skip => exact hK _ _ h
    case defer d => exact hK _ _ h
    case enter f args =>
      refine Calls.mono h fun e w'' he => ?_
      cases e with
      | returned u => exact hK _ _ he
      | panicked c => exact hP _ _ _ he
      | outgrown => exact hL he
    case row row args => exact Go.Rows.mono h fun u w'' he => hK _ _ he
  | halt x w' =>
    cases x <;> simp only [Oper.upon] at h ⊢
    case panic u => exact hP _ _ _ h
/-- the only one that may come up; the gate has come up behind it -/
theorem wpAnyG_one {k : Nat} {o : Oper} {fuel : Nat} {listed : Array Bool} {a : Act} {w : World} (hr : Region.ready md ops listed = [k]) (hk : ops[k]? = some o)
    (hg : (listed.setIfInBounds k true).getD g false = true)
    (h : ∀ K : Exit → Act → World → Prop, Hid (∀ a' w', V w' → (V w' → wpAnyG P md ops Q V X g fuel (listed.setIfInBounds k true) a' w') → K .normal a' w') → wpList P ops K [o] a w) :
    wpAnyG P md ops Q V X g (fuel + 1) listed a w := by
  refine ⟨fun h1 => (by rw [hr] at h1; cases h1), fun i hi => ?_⟩
  rw [hr] at hi
  have hik : i = k := by simpa using hi
  subst hik
  have h2 := h (fun e a' w' => match e with
    | .normal => AtG V X g (listed.setIfInBounds i true) w' ∧ wpAnyG P md ops Q V X g fuel (listed.setIfInBounds i true) a' w'
    | e => Q e a' w') (hid fun a' w' hV hK => ⟨⟨hV, fun hl => by rw [hg] at hl; cases hl⟩, hK hV⟩)
  unfold wpOp
  simp only [hk]
  rw [wpList] at h2
  split at h2
  · rename_i hw
    simp only [hw, if_true]
    exact h2.imp (wp_swap (fun _ _ h => h) (fun _ _ _ h => h) (fun h => h)) (fun h => ⟨h.1, h.2⟩)
  · rename_i hw
    simp only [hw]
    exact h2
theorem wanted_none {o : Oper} {y : Nat → Option Bool} (h : o.guard.isNone = true) : Region.wanted o y = true := by
  have h' : o.guard = none := by simpa using h
  simp [Region.wanted, h']
end Go.Proofs.YtmngpfnjomhhcaaDoor
namespace Go.Proofs.YtmngpfnjomhhcaaDoor
open Go.RowKit
variable {P : Program} {ops : Array Oper} {md : Region.Mode} {w : World} {V X : World → Prop} {g : Nat} {Q : Exit → Act → World → Prop}
theorem picks {l : List Oper} : ∀ ts : List (Nat × Nat), (ts.all fun t => decide (t.1 < l.length)) = true → (ts.filterMap fun t => l[t.1]?).map some = ts.map fun t => l.toArray[t.1]?
  | [], _ => rfl
  | t :: ts, h => by
    rw [List.all_cons, Bool.and_eq_true] at h
    have h1 : t.1 < l.length := of_decide_eq_true h.1
    have h2 : l[t.1]? = some (l[t.1]'h1) := List.getElem?_eq_getElem h1
    rw [List.filterMap_cons, h2]
    simp only [List.map_cons]
    rw [picks ts h.2, List.getElem?_toArray, h2]
end Go.Proofs.YtmngpfnjomhhcaaDoor
