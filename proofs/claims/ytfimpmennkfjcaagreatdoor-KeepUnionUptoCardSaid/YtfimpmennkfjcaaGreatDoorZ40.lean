/- keep.parts, named, Paths, Without: partsC, namedC. At most 2^30 bytes; paths of at most 2^40 bytes. darninglaw19.alive: true. No condition. darninglaw12.PathSplits returns true. The list's weight is at most 2^38. Plain laws: the codes of a check are below 256 (vcheck_code). No condition. -/
import Derived.Test.YtfimpmennkfjcaaGreatDoorZ17
import Derived.Test.YtfimpmennkfjcaaGreatDoorZ32
import Derived.Test.YtfimpmennkfjcaaGreatDoorZ34
import Derived.Test.YtfimpmennkfjcaaGreatDoorZ38
import Derived.Test.YtfimpmennkfjcaaGreatDoorZ39
namespace Go.Proofs.YtfimpmennkfjcaaGreatDoor
open Go.RowKit Go.Shelf
def KPost (w : World) (x : Nat × List UInt8) (e : Ending) (w' : World) : Prop := ∃ v', e = .returned (.tuple #[v', .int .u8 (x.1 : Nat)]) ∧ Own w' w.heap.size v' x.2 ∧ Below w.heap.size w w'
set_option maxRecDepth 100000 in
set_option maxHeartbeats 4000000 in
theorem keep_parts {w : World} {sv bv mv : Value} {s : List Mes} {b : List UInt8} {ws : List (List Int)} (hS : SchemaAt w sv s) (hb : Bytes w bv b) (hl : b.length ≤ 1073741824) (hM : WaysAt w mv ws) (hL : LightW ws) (hL2 : ∀ l ∈ ws, l.length ≤ 1073741824) (root d : Int) (keep : Bool) :
    Calls Tryz.prog 31 #[sv, .int .i64 root, bv, .int .i64 d, maskV mv, .bool keep] w (KPost w (partsC s root d b ws keep)) := by
  unfold maskV
  obtain ⟨X, HX⟩ : ∃ X, Hid (X = w.heap.size) := ⟨_, rfl⟩
  obtain ⟨W1, HW1⟩ : ∃ W1, Hid (W1 = w.alloc (.cells #[mv] 37)) := ⟨_, rfl⟩
  have hb1 : Below w.heap.size w W1 := by rw [HW1.out]; exact (Below.refl _ _).alloc (Nat.le_refl _) _
  have hk1 : Blk W1 X [mv] 37 := by rw [HW1.out, HX.out]; exact Blk.new w [mv] _
  have HB1 := hid hb1
  have HK1 := hid hk1
  have HS := hid hS
  have HB := hid hb
  have HM := hid (And.intro hM (And.intro hL hL2))
  have HL := hid hl
  have HC := hid (valid_Check (hS.below hb1) (hb.below hb1) root d)
  obtain ⟨-, sa, sc, rfl, -⟩ := hS.open
  obtain ⟨-, a, c, rfl, -⟩ := hb.open
  obtain ⟨-, ma, mc, rfl, -, -⟩ := hM.open
  obtain ⟨sn, HSN⟩ : ∃ n, Hid (n = s.length) := ⟨_, rfl⟩
  obtain ⟨n, HN⟩ : ∃ n, Hid (n = b.length) := ⟨_, rfl⟩
  obtain ⟨mn, HMN⟩ : ∃ n, Hid (n = ws.length) := ⟨_, rfl⟩
  rw [← HSN.out] at HS HC ⊢
  rw [← HN.out] at HB HC ⊢
  rw [← HMN.out] at HM HK1 HW1 ⊢
  obtain ⟨p, HP⟩ : ∃ p, Hid (p = (vcheck s root b d).1) := ⟨_, rfl⟩
  obtain ⟨z, HZ⟩ : ∃ z, Hid (z = (vcheck s root b d).2) := ⟨_, rfl⟩
  rw [← HP.out, ← HZ.out] at HC
  obtain ⟨Q, HQ⟩ : ∃ Q : Ending → World → Prop, Hid (Q = KPost w (partsC s root d b ws keep)) := ⟨_, rfl⟩
  rw [← HQ.out]
  clear hS hb hM hL hL2 hl hb1 hk1
  by_cases hz : z = 0
  · subst hz
    obtain ⟨cp, HCP⟩ : ∃ c, Hid (c = (pathsC s root ws).1) := ⟨_, rfl⟩
    have HMP : Hid (∀ W, Below w.heap.size w W → Calls Tryz.prog 58 #[.slice sa sn sc, .int .i64 root, .agg #[.slice ma mn mc]] W fun e w' => ∃ v', e = .returned (.tuple #[v', .int .u8 (cp : Nat)]) ∧ Below W.heap.size W w') := fun W hW => by
      have h := mask_Paths (HS.out.below hW) root (HM.out.1.below hW) HM.out.2.1 HM.out.2.2
      unfold maskV PathsPost at h
      rw [← HCP.out] at h
      exact h.mono fun e w' ⟨v', h1, _, h2⟩ => ⟨v', h1, h2⟩
    go_enter Tryz.func31, Tryz.ntmps31
    go_upto_region 1 with fail
    rw [← HW1.out, ← HX.out]
    go_wp2_with fail
    refine HC.out.mono ?_
    rintro e w2 ⟨rfl, hb2⟩
    have HK2 := hid (HK1.out.below hb2)
    have HB2 := hid (HB1.out.trans (hb2.mono HB1.out.size))
    have k0 := HK2.out.cell 0 _ rfl
    have kl := HK2.out.lt
    clear hb2
    go_wp2_with fail
    refine (HMP.out w2 HB2.out).mono ?_
    rintro e w3 ⟨v3, rfl, hb3⟩
    have HK3 := hid (HK2.out.below hb3)
    have HB3 := hid (HB2.out.trans (hb3.mono HB2.out.size))
    clear k0 kl hb3
    by_cases hcp : cp = 0
    · subst hcp
      have hargs : argsCode s root d = 0 := by
        have h := HZ.out.symm
        unfold vcheck at h
        by_cases h0 : argsCode s root d = 0
        · exact h0
        · rw [if_pos h0] at h; exact absurd h h0
      obtain ⟨g1, g2, g3, g4, g5⟩ := args_ok hargs
      have hv : (vmsg s d.toNat root.toNat b).2 = 0 := by rw [← vcheck_of hargs]; exact HZ.out.symm
      obtain ⟨r, rfl⟩ : ∃ r : Nat, root = r := ⟨root.toNat, by omega⟩
      rw [Int.toNat_natCast] at hv
      have HPC : Hid (partsC s (r : Int) d b ws keep = (0, kpart s keep d.toNat r (mOf ws) b)) := by
        rw [Hid, partsC, if_neg (by rw [← HZ.out]; simp), if_neg (by rw [← HCP.out]; simp), Int.toNat_natCast]
      have HPT := hid (keep_part g1 (HS.out.below HB3.out) keep d.toNat r w3 (.slice a n c) (.slice ma mn mc) b ws (by omega) (Below.refl _ _) (HB.out.below HB3.out) HL.out (HM.out.1.below HB3.out) HM.out.2.1 hv)
      unfold maskV at HPT
      have k0 := HK3.out.cell 0 _ rfl
      have kl := HK3.out.lt
      clear hargs g1 g2 g3 g4 g5 hv HC HMP
      go_wp2_with fail
      refine HPT.out.mono ?_
      rintro e w4 ⟨v4, rfl, hO, hb4⟩
      have HE : Hid (Q (.returned (.tuple #[v4, .int .u8 0])) w4) := by
        rw [HQ.out, HPC.out]
        exact ⟨v4, rfl, hO.mono HB3.out.size, HB3.out.trans (hb4.mono HB3.out.size)⟩
      clear hO hb4 k0 kl
      go_wp2_with fail
      exact HE.out
    · have e1 : ((cp : Int) != 0) = true := by simpa using hcp
      have e2 : ((cp : Int) == 0) = false := by simpa using hcp
      have HE : Hid (Q (.returned (.tuple #[.slice none 0 0, .int .u8 10])) w3) := by
        rw [HQ.out]
        unfold KPost partsC
        rw [if_neg (by rw [← HZ.out]; simp), if_pos (by rw [← HCP.out]; exact hcp)]
        exact ⟨_, rfl, own_nil _ _, HB3.out⟩
      go_wp2_with fail
      exact HE.out
  · have e1 : ((z : Int) != 0) = true := by simpa using hz
    have e2 : ((z : Int) == 0) = false := by simpa using hz
    go_enter Tryz.func31, Tryz.ntmps31
    go_upto_region 1 with fail
    rw [← HW1.out, ← HX.out]
    go_wp2_with fail
    refine HC.out.mono ?_
    rintro e w2 ⟨rfl, hb2⟩
    have HE : Hid (Q (.returned (.tuple #[.slice none 0 0, .int .u8 (z : Nat)])) w2) := by
      rw [HQ.out]
      unfold KPost partsC
      rw [if_pos (by rw [← HZ.out]; exact hz), ← HZ.out]
      exact ⟨_, rfl, own_nil _ _, HB1.out.trans (hb2.mono HB1.out.size)⟩
    clear hb2
    go_wp2_with fail
    exact HE.out
theorem make_light {s : List Mes} {root : Int} {ps : List (List UInt8)} (h : (makeC s root ps).1 = 0) : LightW (makeC s root ps).2 ∧ ∀ l ∈ (makeC s root ps).2, l.length ≤ 1073741824 := by
  obtain ⟨h1, h2, a, h3, h4⟩ := make_ok h
  obtain ⟨g1, g2⟩ := waysOf_light h3
  rw [h4]
  have hl : LightW a := ⟨by omega, fun l hl => by have := g2 l hl; omega⟩
  refine ⟨mOf_light hl, fun l hl => ?_⟩
  have := g2 l (((mOf_mask a).2 l).1 hl).1
  omega
set_option maxRecDepth 100000 in
set_option maxHeartbeats 4000000 in
theorem keep_named {w : World} {sv bv pv : Value} {s : List Mes} {b : List UInt8} {ps : List (List UInt8)} (hS : SchemaAt w sv s) (hb : Bytes w bv b) (hl : b.length ≤ 1073741824) (hP : StrsAt w pv ps) (hpl : ∀ p ∈ ps, p.length ≤ 1099511627776) (root d : Int) (keep : Bool) :
    Calls Tryz.prog 30 #[sv, .int .i64 root, bv, .int .i64 d, pv, .bool keep] w (KPost w (namedC s root d b ps keep)) := by
  have HS := hid hS
  have HB := hid hb
  have HP := hid (And.intro hP hpl)
  have HL := hid hl
  have HA := hid (valid_Args hS root d)
  obtain ⟨-, sa, sc, rfl, -⟩ := hS.open
  obtain ⟨-, a, c, rfl, -⟩ := hb.open
  obtain ⟨-, pa, pc, rfl, -, -⟩ := hP.open
  obtain ⟨sn, HSN⟩ : ∃ n, Hid (n = s.length) := ⟨_, rfl⟩
  obtain ⟨n, HN⟩ : ∃ n, Hid (n = b.length) := ⟨_, rfl⟩
  obtain ⟨pn, HPN⟩ : ∃ n, Hid (n = ps.length) := ⟨_, rfl⟩
  rw [← HSN.out] at HS HA ⊢
  rw [← HN.out] at HB ⊢
  rw [← HPN.out] at HP ⊢
  obtain ⟨z, HZ⟩ : ∃ z, Hid (z = argsCode s root d) := ⟨_, rfl⟩
  rw [← HZ.out] at HA
  obtain ⟨Q, HQ⟩ : ∃ Q : Ending → World → Prop, Hid (Q = KPost w (namedC s root d b ps keep)) := ⟨_, rfl⟩
  rw [← HQ.out]
  clear hS hb hP hpl hl
  by_cases hz : z = 0
  · subst hz
    obtain ⟨cm, HCM⟩ : ∃ c, Hid (c = (makeC s root ps).1) := ⟨_, rfl⟩
    go_enter Tryz.func30, Tryz.ntmps30
    go_wp2_with fail
    refine HA.out.mono ?_
    rintro e w1 ⟨rfl, hb1⟩
    have HB1 := hid hb1
    have HMK := hid (mask_Make (HS.out.below hb1) root (HP.out.1.keep (below_keeps hb1)) HP.out.2)
    unfold MakePost at HMK
    rw [← HCM.out] at HMK
    clear hb1
    go_wp2_with fail
    refine HMK.out.mono ?_
    rintro e w2 ⟨v2, rfl, hN, hb2⟩
    obtain ⟨-, ma, mc, rfl, -, -⟩ := hN.here.open
    obtain ⟨mn, HMN⟩ : ∃ n, Hid (n = (makeC s root ps).2.length) := ⟨_, rfl⟩
    rw [← HMN.out] at hN ⊢
    unfold maskV
    obtain ⟨X, HX⟩ : ∃ X, Hid (X = w2.heap.size) := ⟨_, rfl⟩
    obtain ⟨W3, HW3⟩ : ∃ W, Hid (W = w2.alloc (.cells #[.slice ma mn mc] 37)) := ⟨_, rfl⟩
    have hb3 : Below w2.heap.size w2 W3 := by rw [HW3.out]; exact (Below.refl _ _).alloc (Nat.le_refl _) _
    have hk3 : Blk W3 X [.slice ma mn mc] 37 := by rw [HW3.out, HX.out]; exact Blk.new w2 [.slice ma mn mc] _
    have HB3 := hid ((HB1.out.trans (hb2.mono HB1.out.size)).trans (hb3.mono (HB1.out.trans (hb2.mono HB1.out.size)).size))
    have HN3 := hid (hN.here.below hb3)
    have HK3 := hid hk3
    clear hN hb2 hb3 hk3
    by_cases hcm : cm = 0
    · subst hcm
      obtain ⟨hl1, hl2⟩ := make_light HCM.out.symm
      have HPT := hid (keep_parts (HS.out.below HB3.out) (HB.out.below HB3.out) HL.out HN3.out hl1 hl2 root d keep)
      unfold maskV at HPT
      have HNC : Hid (namedC s root d b ps keep = partsC s root d b (makeC s root ps).2 keep) := by
        rw [Hid, namedC, if_neg (by rw [← HZ.out]; simp), if_neg (by rw [← HCM.out]; simp)]
      clear hl1 hl2 HA HMK
      go_upto_region 7 with fail
      rw [← HW3.out, ← HX.out]
      have k0 := HK3.out.cell 0 _ rfl
      have kl := HK3.out.lt
      go_wp2_with fail
      refine HPT.out.mono ?_
      rintro e w4 ⟨v4, rfl, hO, hb4⟩
      have HE : Hid (Q (.returned (.tuple #[v4, .int .u8 ((partsC s root d b (makeC s root ps).2 keep).1 : Nat)])) w4) := by
        rw [HQ.out, HNC.out]
        exact ⟨v4, rfl, hO.mono HB3.out.size, HB3.out.trans (hb4.mono HB3.out.size)⟩
      generalize (partsC s root d b (makeC s root ps).2 keep).1 = pc at *
      clear hO hb4 k0 kl
      go_wp2_with fail
      exact HE.out
    · have e1 : ((cm : Int) != 0) = true := by simpa using hcm
      have e2 : ((cm : Int) == 0) = false := by simpa using hcm
      have HE : Hid (Q (.returned (.tuple #[.slice none 0 0, .int .u8 (cm : Nat)])) W3) := by
        rw [HQ.out]
        unfold KPost namedC
        rw [if_neg (by rw [← HZ.out]; simp), if_pos (by rw [← HCM.out]; exact hcm), ← HCM.out]
        exact ⟨_, rfl, own_nil _ _, HB3.out⟩
      go_upto_region 5 with fail
      rw [← HW3.out, ← HX.out]
      go_wp2_with fail
      exact HE.out
  · have e1 : ((z : Int) != 0) = true := by simpa using hz
    have e2 : ((z : Int) == 0) = false := by simpa using hz
    go_enter Tryz.func30, Tryz.ntmps30
    go_wp2_with fail
    refine HA.out.mono ?_
    rintro e w2 ⟨rfl, hb2⟩
    have HE : Hid (Q (.returned (.tuple #[.slice none 0 0, .int .u8 (z : Nat)])) w2) := by
      rw [HQ.out]
      unfold KPost namedC
      rw [if_pos (by rw [← HZ.out]; exact hz), ← HZ.out]
      exact ⟨_, rfl, own_nil _ _, hb2⟩
    clear hb2
    go_wp2_with fail
    exact HE.out
set_option maxRecDepth 100000 in
set_option maxHeartbeats 4000000 in
theorem keep_Without {w : World} {sv bv pv : Value} {s : List Mes} {b : List UInt8} {ps : List (List UInt8)} (hS : SchemaAt w sv s) (hb : Bytes w bv b) (hl : b.length ≤ 1073741824) (hP : StrsAt w pv ps) (hpl : ∀ p ∈ ps, p.length ≤ 1099511627776) (root d : Int) :
    Calls Tryz.prog 10 #[sv, .int .i64 root, bv, .int .i64 d, pv] w (KPost w (namedC s root d b ps false)) := by
  have HN := hid (keep_named hS hb hl hP hpl root d false)
  obtain ⟨-, sa, sc, rfl, -⟩ := hS.open
  obtain ⟨-, a, c, rfl, -⟩ := hb.open
  obtain ⟨-, pa, pc, rfl, -, -⟩ := hP.open
  obtain ⟨Q, HQ⟩ : ∃ Q : Ending → World → Prop, Hid (Q = KPost w (namedC s root d b ps false)) := ⟨_, rfl⟩
  rw [← HQ.out] at HN ⊢
  generalize s.length = sn at *
  generalize b.length = bn at *
  generalize ps.length = pn at *
  have HN2 : Hid (Calls Tryz.prog 30 #[.slice sa sn sc, .int .i64 root, .slice a bn c, .int .i64 d, .slice pa pn pc, .bool false] w fun e w' => ∃ v' z, e = .returned (.tuple #[v', .int .u8 z]) ∧ Q (.returned (.tuple #[v', .int .u8 z])) w') := by
    refine HN.out.mono fun e w' h => ?_
    have h' := h
    rw [HQ.out] at h'
    obtain ⟨v', he, -⟩ := h'
    subst he
    exact ⟨v', _, rfl, h⟩
  clear hS hb hP HN HQ hl
  go_enter Tryz.func10, Tryz.ntmps10
  go_wp2_with fail
  refine HN2.out.mono ?_
  rintro e w1 ⟨v', z, rfl, h⟩
  have HE := hid h
  clear h
  go_wp2_with fail
  exact HE.out
set_option maxRecDepth 100000 in
set_option maxHeartbeats 4000000 in
theorem keep_Paths {w : World} {sv bv pv : Value} {s : List Mes} {b : List UInt8} {ps : List (List UInt8)} (hS : SchemaAt w sv s) (hb : Bytes w bv b) (hl : b.length ≤ 1073741824) (hP : StrsAt w pv ps) (hpl : ∀ p ∈ ps, p.length ≤ 1099511627776) (root d : Int) :
    Calls Tryz.prog 22 #[sv, .int .i64 root, bv, .int .i64 d, pv] w (KPost w (namedC s root d b ps true)) := by
  have HN := hid (keep_named hS hb hl hP hpl root d true)
  obtain ⟨-, sa, sc, rfl, -⟩ := hS.open
  obtain ⟨-, a, c, rfl, -⟩ := hb.open
  obtain ⟨-, pa, pc, rfl, -, -⟩ := hP.open
  obtain ⟨Q, HQ⟩ : ∃ Q : Ending → World → Prop, Hid (Q = KPost w (namedC s root d b ps true)) := ⟨_, rfl⟩
  rw [← HQ.out] at HN ⊢
  generalize s.length = sn at *
  generalize b.length = bn at *
  generalize ps.length = pn at *
  have HN2 : Hid (Calls Tryz.prog 30 #[.slice sa sn sc, .int .i64 root, .slice a bn c, .int .i64 d, .slice pa pn pc, .bool true] w fun e w' => ∃ v' z, e = .returned (.tuple #[v', .int .u8 z]) ∧ Q (.returned (.tuple #[v', .int .u8 z])) w') := by
    refine HN.out.mono fun e w' h => ?_
    have h' := h
    rw [HQ.out] at h'
    obtain ⟨v', he, -⟩ := h'
    subst he
    exact ⟨v', _, rfl, h⟩
  clear hS hb hP HN HQ hl
  go_enter Tryz.func22, Tryz.ntmps22
  go_wp2_with fail
  refine HN2.out.mono ?_
  rintro e w1 ⟨v', z, rfl, h⟩
  have HE := hid h
  clear h
  go_wp2_with fail
  exact HE.out
end Go.Proofs.YtfimpmennkfjcaaGreatDoor
namespace Go.Proofs.YtfimpmennkfjcaaGreatDoor
open Go.RowKit
def s19 : List Mes := [⟨⟨#[109]⟩, [⟨⟨#[97]⟩, 1, 17, false, false, 0⟩]⟩]
def p19 : List (List UInt8) := [[97, 46, 97]]
theorem kept19 : namedC s19 0 1 [10, 2, 16, 1] p19 true = (0, [10, 0]) := by decide +kernel
theorem left19 : namedC s19 0 1 [10, 2, 16, 1] p19 false = (0, [10, 2, 16, 1]) := by decide +kernel
set_option maxRecDepth 100000 in
set_option maxHeartbeats 4000000 in
theorem law19_alive (w : World) : Calls Tryz.prog 7 #[] w fun e w' => e = .returned (.bool true) ∧ Below w.heap.size w w' := by
  obtain ⟨X, HX⟩ : ∃ X, Hid (X = w.heap.size) := ⟨_, rfl⟩
  obtain ⟨W, HW⟩ : ∃ W, Hid (W = ((w.alloc (.cells #[.string ⟨#[97]⟩, .int .i64 1, .int .i64 17, .bool false, .bool false, .int .i64 0] 64)).alloc (.cells #[.string ⟨#[109]⟩, .slice (some ⟨X, 0, none⟩) 1 1] 67)).alloc (.cells #[.int .u8 10, .int .u8 2, .int .u8 16, .int .u8 1] 5)) := ⟨_, rfl⟩
  have hS : SchemaAt W (.slice (some ⟨X + 1, 0, none⟩) 1 1) s19 := by
    rw [HW.out, HX.out]
    refine schema_one (Blk.alloc (Blk.new' _ [.string ⟨#[109]⟩, .slice (some ⟨w.heap.size, 0, none⟩) 1 1] _ _ (by simp)) _) (by decide) ?_
    refine fields_blk (Blk.alloc (Blk.alloc (Blk.new w _ _) _) _) 1 rfl (by omega) ?_
    intro f hf
    simp at hf
    rcases hf with rfl
    exact ⟨by decide, by decide, by decide, by decide⟩
  have hb : Bytes W (.slice (some ⟨X + 1 + 1, 0, none⟩) 4 4) [10, 2, 16, 1] := by
    rw [HW.out, HX.out]
    exact seg_blk (Blk.new' _ ([10, 2, 16, 1].map byteV) 5 _ (by simp)) 1 4 rfl (by omega)
  have hB : Below w.heap.size w W := by rw [HW.out]; (repeat (first | with_reducible exact Below.refl _ _ | with_reducible refine Below.setCell ?_ (by first | omega | (simp; omega) | (simp; done)) _ | with_reducible refine Below.alloc ?_ (by first | omega | (simp; omega) | (simp; done)) _ | with_reducible refine below_drewN ?_ _ | with_reducible refine Below.drew ?_))
  have HS := hid hS
  have HB := hid hB
  have HBY := hid hb
  have HZ : Hid (W.heap.size = X + 1 + 1 + 1) := by rw [Hid, HW.out, HX.out]; simp
  have HSTR : Hid (∀ V : World, StrsAt (V.alloc (.cells #[.string ⟨#[97, 46, 97]⟩] 9)) (.slice (some ⟨V.heap.size, 0, none⟩) 1 1) p19) := fun V =>
    ⟨seg_blk (Blk.new V (p19.map strV) 9) 1 1 rfl (by omega), by decide⟩
  clear hS hb hB
  go_enter Tryz.func7, Tryz.ntmps7
  go_upto_region 3 with fail
  rw [← HX.out, ← HW.out]
  obtain ⟨W1, HW1⟩ : ∃ W1, Hid (W1 = W.alloc (.cells #[.string ⟨#[97, 46, 97]⟩] 9)) := ⟨_, rfl⟩
  have hb1 : Below W.heap.size W W1 := by rw [HW1.out]; exact (Below.refl _ _).alloc (Nat.le_refl _) _
  have hP1 := HSTR.out W
  rw [← HW1.out] at hP1
  have HB1 := hid (HB.out.trans (hb1.mono HB.out.size))
  have HBW1 := hid hb1
  have HK := hid (keep_Paths (HS.out.below hb1) (HBY.out.below hb1) (by decide) hP1 (by decide) 0 1)
  rw [kept19] at HK
  clear hb1 hP1
  go_wp2_with fail
  rw [← HW1.out]
  refine HK.out.mono ?_
  rintro e w2 ⟨v2, rfl, hO2, hb2⟩
  obtain ⟨xa, xc, rfl⟩ := hO2.form
  have HB2 := hid (HBW1.out.trans (hb2.mono HBW1.out.size))
  have HX2 := hid (hO2.bytes (by decide))
  clear hO2 hb2
  obtain ⟨W3, HW3⟩ : ∃ W1, Hid (W1 = w2.alloc (.cells #[.string ⟨#[97, 46, 97]⟩] 9)) := ⟨_, rfl⟩
  have hb3 : Below w2.heap.size w2 W3 := by rw [HW3.out]; exact (Below.refl _ _).alloc (Nat.le_refl _) _
  have hP3 := HSTR.out w2
  rw [← HW3.out] at hP3
  have HB3 := hid (HB2.out.trans (hb3.mono HB2.out.size))
  have HX3 := hid (HX2.out.below hb3)
  have HK3 := hid (keep_Without (HS.out.below HB3.out) (HBY.out.below HB3.out) (by decide) hP3 (by decide) 0 1)
  rw [left19] at HK3
  clear hb3 hP3
  go_wp2_with fail
  rw [← HW3.out]
  refine HK3.out.mono ?_
  rintro e w4 ⟨v4, rfl, hO4, hb4⟩
  obtain ⟨ya, yc, rfl⟩ := hO4.form
  have HY4 := hid (hO4.bytes (by decide))
  have HX4 := hid (HX3.out.below hb4)
  have HB4 := hid (HB3.out.trans (hb4.mono HB3.out.size))
  clear hO4 hb4
  have hb5 : Below w4.heap.size w4 (w4.alloc (.cells #[.int .u8 10, .int .u8 0] 5)) := (Below.refl _ _).alloc (Nat.le_refl _) _
  have HN5 : Hid (Bytes (w4.alloc (.cells #[.int .u8 10, .int .u8 0] 5)) (.slice (some ⟨w4.heap.size, 0, none⟩) 2 2) [10, 0]) := bytes_new w4 5 #[.int .u8 10, .int .u8 0] [10, 0] rfl (by simp)
  have HSM := hid (ref01_Same (HX4.out.below hb5) HN5.out)
  have HSM2 := hid (ref01_Same (HY4.out.below hb5) (HBY.out.below (HB4.out.trans (hb5.mono HB4.out.size))))
  have HEND := hid (HB.out.trans ((HB4.out.trans (hb5.mono HB4.out.size)).mono HB.out.size))
  clear hb5
  go_wp2_with fail
  refine HSM.out.mono ?_
  rintro e w6 ⟨rfl, rfl⟩
  go_wp2_with fail
  refine HSM2.out.mono ?_
  rintro e w7 ⟨rfl, rfl⟩
  go_wp2_with fail
  go_ret
  exact ⟨by simp, HEND.out⟩
end Go.Proofs.YtfimpmennkfjcaaGreatDoor
namespace Go.Proofs.YtfimpmennkfjcaaGreatDoor
open Go.RowKit
theorem twt_snoc (l : List (List UInt8)) (k : Nat) (t : List UInt8) (h : l[k]? = some t) : twt (l.take (k + 1)) = twt (l.take k) + (1 + t.length) := sum_take _ l k t h
set_option maxRecDepth 100000 in
set_option maxHeartbeats 4000000 in
theorem law12_Long {w : World} {v : Value} {l : List (List UInt8)} (h : StrsAt w v l) (hw : twt l ≤ 1099511627776) :
    Calls Tryz.prog 9 #[v] w fun e w' => e = .returned (.bool (decide (6000 < twt l))) ∧ w = w' := by
  obtain ⟨hl, a, c, rfl, -, hat⟩ := h.open
  obtain ⟨n, HN⟩ : ∃ n, Hid (n = l.length) := ⟨_, rfl⟩
  rw [← HN.out] at hl ⊢
  obtain ⟨y, HY⟩ : ∃ y, Hid (y = twt l) := ⟨_, rfl⟩
  have HAT := hid hat
  have hy : y ≤ 1099511627776 := by rw [HY.out]; exact hw
  rw [← HY.out]
  clear hat h hw
  go_enter Tryz.func9, Tryz.ntmps9
  go_wp2_with fail
  go_loopw [3, 4] (fun v3 v4 wr => ∃ z i : Nat, v3 = .int .i64 z ∧ v4 = .int .i64 i ∧ i ≤ n ∧ z ≤ 1099511627776 ∧ Hid (z = twt (l.take i)) ∧ w = wr) (fun _ v4 _ => n - (intOf v4).toNat)
  case atStart => exact ⟨0, 0, rfl, rfl, by omega, by omega, rfl, rfl⟩
  case round =>
    obtain ⟨z, i, rfl, rfl, hi, hz, HZ, rfl⟩ := hrel
    by_cases h1 : i < n
    · have hxi : l[i]? = some (l[i]'(by rw [← HN.out]; exact h1)) := List.getElem?_eq_getElem _
      generalize l[i]'(by rw [← HN.out]; exact h1) = x at hxi
      obtain ⟨hxl, b, o, ha, g0⟩ := HAT.out i x hxi
      have hix := index_run1 Tryz.underlying25 size_strp ha i h1 (cap := c)
      have hbl : b < w.heap.size := World.block_lt_of_cell? w _ g0
      have HST : Hid (z + x.length + 1 = twt (l.take (i + 1)) ∧ z + x.length + 1 ≤ 1099511627776) := by
        have h2 := twt_snoc l i x hxi
        have h3 := twt_take' l (i + 1)
        have h4 := HZ.out
        have h5 := HY.out
        exact ⟨by omega, by omega⟩
      unfold strV at g0
      have hsb : (⟨x.toArray⟩ : ByteArray).size = x.length := str_size x
      obtain ⟨xs, HXS⟩ : ∃ xs : ByteArray, Hid (xs = ⟨x.toArray⟩) := ⟨_, rfl⟩
      obtain ⟨xl, HXL⟩ : ∃ xl, Hid (xl = x.length) := ⟨_, rfl⟩
      rw [← HXS.out] at g0 hsb
      rw [← HXL.out] at hsb HST hxl
      have hzb := HST.out.2
      clear hxi ha
      go_wp2_with fail
      go_roundw
      case rel => exact ⟨z + xl + 1, i + 1, by first | go_num | (rw [hsb]; go_num), by go_num, h1, HST.out.2, HST.out.1, by first | trivial | rfl⟩
      case measure => simp [intOf]; omega
    · obtain rfl : i = n := by omega
      have HZY : Hid (z = y) := by
        have := HZ.out
        rw [HN.out, List.take_length] at this
        rw [Hid, this, HY.out]
      by_cases hb : 6000 < z
      · have HD : Hid (decide (6000 < y) = true) := by rw [Hid, ← HZY.out]; exact decide_eq_true hb
        go_wp2_with fail
        go_ret
        exact ⟨by rw [HD.out]; first | done | rfl | (simp; done) | (simp; omega), rfl⟩
      · have HD : Hid (decide (6000 < y) = false) := by rw [Hid, ← HZY.out]; exact decide_eq_false hb
        go_wp2_with fail
        go_ret
        exact ⟨by rw [HD.out]; first | done | rfl | (simp; done) | (simp; omega), rfl⟩
/-- l[:j] of strings -/
theorem StrsAt.h {w : World} {a : Option Addr} {n cap : Nat} {l : List (List UInt8)} (h : StrsAt w (.slice a n cap) l) (hn : n = l.length) (j : Nat) (hj : j ≤ n) :
    ∃ a' c', (∀ W, (Instr.slice 25 (.slice a n cap) none (some (.int .i64 (j : Int))) none).run Tryz.prog W = .ok (.slice a' j c') W) ∧ StrsAt w (.slice a' j c') (l.take j) := by
  subst hn
  have hcap : l.length ≤ cap := by obtain ⟨⟨_, _, a', cap', hv, h3, _⟩, _⟩ := h; cases hv; exact h3
  refine ⟨_, _, fun W => slice_h_run under_strl size_strp a _ cap j (by omega) W, ?_⟩
  have hs := Seg.sub h.1 0 j (by omega) hj
  refine ⟨?_, fun t ht => h.2 t (List.mem_of_mem_take ht)⟩
  rw [List.length_take, Nat.min_eq_left (by omega), List.map_take]
  simpa [sliced] using hs
end Go.Proofs.YtfimpmennkfjcaaGreatDoor
namespace Go.Proofs.YtfimpmennkfjcaaGreatDoor
open Go.RowKit
theorem vloop_code (rec : Nat → List UInt8 → Nat × Nat) (deep : Bool) (fs : List Fld) (l : List UInt8) (hrec : ∀ o x, (rec o x).2 < 256) : ∀ (k i : Nat), (vloop rec deep fs l k i).2 < 256
  | 0, _ => by rw [vloop]; decide
  | k + 1, i => by
    rw [vloop]
    by_cases hi : l.length ≤ i
    · rw [if_pos hi]; decide
    rw [if_neg hi]
    have hv : (vlook fs l i).2.2.2 < 256 ∧ (vval rec deep fs l (vlook fs l i)).2 < 256 := by
      rcases vlook_cases fs l i with ⟨c, h, e, h2⟩ | ⟨r, h1, h2, h3, h4, -, e | ⟨j, run, -, e, -⟩⟩
      · rw [e]
        refine ⟨h2, ?_⟩
        unfold vval
        rw [if_neg (by simp)]
        simp only [Bool.false_eq_true, if_false]
        split
        · split <;> simp
        · split
          · split
            · simp
            · exact hrec _ _
          · simp
      · rw [e]; exact ⟨by simp, by simp [vval]⟩
      · rw [e]
        refine ⟨by simp, ?_⟩
        unfold vval
        rw [if_neg (by show ¬ ((j : Int) < 0); omega)]
        simp only [Int.toNat_natCast]
        split
        · have := runCount_lt (kwire (fs.getD j .zero).kind) (part l r.at' r.to)
          show (runCount _ _).2 < 256; omega
        · split
          · split <;> simp
          · split
            · split
              · simp
              · exact hrec _ _
            · simp
    by_cases hc : (vlook fs l i).2.2.2 ≠ 0
    · rw [if_pos hc]; exact hv.1
    rw [if_neg hc]
    by_cases hv2 : (vval rec deep fs l (vlook fs l i)).2 ≠ 0
    · rw [if_pos hv2]; exact hv.2
    · rw [if_neg hv2]; exact vloop_code rec deep fs l hrec k _
theorem vmsg_code (s : List Mes) : ∀ (d m : Nat) (l : List UInt8), (vmsg s d m l).2 < 256
  | 0, m, l => vloop_code _ _ _ l (fun _ _ => by decide) _ _
  | d + 1, m, l => vloop_code _ _ _ l (vmsg_code s d) _ _
theorem vcheck_code (s : List Mes) (root : Int) (l : List UInt8) (d : Int) : (vcheck s root l d).2 < 256 := by
  unfold vcheck
  by_cases h : argsCode s root d ≠ 0
  · rw [if_pos h]; have := args_cases s root d; show argsCode s root d < 256; omega
  · rw [if_neg h]; exact vmsg_code _ _ _ _
end Go.Proofs.YtfimpmennkfjcaaGreatDoor
