/- keep.parts, named, Paths, Without: partsC, namedC. At most 2^30 bytes; paths of at most 2^40 bytes. darninglaw19.alive: true. No condition. keep.Of, keep.Rest: partsC. At most 2^30 bytes. darningref10.All: all views of bytes (vall). At most 2^40 bytes. -/
import Derived.Test.YtfimpmennkfjcaaGreatDoorZ28
import Derived.Test.YtfimpmennkfjcaaGreatDoorZ32
import Derived.Test.YtfimpmennkfjcaaGreatDoorZ34
import Derived.Test.YtfimpmennkfjcaaGreatDoorZ39
import Derived.Deep.DeepCutAuto
namespace Go.Proofs.YtfimpmennkfjcaaGreatDoor
open Go.RowKit Go.Shelf
def KPost (w : World) (x : Nat × List UInt8) (e : Ending) (w' : World) : Prop := ∃ v', e = .returned (.tuple #[v', .int .u8 (x.1 : Nat)]) ∧ Own w' w.heap.size v' x.2 ∧ Below w.heap.size w w'
set_option maxRecDepth 100000 in
set_option maxHeartbeats 4000000 in
theorem keep_parts {w : World} {sv bv mv : Value} {s : List Mes} {b : List UInt8} {ws : List (List Int)} (hS : SchemaAt w sv s) (hb : Bytes w bv b) (hl : b.length ≤ 1073741824) (hM : WaysAt w mv ws) (hL : LightW ws) (hL2 : ∀ l ∈ ws, l.length ≤ 1073741824) (root d : Int) (keep : Bool) :
    Calls Tryz.prog 31 #[sv, .int .i64 root, bv, .int .i64 d, maskV mv, .bool keep] w (KPost w (partsC s root d b ws keep)) := by
  unfold maskV
  obtain ⟨X, HX⟩ : ∃ X, Hid (X = w.heap.size) := ⟨_, rfl⟩
  obtain ⟨W1, HW1⟩ : ∃ W1, Hid (W1 = w.alloc (.cells #[mv] 37)) := ⟨_, rfl⟩
  have hb1 : Below w.heap.size w W1 := by rw [HW1.out]; exact (Below.refl _ _).alloc (Nat.le_refl _) _
  have hk1 : Blk W1 X [mv] 37 := by rw [HW1.out, HX.out]; exact Blk.new w [mv] _
  have HB1 := hid hb1
  have HK1 := hid hk1
  have HS := hid hS
  have HB := hid hb
  have HM := hid (And.intro hM (And.intro hL hL2))
  have HL := hid hl
  have HC := hid (valid_Check (hS.below hb1) (hb.below hb1) root d)
  obtain ⟨-, sa, sc, rfl, -⟩ := hS.open
  obtain ⟨-, a, c, rfl, -⟩ := hb.open
  obtain ⟨-, ma, mc, rfl, -, -⟩ := hM.open
  obtain ⟨sn, HSN⟩ : ∃ n, Hid (n = s.length) := ⟨_, rfl⟩
  obtain ⟨n, HN⟩ : ∃ n, Hid (n = b.length) := ⟨_, rfl⟩
  obtain ⟨mn, HMN⟩ : ∃ n, Hid (n = ws.length) := ⟨_, rfl⟩
  rw [← HSN.out] at HS HC ⊢
  rw [← HN.out] at HB HC ⊢
  rw [← HMN.out] at HM HK1 HW1 ⊢
  obtain ⟨p, HP⟩ : ∃ p, Hid (p = (vcheck s root b d).1) := ⟨_, rfl⟩
  obtain ⟨z, HZ⟩ : ∃ z, Hid (z = (vcheck s root b d).2) := ⟨_, rfl⟩
  rw [← HP.out, ← HZ.out] at HC
  obtain ⟨Q, HQ⟩ : ∃ Q : Ending → World → Prop, Hid (Q = KPost w (partsC s root d b ws keep)) := ⟨_, rfl⟩
  rw [← HQ.out]
  clear hS hb hM hL hL2 hl hb1 hk1
  by_cases hz : z = 0
  · subst hz
    obtain ⟨cp, HCP⟩ : ∃ c, Hid (c = (pathsC s root ws).1) := ⟨_, rfl⟩
    have HMP : Hid (∀ W, Below w.heap.size w W → Calls Tryz.prog 58 #[.slice sa sn sc, .int .i64 root, .agg #[.slice ma mn mc]] W fun e w' => ∃ v', e = .returned (.tuple #[v', .int .u8 (cp : Nat)]) ∧ Below W.heap.size W w') := fun W hW => by
      have h := mask_Paths (HS.out.below hW) root (HM.out.1.below hW) HM.out.2.1 HM.out.2.2
      unfold maskV PathsPost at h
      rw [← HCP.out] at h
      exact h.mono fun e w' ⟨v', h1, _, h2⟩ => ⟨v', h1, h2⟩
    go_enter Tryz.func31, Tryz.ntmps31
    go_upto_region 1 with fail
    rw [← HW1.out, ← HX.out]
    go_wp2_with fail
    refine HC.out.mono ?_
    rintro e w2 ⟨rfl, hb2⟩
    have HK2 := hid (HK1.out.below hb2)
    have HB2 := hid (HB1.out.trans (hb2.mono HB1.out.size))
    have k0 := HK2.out.cell 0 _ rfl
    have kl := HK2.out.lt
    clear hb2
    go_wp2_with fail
    refine (HMP.out w2 HB2.out).mono ?_
    rintro e w3 ⟨v3, rfl, hb3⟩
    have HK3 := hid (HK2.out.below hb3)
    have HB3 := hid (HB2.out.trans (hb3.mono HB2.out.size))
    clear k0 kl hb3
    by_cases hcp : cp = 0
    · subst hcp
      have hargs : argsCode s root d = 0 := by
        have h := HZ.out.symm
        unfold vcheck at h
        by_cases h0 : argsCode s root d = 0
        · exact h0
        · rw [if_pos h0] at h; exact absurd h h0
      obtain ⟨g1, g2, g3, g4, g5⟩ := args_ok hargs
      have hv : (vmsg s d.toNat root.toNat b).2 = 0 := by rw [← vcheck_of hargs]; exact HZ.out.symm
      obtain ⟨r, rfl⟩ : ∃ r : Nat, root = r := ⟨root.toNat, by omega⟩
      rw [Int.toNat_natCast] at hv
      have HPC : Hid (partsC s (r : Int) d b ws keep = (0, kpart s keep d.toNat r (mOf ws) b)) := by
        rw [Hid, partsC, if_neg (by rw [← HZ.out]; simp), if_neg (by rw [← HCP.out]; simp), Int.toNat_natCast]
      have HPT := hid (keep_part g1 (HS.out.below HB3.out) keep d.toNat r w3 (.slice a n c) (.slice ma mn mc) b ws (by omega) (Below.refl _ _) (HB.out.below HB3.out) HL.out (HM.out.1.below HB3.out) HM.out.2.1 hv)
      unfold maskV at HPT
      have k0 := HK3.out.cell 0 _ rfl
      have kl := HK3.out.lt
      clear hargs g1 g2 g3 g4 g5 hv HC HMP
      go_wp2_with fail
      refine HPT.out.mono ?_
      rintro e w4 ⟨v4, rfl, hO, hb4⟩
      have HE : Hid (Q (.returned (.tuple #[v4, .int .u8 0])) w4) := by
        rw [HQ.out, HPC.out]
        exact ⟨v4, rfl, hO.mono HB3.out.size, HB3.out.trans (hb4.mono HB3.out.size)⟩
      clear hO hb4 k0 kl
      go_wp2_with fail
      exact HE.out
    · have e1 : ((cp : Int) != 0) = true := by simpa using hcp
      have e2 : ((cp : Int) == 0) = false := by simpa using hcp
      have HE : Hid (Q (.returned (.tuple #[.slice none 0 0, .int .u8 10])) w3) := by
        rw [HQ.out]
        unfold KPost partsC
        rw [if_neg (by rw [← HZ.out]; simp), if_pos (by rw [← HCP.out]; exact hcp)]
        exact ⟨_, rfl, own_nil _ _, HB3.out⟩
      go_wp2_with fail
      exact HE.out
  · have e1 : ((z : Int) != 0) = true := by simpa using hz
    have e2 : ((z : Int) == 0) = false := by simpa using hz
    go_enter Tryz.func31, Tryz.ntmps31
    go_upto_region 1 with fail
    rw [← HW1.out, ← HX.out]
    go_wp2_with fail
    refine HC.out.mono ?_
    rintro e w2 ⟨rfl, hb2⟩
    have HE : Hid (Q (.returned (.tuple #[.slice none 0 0, .int .u8 (z : Nat)])) w2) := by
      rw [HQ.out]
      unfold KPost partsC
      rw [if_pos (by rw [← HZ.out]; exact hz), ← HZ.out]
      exact ⟨_, rfl, own_nil _ _, HB1.out.trans (hb2.mono HB1.out.size)⟩
    clear hb2
    go_wp2_with fail
    exact HE.out
theorem make_light {s : List Mes} {root : Int} {ps : List (List UInt8)} (h : (makeC s root ps).1 = 0) : LightW (makeC s root ps).2 ∧ ∀ l ∈ (makeC s root ps).2, l.length ≤ 1073741824 := by
  obtain ⟨h1, h2, a, h3, h4⟩ := make_ok h
  obtain ⟨g1, g2⟩ := waysOf_light h3
  rw [h4]
  have hl : LightW a := ⟨by omega, fun l hl => by have := g2 l hl; omega⟩
  refine ⟨mOf_light hl, fun l hl => ?_⟩
  have := g2 l (((mOf_mask a).2 l).1 hl).1
  omega
set_option maxRecDepth 100000 in
set_option maxHeartbeats 4000000 in
theorem keep_named {w : World} {sv bv pv : Value} {s : List Mes} {b : List UInt8} {ps : List (List UInt8)} (hS : SchemaAt w sv s) (hb : Bytes w bv b) (hl : b.length ≤ 1073741824) (hP : StrsAt w pv ps) (hpl : ∀ p ∈ ps, p.length ≤ 1099511627776) (root d : Int) (keep : Bool) :
    Calls Tryz.prog 30 #[sv, .int .i64 root, bv, .int .i64 d, pv, .bool keep] w (KPost w (namedC s root d b ps keep)) := by
  have HS := hid hS
  have HB := hid hb
  have HP := hid (And.intro hP hpl)
  have HL := hid hl
  have HA := hid (valid_Args hS root d)
  obtain ⟨-, sa, sc, rfl, -⟩ := hS.open
  obtain ⟨-, a, c, rfl, -⟩ := hb.open
  obtain ⟨-, pa, pc, rfl, -, -⟩ := hP.open
  obtain ⟨sn, HSN⟩ : ∃ n, Hid (n = s.length) := ⟨_, rfl⟩
  obtain ⟨n, HN⟩ : ∃ n, Hid (n = b.length) := ⟨_, rfl⟩
  obtain ⟨pn, HPN⟩ : ∃ n, Hid (n = ps.length) := ⟨_, rfl⟩
  rw [← HSN.out] at HS HA ⊢
  rw [← HN.out] at HB ⊢
  rw [← HPN.out] at HP ⊢
  obtain ⟨z, HZ⟩ : ∃ z, Hid (z = argsCode s root d) := ⟨_, rfl⟩
  rw [← HZ.out] at HA
  obtain ⟨Q, HQ⟩ : ∃ Q : Ending → World → Prop, Hid (Q = KPost w (namedC s root d b ps keep)) := ⟨_, rfl⟩
  rw [← HQ.out]
  clear hS hb hP hpl hl
  by_cases hz : z = 0
  · subst hz
    obtain ⟨cm, HCM⟩ : ∃ c, Hid (c = (makeC s root ps).1) := ⟨_, rfl⟩
    go_enter Tryz.func30, Tryz.ntmps30
    go_wp2_with fail
    refine HA.out.mono ?_
    rintro e w1 ⟨rfl, hb1⟩
    have HB1 := hid hb1
    have HMK := hid (mask_Make (HS.out.below hb1) root (HP.out.1.keep (below_keeps hb1)) HP.out.2)
    unfold MakePost at HMK
    rw [← HCM.out] at HMK
    clear hb1
    go_wp2_with fail
    refine HMK.out.mono ?_
    rintro e w2 ⟨v2, rfl, hN, hb2⟩
    obtain ⟨-, ma, mc, rfl, -, -⟩ := hN.here.open
    obtain ⟨mn, HMN⟩ : ∃ n, Hid (n = (makeC s root ps).2.length) := ⟨_, rfl⟩
    rw [← HMN.out] at hN ⊢
    unfold maskV
    obtain ⟨X, HX⟩ : ∃ X, Hid (X = w2.heap.size) := ⟨_, rfl⟩
    obtain ⟨W3, HW3⟩ : ∃ W, Hid (W = w2.alloc (.cells #[.slice ma mn mc] 37)) := ⟨_, rfl⟩
    have hb3 : Below w2.heap.size w2 W3 := by rw [HW3.out]; exact (Below.refl _ _).alloc (Nat.le_refl _) _
    have hk3 : Blk W3 X [.slice ma mn mc] 37 := by rw [HW3.out, HX.out]; exact Blk.new w2 [.slice ma mn mc] _
    have HB3 := hid ((HB1.out.trans (hb2.mono HB1.out.size)).trans (hb3.mono (HB1.out.trans (hb2.mono HB1.out.size)).size))
    have HN3 := hid (hN.here.below hb3)
    have HK3 := hid hk3
    clear hN hb2 hb3 hk3
    by_cases hcm : cm = 0
    · subst hcm
      obtain ⟨hl1, hl2⟩ := make_light HCM.out.symm
      have HPT := hid (keep_parts (HS.out.below HB3.out) (HB.out.below HB3.out) HL.out HN3.out hl1 hl2 root d keep)
      unfold maskV at HPT
      have HNC : Hid (namedC s root d b ps keep = partsC s root d b (makeC s root ps).2 keep) := by
        rw [Hid, namedC, if_neg (by rw [← HZ.out]; simp), if_neg (by rw [← HCM.out]; simp)]
      clear hl1 hl2 HA HMK
      go_upto_region 7 with fail
      rw [← HW3.out, ← HX.out]
      have k0 := HK3.out.cell 0 _ rfl
      have kl := HK3.out.lt
      go_wp2_with fail
      refine HPT.out.mono ?_
      rintro e w4 ⟨v4, rfl, hO, hb4⟩
      have HE : Hid (Q (.returned (.tuple #[v4, .int .u8 ((partsC s root d b (makeC s root ps).2 keep).1 : Nat)])) w4) := by
        rw [HQ.out, HNC.out]
        exact ⟨v4, rfl, hO.mono HB3.out.size, HB3.out.trans (hb4.mono HB3.out.size)⟩
      generalize (partsC s root d b (makeC s root ps).2 keep).1 = pc at *
      clear hO hb4 k0 kl
      go_wp2_with fail
      exact HE.out
    · have e1 : ((cm : Int) != 0) = true := by simpa using hcm
      have e2 : ((cm : Int) == 0) = false := by simpa using hcm
      have HE : Hid (Q (.returned (.tuple #[.slice none 0 0, .int .u8 (cm : Nat)])) W3) := by
        rw [HQ.out]
        unfold KPost namedC
        rw [if_neg (by rw [← HZ.out]; simp), if_pos (by rw [← HCM.out]; exact hcm), ← HCM.out]
        exact ⟨_, rfl, own_nil _ _, HB3.out⟩
      go_upto_region 5 with fail
      rw [← HW3.out, ← HX.out]
      go_wp2_with fail
      exact HE.out
  · have e1 : ((z : Int) != 0) = true := by simpa using hz
    have e2 : ((z : Int) == 0) = false := by simpa using hz
    go_enter Tryz.func30, Tryz.ntmps30
    go_wp2_with fail
    refine HA.out.mono ?_
    rintro e w2 ⟨rfl, hb2⟩
    have HE : Hid (Q (.returned (.tuple #[.slice none 0 0, .int .u8 (z : Nat)])) w2) := by
      rw [HQ.out]
      unfold KPost namedC
      rw [if_pos (by rw [← HZ.out]; exact hz), ← HZ.out]
      exact ⟨_, rfl, own_nil _ _, hb2⟩
    clear hb2
    go_wp2_with fail
    exact HE.out
set_option maxRecDepth 100000 in
set_option maxHeartbeats 4000000 in
theorem keep_Without {w : World} {sv bv pv : Value} {s : List Mes} {b : List UInt8} {ps : List (List UInt8)} (hS : SchemaAt w sv s) (hb : Bytes w bv b) (hl : b.length ≤ 1073741824) (hP : StrsAt w pv ps) (hpl : ∀ p ∈ ps, p.length ≤ 1099511627776) (root d : Int) :
    Calls Tryz.prog 10 #[sv, .int .i64 root, bv, .int .i64 d, pv] w (KPost w (namedC s root d b ps false)) := by
  have HN := hid (keep_named hS hb hl hP hpl root d false)
  obtain ⟨-, sa, sc, rfl, -⟩ := hS.open
  obtain ⟨-, a, c, rfl, -⟩ := hb.open
  obtain ⟨-, pa, pc, rfl, -, -⟩ := hP.open
  obtain ⟨Q, HQ⟩ : ∃ Q : Ending → World → Prop, Hid (Q = KPost w (namedC s root d b ps false)) := ⟨_, rfl⟩
  rw [← HQ.out] at HN ⊢
  generalize s.length = sn at *
  generalize b.length = bn at *
  generalize ps.length = pn at *
  have HN2 : Hid (Calls Tryz.prog 30 #[.slice sa sn sc, .int .i64 root, .slice a bn c, .int .i64 d, .slice pa pn pc, .bool false] w fun e w' => ∃ v' z, e = .returned (.tuple #[v', .int .u8 z]) ∧ Q (.returned (.tuple #[v', .int .u8 z])) w') := by
    refine HN.out.mono fun e w' h => ?_
    have h' := h
    rw [HQ.out] at h'
    obtain ⟨v', he, -⟩ := h'
    subst he
    exact ⟨v', _, rfl, h⟩
  clear hS hb hP HN HQ hl
  go_enter Tryz.func10, Tryz.ntmps10
  go_wp2_with fail
  refine HN2.out.mono ?_
  rintro e w1 ⟨v', z, rfl, h⟩
  have HE := hid h
  clear h
  go_wp2_with fail
  exact HE.out
set_option maxRecDepth 100000 in
set_option maxHeartbeats 4000000 in
theorem keep_Paths {w : World} {sv bv pv : Value} {s : List Mes} {b : List UInt8} {ps : List (List UInt8)} (hS : SchemaAt w sv s) (hb : Bytes w bv b) (hl : b.length ≤ 1073741824) (hP : StrsAt w pv ps) (hpl : ∀ p ∈ ps, p.length ≤ 1099511627776) (root d : Int) :
    Calls Tryz.prog 22 #[sv, .int .i64 root, bv, .int .i64 d, pv] w (KPost w (namedC s root d b ps true)) := by
  have HN := hid (keep_named hS hb hl hP hpl root d true)
  obtain ⟨-, sa, sc, rfl, -⟩ := hS.open
  obtain ⟨-, a, c, rfl, -⟩ := hb.open
  obtain ⟨-, pa, pc, rfl, -, -⟩ := hP.open
  obtain ⟨Q, HQ⟩ : ∃ Q : Ending → World → Prop, Hid (Q = KPost w (namedC s root d b ps true)) := ⟨_, rfl⟩
  rw [← HQ.out] at HN ⊢
  generalize s.length = sn at *
  generalize b.length = bn at *
  generalize ps.length = pn at *
  have HN2 : Hid (Calls Tryz.prog 30 #[.slice sa sn sc, .int .i64 root, .slice a bn c, .int .i64 d, .slice pa pn pc, .bool true] w fun e w' => ∃ v' z, e = .returned (.tuple #[v', .int .u8 z]) ∧ Q (.returned (.tuple #[v', .int .u8 z])) w') := by
    refine HN.out.mono fun e w' h => ?_
    have h' := h
    rw [HQ.out] at h'
    obtain ⟨v', he, -⟩ := h'
    subst he
    exact ⟨v', _, rfl, h⟩
  clear hS hb hP HN HQ hl
  go_enter Tryz.func22, Tryz.ntmps22
  go_wp2_with fail
  refine HN2.out.mono ?_
  rintro e w1 ⟨v', z, rfl, h⟩
  have HE := hid h
  clear h
  go_wp2_with fail
  exact HE.out
end Go.Proofs.YtfimpmennkfjcaaGreatDoor
namespace Go.Proofs.YtfimpmennkfjcaaGreatDoor
open Go.RowKit
def s19 : List Mes := [⟨⟨#[109]⟩, [⟨⟨#[97]⟩, 1, 17, false, false, 0⟩]⟩]
def p19 : List (List UInt8) := [[97, 46, 97]]
theorem kept19 : namedC s19 0 1 [10, 2, 16, 1] p19 true = (0, [10, 0]) := by decide +kernel
theorem left19 : namedC s19 0 1 [10, 2, 16, 1] p19 false = (0, [10, 2, 16, 1]) := by decide +kernel
set_option maxRecDepth 100000 in
set_option maxHeartbeats 4000000 in
theorem law19_alive (w : World) : Calls Tryz.prog 7 #[] w fun e w' => e = .returned (.bool true) ∧ Below w.heap.size w w' := by
  obtain ⟨X, HX⟩ : ∃ X, Hid (X = w.heap.size) := ⟨_, rfl⟩
  obtain ⟨W, HW⟩ : ∃ W, Hid (W = ((w.alloc (.cells #[.string ⟨#[97]⟩, .int .i64 1, .int .i64 17, .bool false, .bool false, .int .i64 0] 64)).alloc (.cells #[.string ⟨#[109]⟩, .slice (some ⟨X, 0, none⟩) 1 1] 67)).alloc (.cells #[.int .u8 10, .int .u8 2, .int .u8 16, .int .u8 1] 5)) := ⟨_, rfl⟩
  have hS : SchemaAt W (.slice (some ⟨X + 1, 0, none⟩) 1 1) s19 := by
    rw [HW.out, HX.out]
    refine schema_one (Blk.alloc (Blk.new' _ [.string ⟨#[109]⟩, .slice (some ⟨w.heap.size, 0, none⟩) 1 1] _ _ (by simp)) _) (by decide) ?_
    refine fields_blk (Blk.alloc (Blk.alloc (Blk.new w _ _) _) _) 1 rfl (by omega) ?_
    intro f hf
    simp at hf
    rcases hf with rfl
    exact ⟨by decide, by decide, by decide, by decide⟩
  have hb : Bytes W (.slice (some ⟨X + 1 + 1, 0, none⟩) 4 4) [10, 2, 16, 1] := by
    rw [HW.out, HX.out]
    exact seg_blk (Blk.new' _ ([10, 2, 16, 1].map byteV) 5 _ (by simp)) 1 4 rfl (by omega)
  have hB : Below w.heap.size w W := by rw [HW.out]; (repeat (first | with_reducible exact Below.refl _ _ | with_reducible refine Below.setCell ?_ (by first | omega | (simp; omega) | (simp; done)) _ | with_reducible refine Below.alloc ?_ (by first | omega | (simp; omega) | (simp; done)) _ | with_reducible refine below_drewN ?_ _ | with_reducible refine Below.drew ?_))
  have HS := hid hS
  have HB := hid hB
  have HBY := hid hb
  have HZ : Hid (W.heap.size = X + 1 + 1 + 1) := by rw [Hid, HW.out, HX.out]; simp
  have HSTR : Hid (∀ V : World, StrsAt (V.alloc (.cells #[.string ⟨#[97, 46, 97]⟩] 9)) (.slice (some ⟨V.heap.size, 0, none⟩) 1 1) p19) := fun V =>
    ⟨seg_blk (Blk.new V (p19.map strV) 9) 1 1 rfl (by omega), by decide⟩
  clear hS hb hB
  go_enter Tryz.func7, Tryz.ntmps7
  go_upto_region 3 with fail
  rw [← HX.out, ← HW.out]
  obtain ⟨W1, HW1⟩ : ∃ W1, Hid (W1 = W.alloc (.cells #[.string ⟨#[97, 46, 97]⟩] 9)) := ⟨_, rfl⟩
  have hb1 : Below W.heap.size W W1 := by rw [HW1.out]; exact (Below.refl _ _).alloc (Nat.le_refl _) _
  have hP1 := HSTR.out W
  rw [← HW1.out] at hP1
  have HB1 := hid (HB.out.trans (hb1.mono HB.out.size))
  have HBW1 := hid hb1
  have HK := hid (keep_Paths (HS.out.below hb1) (HBY.out.below hb1) (by decide) hP1 (by decide) 0 1)
  rw [kept19] at HK
  clear hb1 hP1
  go_wp2_with fail
  rw [← HW1.out]
  refine HK.out.mono ?_
  rintro e w2 ⟨v2, rfl, hO2, hb2⟩
  obtain ⟨xa, xc, rfl⟩ := hO2.form
  have HB2 := hid (HBW1.out.trans (hb2.mono HBW1.out.size))
  have HX2 := hid (hO2.bytes (by decide))
  clear hO2 hb2
  obtain ⟨W3, HW3⟩ : ∃ W1, Hid (W1 = w2.alloc (.cells #[.string ⟨#[97, 46, 97]⟩] 9)) := ⟨_, rfl⟩
  have hb3 : Below w2.heap.size w2 W3 := by rw [HW3.out]; exact (Below.refl _ _).alloc (Nat.le_refl _) _
  have hP3 := HSTR.out w2
  rw [← HW3.out] at hP3
  have HB3 := hid (HB2.out.trans (hb3.mono HB2.out.size))
  have HX3 := hid (HX2.out.below hb3)
  have HK3 := hid (keep_Without (HS.out.below HB3.out) (HBY.out.below HB3.out) (by decide) hP3 (by decide) 0 1)
  rw [left19] at HK3
  clear hb3 hP3
  go_wp2_with fail
  rw [← HW3.out]
  refine HK3.out.mono ?_
  rintro e w4 ⟨v4, rfl, hO4, hb4⟩
  obtain ⟨ya, yc, rfl⟩ := hO4.form
  have HY4 := hid (hO4.bytes (by decide))
  have HX4 := hid (HX3.out.below hb4)
  have HB4 := hid (HB3.out.trans (hb4.mono HB3.out.size))
  clear hO4 hb4
  have hb5 : Below w4.heap.size w4 (w4.alloc (.cells #[.int .u8 10, .int .u8 0] 5)) := (Below.refl _ _).alloc (Nat.le_refl _) _
  have HN5 : Hid (Bytes (w4.alloc (.cells #[.int .u8 10, .int .u8 0] 5)) (.slice (some ⟨w4.heap.size, 0, none⟩) 2 2) [10, 0]) := bytes_new w4 5 #[.int .u8 10, .int .u8 0] [10, 0] rfl (by simp)
  have HSM := hid (ref01_Same (HX4.out.below hb5) HN5.out)
  have HSM2 := hid (ref01_Same (HY4.out.below hb5) (HBY.out.below (HB4.out.trans (hb5.mono HB4.out.size))))
  have HEND := hid (HB.out.trans ((HB4.out.trans (hb5.mono HB4.out.size)).mono HB.out.size))
  clear hb5
  go_wp2_with fail
  refine HSM.out.mono ?_
  rintro e w6 ⟨rfl, rfl⟩
  go_wp2_with fail
  refine HSM2.out.mono ?_
  rintro e w7 ⟨rfl, rfl⟩
  go_wp2_with fail
  go_ret
  exact ⟨by simp, HEND.out⟩
end Go.Proofs.YtfimpmennkfjcaaGreatDoor
namespace Go.Proofs.YtfimpmennkfjcaaGreatDoor
open Go.RowKit Go.Shelf
set_option maxRecDepth 100000 in
set_option maxHeartbeats 4000000 in
theorem keep_Of {w : World} {sv bv mv : Value} {s : List Mes} {b : List UInt8} {ws : List (List Int)} (hS : SchemaAt w sv s) (hb : Bytes w bv b) (hl : b.length ≤ 1073741824) (hM : WaysAt w mv ws) (hL : LightW ws) (hL2 : ∀ l ∈ ws, l.length ≤ 1073741824) (root d : Int) :
    Calls Tryz.prog 13 #[sv, .int .i64 root, bv, .int .i64 d, maskV mv] w (KPost w (partsC s root d b ws true)) := by
  unfold maskV
  obtain ⟨X, HX⟩ : ∃ X, Hid (X = w.heap.size) := ⟨_, rfl⟩
  obtain ⟨W1, HW1⟩ : ∃ W1, Hid (W1 = w.alloc (.cells #[mv] 37)) := ⟨_, rfl⟩
  have hb1 : Below w.heap.size w W1 := by rw [HW1.out]; exact (Below.refl _ _).alloc (Nat.le_refl _) _
  have hk1 : Blk W1 X [mv] 37 := by rw [HW1.out, HX.out]; exact Blk.new w [mv] _
  have HN := hid (keep_parts (hS.below hb1) (hb.below hb1) hl (hM.below hb1) hL hL2 root d true)
  unfold maskV at HN
  have HB1 := hid hb1
  obtain ⟨-, sa, sc, rfl, -⟩ := hS.open
  obtain ⟨-, a, c, rfl, -⟩ := hb.open
  obtain ⟨-, ma, mc, rfl, -, -⟩ := hM.open
  obtain ⟨x, HXX⟩ : ∃ x, Hid (x = partsC s root d b ws true) := ⟨_, rfl⟩
  rw [← HXX.out] at HN ⊢
  generalize s.length = sn at *
  generalize b.length = bn at *
  generalize ws.length = mn at *
  have k0 := hk1.cell 0 _ rfl
  have kl := hk1.lt
  clear hS hb hM hL hL2 hl hb1 hk1 HXX
  obtain ⟨c0, l0⟩ := x
  obtain ⟨Q, HQ⟩ : ∃ Q : Ending → World → Prop, Hid (Q = KPost w (c0, l0)) := ⟨_, rfl⟩
  rw [← HQ.out]
  go_enter Tryz.func13, Tryz.ntmps13
  go_upto_region 1 with fail
  rw [← HW1.out, ← HX.out]
  go_wp2_with fail
  refine HN.out.mono ?_
  rintro e w1 ⟨v', rfl, hO, hb⟩
  have HE : Hid (Q (.returned (.tuple #[v', .int .u8 (c0 : Nat)])) w1) := by
    rw [HQ.out]
    exact ⟨v', rfl, hO.mono HB1.out.size, HB1.out.trans (hb.mono HB1.out.size)⟩
  clear hO hb k0 kl
  go_wp2_with fail
  exact HE.out
set_option maxRecDepth 100000 in
set_option maxHeartbeats 4000000 in
theorem keep_Rest {w : World} {sv bv mv : Value} {s : List Mes} {b : List UInt8} {ws : List (List Int)} (hS : SchemaAt w sv s) (hb : Bytes w bv b) (hl : b.length ≤ 1073741824) (hM : WaysAt w mv ws) (hL : LightW ws) (hL2 : ∀ l ∈ ws, l.length ≤ 1073741824) (root d : Int) :
    Calls Tryz.prog 14 #[sv, .int .i64 root, bv, .int .i64 d, maskV mv] w (KPost w (partsC s root d b ws false)) := by
  unfold maskV
  obtain ⟨X, HX⟩ : ∃ X, Hid (X = w.heap.size) := ⟨_, rfl⟩
  obtain ⟨W1, HW1⟩ : ∃ W1, Hid (W1 = w.alloc (.cells #[mv] 37)) := ⟨_, rfl⟩
  have hb1 : Below w.heap.size w W1 := by rw [HW1.out]; exact (Below.refl _ _).alloc (Nat.le_refl _) _
  have hk1 : Blk W1 X [mv] 37 := by rw [HW1.out, HX.out]; exact Blk.new w [mv] _
  have HN := hid (keep_parts (hS.below hb1) (hb.below hb1) hl (hM.below hb1) hL hL2 root d false)
  unfold maskV at HN
  have HB1 := hid hb1
  obtain ⟨-, sa, sc, rfl, -⟩ := hS.open
  obtain ⟨-, a, c, rfl, -⟩ := hb.open
  obtain ⟨-, ma, mc, rfl, -, -⟩ := hM.open
  obtain ⟨x, HXX⟩ : ∃ x, Hid (x = partsC s root d b ws false) := ⟨_, rfl⟩
  rw [← HXX.out] at HN ⊢
  generalize s.length = sn at *
  generalize b.length = bn at *
  generalize ws.length = mn at *
  have k0 := hk1.cell 0 _ rfl
  have kl := hk1.lt
  clear hS hb hM hL hL2 hl hb1 hk1 HXX
  obtain ⟨c0, l0⟩ := x
  obtain ⟨Q, HQ⟩ : ∃ Q : Ending → World → Prop, Hid (Q = KPost w (c0, l0)) := ⟨_, rfl⟩
  rw [← HQ.out]
  go_enter Tryz.func14, Tryz.ntmps14
  go_upto_region 1 with fail
  rw [← HW1.out, ← HX.out]
  go_wp2_with fail
  refine HN.out.mono ?_
  rintro e w1 ⟨v', rfl, hO, hb⟩
  have HE : Hid (Q (.returned (.tuple #[v', .int .u8 (c0 : Nat)])) w1) := by
    rw [HQ.out]
    exact ⟨v', rfl, hO.mono HB1.out.size, HB1.out.trans (hb.mono HB1.out.size)⟩
  clear hO hb k0 kl
  go_wp2_with fail
  exact HE.out
end Go.Proofs.YtfimpmennkfjcaaGreatDoor
namespace Go.Proofs.YtfimpmennkfjcaaGreatDoor
open Go.RowKit
theorem info_rview : (Tryz.prog.info? 80).map (fun i => (i.zero, i.size, i.bytes)) = some (some (.agg #[.int .i64 0, .int .i64 0, .int .i64 0, .int .i64 0, .int .i64 0, .int .i64 0, .bool false]), 7, 56) := by kernel_rfl
set_option maxRecDepth 100000 in
set_option maxHeartbeats 8000000 in
theorem ref10_All {w : World} {v vf : Value} {l : List UInt8} {fs : List Fld} (h : Bytes w v l) (hl : l.length ≤ 1099511627776) (hf : FieldsAt w vf fs) (nm : ByteArray) :
    Calls Tryz.prog 36 #[.agg #[.string nm, vf], v] w (AllPost w 80 (fun c => .int .i64 (c : Int)) (vall fs l)) := by
  have HLL := hid hl
  obtain ⟨hlen, a, cap, rfl, -, -, -, -⟩ := h.open
  obtain ⟨-, fa, fc, rfl, -⟩ := hf.open
  obtain ⟨n, HN⟩ : ∃ n, Hid (n = l.length) := ⟨_, rfl⟩
  obtain ⟨fn, HFN⟩ : ∃ n, Hid (n = fs.length) := ⟨_, rfl⟩
  rw [← HN.out] at hlen HLL hl h ⊢
  rw [← HFN.out] at hf ⊢
  obtain ⟨w1, HW1⟩ : ∃ w1, Hid (w1 = w.alloc (.cells #[.string nm, .slice fa fn fc] 67)) := ⟨_, rfl⟩
  have hb1 : Below w.heap.size w w1 := by rw [HW1.out]; (repeat (first | with_reducible exact Below.refl _ _ | with_reducible refine Below.setCell ?_ (by first | omega | (simp; omega) | (simp; done)) _ | with_reducible refine Below.alloc ?_ (by first | omega | (simp; omega) | (simp; done)) _ | with_reducible refine below_drewN ?_ _ | with_reducible refine Below.drew ?_))
  have hbx : Blk w1 w.heap.size [.string nm, .slice fa fn fc] 67 := by rw [HW1.out]; exact Blk.new w [.string nm, .slice fa fn fc] _
  have HB1 := hid hb1
  have HBX := hid hbx
  have HV := hid (h.below hb1)
  have HF := hid (hf.below hb1)
  obtain ⟨Q, HQ⟩ : ∃ Q : Ending → World → Prop, Hid (Q = AllPost w 80 (fun c => .int .i64 (c : Int)) (vall fs l)) := ⟨_, rfl⟩
  rw [← HQ.out]
  clear h hf hb1 hbx
  go_enter Tryz.func36, Tryz.ntmps36
  go_wp2_with fail
  rw [← HW1.out]
  go_loopw [7, 8, 9, 10] (fun v7 v8 _ _ wr => ∃ (pre : List VW) (oa : Option Addr) (m oc at' : Nat), v7 = .slice oa m oc ∧ v8 = .int .i64 at' ∧ at' ≤ n ∧ m ≤ at' ∧ Hid (m = pre.length ∧ (∃ fuel, n - at' ≤ fuel ∧ vall fs l = glueV pre (vallGo fs l fuel at')) ∧ Below w1.heap.size w1 wr ∧ RowsOwn viewP 80 7 0 w1.heap.size wr (.slice oa m oc) pre)) (fun _ v8 _ _ _ => n - (intOf v8).toNat)
  case atStart => exact ⟨[], none, 0, 0, 0, rfl, rfl, by omega, by omega, rfl, ⟨l.length, by have := HN.out; omega, by rw [glueV_nil]; rfl⟩, Below.refl _ _, RowsOwn.nil _ _ _ _ _ _⟩
  case round =>
    obtain ⟨pre, oa, m, oc, at', rfl, rfl, hat, hmat, HI⟩ := hrel
    have hbx := HBX.out.below HI.out.2.2.1
    have c0 := hbx.cell 0 _ rfl
    have c1 := hbx.cell 1 _ rfl
    have hsz := hbx.lt
    have HBW : Hid (Below w.heap.size w wr) := HB1.out.trans (HI.out.2.2.1.mono HB1.out.size)
    clear hbx
    by_cases hlt : at' < n
    · obtain ⟨r, k, run, c, HR⟩ : ∃ r k run c, Hid (vlook fs l at' = (r, k, run, c)) := ⟨_, _, _, _, rfl⟩
      have hlk := ref10_Look (HV.out.below HI.out.2.2.1) (HF.out.below HI.out.2.2.1) nm at'
      rw [HR.out] at hlk
      have HLK := hid hlk
      obtain ⟨rn, rw', rs, ra, rt⟩ := r
      simp only [viewV] at HLK
      clear hlk
      by_cases hc : c = 0
      · subst hc
        have hok : at' < rt ∧ rt ≤ n := by
          have := vlook_ok (fs := fs) (l := l) (i := at') (by rw [HR.out])
          rw [HR.out, ← HN.out] at this
          exact ⟨this.2.1, this.2.2.1⟩
        have HST : Hid (∃ fuel, n - rt ≤ fuel ∧ vall fs l = glueV (pre ++ [⟨⟨rn, rw', rs, ra, rt⟩, k, run⟩]) (vallGo fs l fuel rt)) := by
          obtain ⟨fuel, h1, h2⟩ := HI.out.2.1
          obtain ⟨f', rfl⟩ : ∃ f', fuel = f' + 1 := ⟨fuel - 1, by omega⟩
          exact ⟨f', by omega, by rw [h2, glueV_step (by rw [← HN.out]; exact hlt) HR.out]⟩
        go_wp2_with fail
        refine HLK.out.mono ?_
        rintro e w2 ⟨rfl, hb1⟩
        have hb2 := hb1.alloc hb1.size (.cells #[.int .i64 rn, .int .i64 rw', .int .i64 rs, .int .i64 ra, .int .i64 rt, .int .i64 k, .bool run] 80)
        have hk2 := Blk.new w2 [.int .i64 rn, .int .i64 rw', .int .i64 rs, .int .i64 ra, .int .i64 rt, .int .i64 k, .bool run] 80
        have hX : wr.heap.size ≤ w2.heap.size := hb1.size
        generalize hW2 : w2.alloc (.cells #[.int .i64 rn, .int .i64 rw', .int .i64 rs, .int .i64 ra, .int .i64 rt, .int .i64 k, .bool run] 80) = W2 at *
        obtain ⟨X, HX⟩ : ∃ X, Hid (X = w2.heap.size) := ⟨_, rfl⟩
        rw [← HX.out] at hk2 hX
        obtain ⟨a5, c5, w5, hr5, hO5, hB4, hB5, hk5⟩ := RowsOwn.step2 HI.out.2.2.2 hb2 (by decide) (by omega) HI.out.2.2.1.size HI.out.1.symm 74 _ 56 Tryz.underlying74 info_rview rfl #[.int .i64 rn, .int .i64 rw', .int .i64 rs, .int .i64 ra, .int .i64 rt, .int .i64 k, .bool run] rfl (by intro u hu; simp at hu; rcases hu with rfl | rfl | rfl | rfl | rfl | rfl | rfl <;> rfl) ⟨⟨rn, rw', rs, ra, rt⟩, k, run⟩ (fun _ _ => rfl) (by have := HLL.out; omega) (by decide)
        have hkf : Blk w5 X [.int .i64 rn, .int .i64 rw', .int .i64 rs, .int .i64 ra, .int .i64 rt, .int .i64 k, .bool run] 80 := (hk5 X hX hk2.lt).trans hk2
        have HK := hid (And.intro hk2 hkf)
        have HR5 := hid hr5
        have HO5 := hid hO5
        have HB5 : Hid (Below w1.heap.size wr w5) := hB5
        have HWW := hid hW2
        clear hkf hr5 hO5 hB4 hB5 hk5 hb2 hk2 hb1 c0 c1 hsz hW2
        go_upto_region 7 with fail
        rw [HWW.out, ← HX.out]
        have h0 := HK.out.1.cell 0 _ rfl
        have h1 := HK.out.1.cell 1 _ rfl
        have h2 := HK.out.1.cell 2 _ rfl
        have h3 := HK.out.1.cell 3 _ rfl
        have h4 := HK.out.1.cell 4 _ rfl
        have h5 := HK.out.1.cell 5 _ rfl
        have h6 := HK.out.1.cell 6 _ rfl
        have g4 := HK.out.2.cell 4 _ rfl
        go_wp2_with (at_builtin; refine wpList_append_eq rfl _ _ _ rfl _ _ rfl rfl HR5.out ?_)
        go_roundw
        case rel => exact ⟨pre ++ [⟨⟨rn, rw', rs, ra, rt⟩, k, run⟩], _, _, _, rt, rfl, rfl, hok.2, by have := hok.1; omega, by rw [List.length_append, ← HI.out.1]; rfl, HST.out, HI.out.2.2.1.trans HB5.out, HO5.out⟩
        case measure => simp [intOf]; have := hok.1; omega
      · have HE : Hid (vall fs l = ([], at', c)) := by
          obtain ⟨fuel, h1, h2⟩ := HI.out.2.1
          obtain ⟨f', rfl⟩ : ∃ f', fuel = f' + 1 := ⟨fuel - 1, by omega⟩
          rw [Hid, h2, glueV_bad (by rw [← HN.out]; exact hlt) (by rw [HR.out]) hc]
        have hc1 : ((c : Int) != 0) = true := by simp; exact hc
        have hc2 : ((c : Int) == 0) = false := by simp; exact hc
        clear hc
        go_wp2_with fail
        refine HLK.out.mono ?_
        rintro e w2 ⟨rfl, hb1⟩
        have HB2 : Hid (Below w.heap.size w w2) := below_step HBW.out hb1 HBW.out.size
        clear hb1
        go_wp2_with fail
        rw [HQ.out, HE.out]
        go_ret3
        exact ⟨_, w.heap.size, rfl, Nat.le_refl _, RowsOwn.nil _ _ _ _ _ _, HB2.out.alloc HB2.out.size _⟩
    · obtain rfl : at' = n := by omega
      have HE : Hid (vall fs l = (pre, 0, 0)) := by
        obtain ⟨fuel, h1, h2⟩ := HI.out.2.1
        rw [Hid, h2, glueV_end (by rw [← HN.out]; omega)]
      go_wp2_with fail
      rw [HQ.out, HE.out]
      go_ret3
      exact ⟨_, w1.heap.size, rfl, HB1.out.size, HI.out.2.2.2, HBW.out⟩
end Go.Proofs.YtfimpmennkfjcaaGreatDoor
