/- diff.Ways, diff.Paths of two messages (waysC, dpathsC). Bytes of at most 2^30. darninglaw24.alive: true. No condition. Ways, one list behind another one: append(append([][]int{}, x...), y...). At most 2^41 ways. A region that draws its order, with stores and guards: walked in an order of one's own choice (ts: an operation's place, its tag, the slot of its guard). No condition. Plain laws: the codes of a check are below 256 (vcheck_code). No condition. -/
import Derived.Test.YtpckoeicbjfnhaaGreatDoorZ11
import Derived.Test.YtpckoeicbjfnhaaGreatDoorZ17
import Derived.Test.YtpckoeicbjfnhaaGreatDoorZ32
import Derived.Test.YtpckoeicbjfnhaaGreatDoorZ33
import Derived.Test.YtpckoeicbjfnhaaGreatDoorZ35
import Derived.Test.YtpckoeicbjfnhaaGreatDoorZ37
namespace Go.Proofs.YtpckoeicbjfnhaaGreatDoor
open Go.RowKit
/-- where two messages differ, or why that can't be told -/
def waysC (s : List Mes) (root : Int) (a b : List UInt8) (d : Int) : Nat × List (List Int) × Bool :=
  if bothC s root a b d ≠ 0 then (bothC s root a b d, [], false) else treesC s root (d.toNat + 1) (d.toNat + 1) (tof s d.toNat root.toNat a) (tof s d.toNat root.toNat b)
set_option maxRecDepth 100000 in
set_option maxHeartbeats 8000000 in
theorem diff_Ways {w : World} {vs va vb : Value} {s : List Mes} {la lb : List UInt8} (hS : SchemaAt w vs s) (ha : Bytes w va la) (hb : Bytes w vb lb) (hla : la.length ≤ 1073741824) (hlb : lb.length ≤ 1073741824) (root d : Int) :
    Calls Tryz.prog 16 #[vs, .int .i64 root, va, vb, .int .i64 d] w (TreesPost w (waysC s root la lb d)) := by
  obtain ⟨B, HB⟩ : ∃ B, Hid (B = w.heap.size) := ⟨_, rfl⟩
  obtain ⟨W0, HW0⟩ : ∃ W, Hid (W = w.alloc (.cells #[.slice none 0 0] 33)) := ⟨_, rfl⟩
  have hb0 : Below w.heap.size w W0 := by rw [HW0.out]; (repeat (first | with_reducible exact Below.refl _ _ | with_reducible refine Below.setCell ?_ (by first | omega | (simp; omega) | (simp; done)) _ | with_reducible refine Below.alloc ?_ (by first | omega | (simp; omega) | (simp; done)) _ | with_reducible refine below_drewN ?_ _ | with_reducible refine Below.drew ?_))
  have hk0 : Blk W0 B [.slice none 0 0] 33 := by rw [HW0.out, HB.out]; exact Blk.new w [.slice none 0 0] _
  have HBO := hid (diff_both (hS.below hb0) (ha.below hb0) (hb.below hb0) (by omega) (by omega) root d)
  have HBK := hid hk0
  have HB0 := hid hb0
  have HS := hid hS
  obtain ⟨-, sa, sc, rfl, -⟩ := hS.open
  obtain ⟨-, aa, ac, rfl, -⟩ := ha.open
  obtain ⟨-, ba, bc, rfl, -⟩ := hb.open
  obtain ⟨sn, HSN⟩ : ∃ n, Hid (n = s.length) := ⟨_, rfl⟩
  obtain ⟨an, HAN⟩ : ∃ n, Hid (n = la.length) := ⟨_, rfl⟩
  obtain ⟨bn, HBN⟩ : ∃ n, Hid (n = lb.length) := ⟨_, rfl⟩
  rw [← HSN.out] at HBO HS ⊢
  rw [← HAN.out] at HBO ⊢
  rw [← HBN.out] at HBO ⊢
  obtain ⟨Q, HQ⟩ : ∃ Q : Ending → World → Prop, Hid (Q = TreesPost w (waysC s root la lb d)) := ⟨_, rfl⟩
  rw [← HQ.out]
  obtain ⟨z, HZ⟩ : ∃ z, Hid (z = bothC s root la lb d) := ⟨_, rfl⟩
  unfold BothPost at HBO
  rw [← HZ.out] at HBO
  have HMW : Hid (mwt (d.toNat + 1) (tof s d.toNat root.toNat la) + mwt (d.toNat + 1) (tof s d.toNat root.toNat lb) ≤ 1099511627776) := by
    have h1 := tof_weight s d.toNat root.toNat la
    have h2 := tof_weight s d.toNat root.toNat lb
    show _ ≤ _
    omega
  clear hS ha hb hla hlb hb0 hk0
  go_enter Tryz.func16, Tryz.ntmps16
  go_upto_region 1 with fail
  rw [← HW0.out, ← HB.out]
  go_upto_region 2 with (go_at_call 41; refine HBO.out.mono ?_; rintro e w1 ⟨a1, n1, c1, a2, n2, c2, b1, m1, e1, b2, m2, e2, rfl, hb1, hM⟩)
  obtain ⟨W2, HW2⟩ : ∃ W, Hid (W = (w1.alloc (.cells #[.slice a1 n1 c1, .slice a2 n2 c2] 27)).alloc (.cells #[.slice b1 m1 e1, .slice b2 m2 e2] 27)) := ⟨_, rfl⟩
  obtain ⟨X, HX⟩ : ∃ X, Hid (X = w1.heap.size) := ⟨_, rfl⟩
  rw [← HW2.out, ← HX.out]
  have hb12 : Below w1.heap.size w1 W2 := by rw [HW2.out]; (repeat (first | with_reducible exact Below.refl _ _ | with_reducible refine Below.setCell ?_ (by first | omega | (simp; omega) | (simp; done)) _ | with_reducible refine Below.alloc ?_ (by first | omega | (simp; omega) | (simp; done)) _ | with_reducible refine below_drewN ?_ _ | with_reducible refine Below.drew ?_))
  have hkX : Blk W2 X [.slice a1 n1 c1, .slice a2 n2 c2] 27 := by rw [HW2.out, HX.out]; exact (Blk.new w1 [.slice a1 n1 c1, .slice a2 n2 c2] _).alloc _
  have hkY : Blk W2 (X + 1) [.slice b1 m1 e1, .slice b2 m2 e2] 27 := by rw [HW2.out, HX.out]; exact Blk.new' _ [.slice b1 m1 e1, .slice b2 m2 e2] _ _ (by simp)
  have HB02 := hid (hb1.trans (hb12.mono hb1.size))
  have HB2 := hid (HB0.out.trans (HB02.out.mono HB0.out.size))
  have HBB : Hid (w.heap.size ≤ B) := by rw [HB.out]; exact Nat.le_refl _
  by_cases hz : z = 0
  · obtain ⟨hM1, hM2⟩ := hM hz
    obtain ⟨c, HC⟩ : ∃ c, Hid (c = treesC s root (d.toNat + 1) (d.toNat + 1) (tof s d.toNat root.toNat la) (tof s d.toNat root.toNat lb)) := ⟨_, rfl⟩
    have HT := hid (diff_Trees (HS.out.below HB2.out) root (hM1.below hb12) (hM2.below hb12) HMW.out)
    rw [← HC.out] at HT
    have HWC : Hid (waysC s root la lb d = c) := by unfold Hid waysC; rw [if_neg (by rw [← HZ.out]; exact fun h => h hz), HC.out]
    obtain ⟨code, ws, st⟩ := c
    have x0 := hkX.cell 0 _ rfl
    have x1 := hkX.cell 1 _ rfl
    have xl := hkX.lt
    have y0 := hkY.cell 0 _ rfl
    have y1 := hkY.cell 1 _ rfl
    have yl := hkY.lt
    subst hz
    clear hb12 hkX hkY hb1 hM hM1 hM2 HBO
    go_wp2_with (go_at_call 10; refine HT.out.mono ?_; rintro e w3 ⟨v3, rfl, hN3, hb3⟩; obtain ⟨la3, lc3, rfl⟩ : ∃ la3 lc3, v3 = .slice la3 ws.length lc3 := (by obtain ⟨-, la3, lc3, h, -⟩ := hN3.here.open; exact ⟨la3, lc3, h⟩); obtain ⟨ln, HLN⟩ : ∃ n, Hid (n = ws.length) := ⟨_, rfl⟩; rw [← HLN.out] at hN3 ⊢; have HN3 := hid hN3; have HB3 := hid hb3; have hkr := (HBK.out.below HB02.out).below hb3; have r0 := hkr.cell 0 _ rfl; have rf := hkr.free 0; have rl := hkr.lt; clear hN3 hb3 hkr; unfold maskV)
    have HCS : Hid ((w3.setCell ⟨B, 0, none⟩ (.slice la3 ln lc3)).cell? ⟨B, 0, none⟩ = some (.slice la3 ln lc3)) := World.cell?_setCell_same' _ _ _ (by rw [r0]; rfl)
    have HFIN : Hid (Q (.returned (.tuple #[maskV (.slice la3 ln lc3), .bool st, .int .u8 (code : Int)])) (w3.setCell ⟨B, 0, none⟩ (.slice la3 ln lc3))) := by
      rw [HQ.out, HWC.out]
      refine ⟨_, rfl, HN3.out.later HB2.out.size (by rw [World.size_setCell]; exact Nat.le_refl _) (fun b' h1 h2 => Below.heap_setCell _ _ _ b' ?_), (HB2.out.trans (HB3.out.mono HB2.out.size)).setCell HBB.out _⟩
      have h3 := HB02.out.size
      have h4 := HBK.out.lt
      show b' ≠ B
      omega
    exact bodyPost_ret (v := .tuple #[maskV (.slice la3 ln lc3), .bool st, .int .u8 code]) (by simp [results, Tryz.results16, go_sem, maskV, HCS.out]) rfl HFIN.out
  · have e1 : ((z : Int) != 0) = true := by simpa using hz
    have e2 : ((z : Int) == 0) = false := by simpa using hz
    have hkr := HBK.out.below HB02.out
    have r0 := hkr.cell 0 _ rfl
    have rf := hkr.free 0
    have rl := hkr.lt
    have HCS : Hid ((W2.setCell ⟨B, 0, none⟩ (.slice none 0 0)).cell? ⟨B, 0, none⟩ = some (.slice none 0 0)) := World.cell?_setCell_same' _ _ _ (by rw [r0]; rfl)
    have HFIN : Hid (Q (.returned (.tuple #[maskV (.slice none 0 0), .bool false, .int .u8 (z : Int)])) (W2.setCell ⟨B, 0, none⟩ (.slice none 0 0))) := by
      have h3 : Below w.heap.size w (W2.setCell ⟨B, 0, none⟩ (.slice none 0 0)) := HB2.out.setCell HBB.out _
      rw [HQ.out]
      unfold waysC
      rw [if_pos (by rw [← HZ.out]; exact hz), ← HZ.out]
      exact ⟨_, rfl, newWays_nil _ _ h3.size, h3⟩
    clear hb12 hkX hkY hb1 hM HBO hkr
    go_wp2_with fail
    exact bodyPost_ret (v := .tuple #[maskV (.slice none 0 0), .bool false, .int .u8 z]) (by simp [results, Tryz.results16, go_sem, maskV, HCS.out]) rfl HFIN.out
theorem waysC_light {s : List Mes} {root d : Int} {a b : List UInt8} (ha : a.length ≤ 1073741824) (hb : b.length ≤ 1073741824) : (waysC s root a b d).2.1.length ≤ 1099511627776 ∧ ∀ l ∈ (waysC s root a b d).2.1, l.length ≤ 65 := by
  unfold waysC
  split
  · simp
  · rename_i h
    have h := bothC_zero (Classical.not_not.1 h)
    obtain ⟨g1, -, g3, -⟩ := vcheck_ok h.1
    unfold treesC
    rw [if_neg (by rw [g1]; decide)]
    split
    · simp
    · split
      · simp
      · have h1 := tof_weight s d.toNat root.toNat a
        have h2 := tof_weight s d.toNat root.toNat b
        refine ⟨?_, fun l hl => ?_⟩
        · have := diffW_count g1 (d.toNat + 1) (d.toNat + 1) root (tof s d.toNat root.toNat a) (tof s d.toNat root.toNat b)
          simp only
          omega
        · have := diffW_deep (d.toNat + 1) (d.toNat + 1) root (tof s d.toNat root.toNat a) (tof s d.toNat root.toNat b) l hl
          omega
/-- the paths where two messages differ, or why these can't be told -/
def dpathsC (s : List Mes) (root : Int) (a b : List UInt8) (d : Int) : Nat × List (List UInt8) × Bool :=
  if (waysC s root a b d).1 ≠ 0 then ((waysC s root a b d).1, [], false) else ((pathsC s root (waysC s root a b d).2.1).1, (pathsC s root (waysC s root a b d).2.1).2, (waysC s root a b d).2.2)
def DPathsPost (w : World) (c : Nat × List (List UInt8) × Bool) (e : Ending) (w' : World) : Prop :=
  ∃ v', e = .returned (.tuple #[v', .bool c.2.2, .int .u8 (c.1 : Nat)]) ∧ StrsOwn w' w.heap.size v' c.2.1 ∧ Below w.heap.size w w'
set_option maxRecDepth 100000 in
set_option maxHeartbeats 8000000 in
theorem diff_Paths {w : World} {vs va vb : Value} {s : List Mes} {la lb : List UInt8} (hS : SchemaAt w vs s) (ha : Bytes w va la) (hb : Bytes w vb lb) (hla : la.length ≤ 1073741824) (hlb : lb.length ≤ 1073741824) (root d : Int) :
    Calls Tryz.prog 18 #[vs, .int .i64 root, va, vb, .int .i64 d] w (DPathsPost w (dpathsC s root la lb d)) := by
  have HWY := hid (diff_Ways hS ha hb hla hlb root d)
  have HLT := hid (waysC_light (s := s) (root := root) (d := d) hla hlb)
  have HS := hid hS
  obtain ⟨-, sa, sc, rfl, -⟩ := hS.open
  obtain ⟨-, aa, ac, rfl, -⟩ := ha.open
  obtain ⟨-, ba, bc, rfl, -⟩ := hb.open
  obtain ⟨sn, HSN⟩ : ∃ n, Hid (n = s.length) := ⟨_, rfl⟩
  obtain ⟨an, HAN⟩ : ∃ n, Hid (n = la.length) := ⟨_, rfl⟩
  obtain ⟨bn, HBN⟩ : ∃ n, Hid (n = lb.length) := ⟨_, rfl⟩
  rw [← HSN.out] at HWY HS ⊢
  rw [← HAN.out] at HWY ⊢
  rw [← HBN.out] at HWY ⊢
  obtain ⟨Q, HQ⟩ : ∃ Q : Ending → World → Prop, Hid (Q = DPathsPost w (dpathsC s root la lb d)) := ⟨_, rfl⟩
  rw [← HQ.out]
  have HDC : Hid (∀ c, c = waysC s root la lb d → dpathsC s root la lb d = if c.1 ≠ 0 then (c.1, [], false) else ((pathsC s root c.2.1).1, (pathsC s root c.2.1).2, c.2.2)) := by
    rintro c rfl; rfl
  obtain ⟨c, HC⟩ : ∃ c, Hid (c = waysC s root la lb d) := ⟨_, rfl⟩
  have HDC2 := hid (HDC.out c HC.out)
  rw [← HC.out] at HWY HLT
  obtain ⟨code, ws, st⟩ := c
  have HL := HLT.out
  have HLL := hid HL
  clear hS ha hb hla hlb HDC HC HLT HL
  go_enter Tryz.func18, Tryz.ntmps18
  go_upto_region 2 with (go_at_call 16; refine HWY.out.mono ?_; rintro e w1 ⟨v1, rfl, hN1, hb1⟩; obtain ⟨la1, lc1, rfl⟩ : ∃ la1 lc1, v1 = .slice la1 ws.length lc1 := (by obtain ⟨-, la1, lc1, h, -⟩ := hN1.here.open; exact ⟨la1, lc1, h⟩); obtain ⟨ln, HLN⟩ : ∃ n, Hid (n = ws.length) := ⟨_, rfl⟩; rw [← HLN.out] at hN1 ⊢; unfold maskV)
  obtain ⟨W2, HW2⟩ : ∃ W, Hid (W = w1.alloc (.cells #[.slice la1 ln lc1] 33)) := ⟨_, rfl⟩
  obtain ⟨X, HX⟩ : ∃ X, Hid (X = w1.heap.size) := ⟨_, rfl⟩
  rw [← HW2.out, ← HX.out]
  have hb12 : Below w1.heap.size w1 W2 := by rw [HW2.out]; (repeat (first | with_reducible exact Below.refl _ _ | with_reducible refine Below.setCell ?_ (by first | omega | (simp; omega) | (simp; done)) _ | with_reducible refine Below.alloc ?_ (by first | omega | (simp; omega) | (simp; done)) _ | with_reducible refine below_drewN ?_ _ | with_reducible refine Below.drew ?_))
  have hkX : Blk W2 X [.slice la1 ln lc1] 33 := by rw [HW2.out, HX.out]; exact Blk.new w1 [.slice la1 ln lc1] _
  have HB2 := hid (hb1.trans (hb12.mono hb1.size))
  by_cases hz : code = 0
  · subst hz
    have hWA := hN1.here.below hb12
    have HMP := hid (mask_Paths (HS.out.below HB2.out) root hWA ⟨HLL.out.1, fun l hl => by have := HLL.out.2 l hl; omega⟩ fun l hl => by have := HLL.out.2 l hl; omega)
    unfold PathsPost maskV at HMP
    obtain ⟨pc, HPC⟩ : ∃ p, Hid (p = (pathsC s root ws).1) := ⟨_, rfl⟩
    obtain ⟨ps, HPS⟩ : ∃ p, Hid (p = (pathsC s root ws).2) := ⟨_, rfl⟩
    rw [← HPC.out, ← HPS.out] at HMP
    have HD : Hid (dpathsC s root la lb d = (pc, ps, st)) := by
      rw [Hid, HDC2.out, if_neg (fun h => h rfl), HPC.out, HPS.out]
    have x0 := hkX.cell 0 _ rfl
    have xl := hkX.lt
    clear hb12 hkX hb1 hN1 hWA HWY
    go_wp2_with (go_at_call 42; refine HMP.out.mono ?_; rintro e w3 ⟨v3, rfl, hO3, hb3⟩; obtain ⟨pa, pcap, rfl⟩ := hO3.form; obtain ⟨pn, HPN⟩ : ∃ n, Hid (n = ps.length) := ⟨_, rfl⟩; rw [← HPN.out] at hO3 ⊢; have HO3 := hid hO3; have HB3 := hid hb3; clear hO3 hb3)
    have HFIN : Hid (Q (.returned (.tuple #[.slice pa pn pcap, .bool st, .int .u8 (pc : Int)])) w3) := by
      rw [HQ.out, HD.out]
      exact ⟨_, rfl, HO3.out.mono HB2.out.size, HB2.out.trans (HB3.out.mono HB2.out.size)⟩
    go_ret3
    exact HFIN.out
  · have e1 : ((code : Int) != 0) = true := by simpa using hz
    have e2 : ((code : Int) == 0) = false := by simpa using hz
    have HFIN : Hid (Q (.returned (.tuple #[.slice none 0 0, .bool false, .int .u8 (code : Int)])) W2) := by
      rw [HQ.out, HDC2.out, if_pos hz]
      exact ⟨_, rfl, World.ownsRow_nil _ _ _ _, HB2.out⟩
    clear hb12 hkX hb1 hN1 HWY
    go_wp2_with fail
    go_ret3
    exact HFIN.out
end Go.Proofs.YtpckoeicbjfnhaaGreatDoor
namespace Go.Proofs.YtpckoeicbjfnhaaGreatDoor
open Go.RowKit
def s24 : List Mes := [⟨⟨#[109]⟩, [⟨⟨#[97]⟩, 1, 3, false, false, 0⟩]⟩]
theorem differ24 : dpathsC s24 0 [8, 1] [8, 2] 0 = (0, [[97]], false) := by decide +kernel
theorem alike24 : dpathsC s24 0 [8, 1] [8, 1] 0 = (0, [], false) := by decide +kernel
set_option maxRecDepth 100000 in
set_option maxHeartbeats 4000000 in
theorem law24_alive (w : World) : Calls Tryz.prog 7 #[] w fun e w' => e = .returned (.bool true) ∧ Below w.heap.size w w' := by
  obtain ⟨X, HX⟩ : ∃ X, Hid (X = w.heap.size) := ⟨_, rfl⟩
  obtain ⟨W, HW⟩ : ∃ W, Hid (W = ((w.alloc (.cells #[.string ⟨#[97]⟩, .int .i64 1, .int .i64 3, .bool false, .bool false, .int .i64 0] 73)).alloc (.cells #[.string ⟨#[109]⟩, .slice (some ⟨X, 0, none⟩) 1 1] 76))) := ⟨_, rfl⟩
  have hS : SchemaAt W (.slice (some ⟨X + 1, 0, none⟩) 1 1) s24 := by
    rw [HW.out, HX.out]
    refine schema_one (Blk.new' _ [.string ⟨#[109]⟩, .slice (some ⟨w.heap.size, 0, none⟩) 1 1] _ _ (by simp)) (by decide) ?_
    refine fields_blk (Blk.alloc (Blk.new w _ _) _) 1 rfl (by omega) ?_
    intro f hf
    simp at hf
    rcases hf with rfl
    exact ⟨by decide, by decide, by decide, by decide⟩
  have hB : Below w.heap.size w W := by rw [HW.out]; (repeat (first | with_reducible exact Below.refl _ _ | with_reducible refine Below.setCell ?_ (by first | omega | (simp; omega) | (simp; done)) _ | with_reducible refine Below.alloc ?_ (by first | omega | (simp; omega) | (simp; done)) _ | with_reducible refine below_drewN ?_ _ | with_reducible refine Below.drew ?_))
  have HS := hid hS
  have HB := hid hB
  have HBY : Hid (∀ V : World, Bytes ((V.alloc (.cells #[.int .u8 8, .int .u8 1] 5)).alloc (.cells #[.int .u8 8, .int .u8 2] 5)) (.slice (some ⟨V.heap.size, 0, none⟩) 2 2) [8, 1] ∧ Bytes ((V.alloc (.cells #[.int .u8 8, .int .u8 1] 5)).alloc (.cells #[.int .u8 8, .int .u8 2] 5)) (.slice (some ⟨V.heap.size + 1, 0, none⟩) 2 2) [8, 2]) := fun V =>
    ⟨seg_blk (Blk.alloc (Blk.new V ([8, 1].map byteV) 5) _) 1 2 rfl (by omega), seg_blk (Blk.new' _ ([8, 2].map byteV) 5 _ (by simp)) 1 2 rfl (by omega)⟩
  have HBY2 : Hid (∀ V : World, Bytes ((V.alloc (.cells #[.int .u8 8, .int .u8 1] 5)).alloc (.cells #[.int .u8 8, .int .u8 1] 5)) (.slice (some ⟨V.heap.size, 0, none⟩) 2 2) [8, 1] ∧ Bytes ((V.alloc (.cells #[.int .u8 8, .int .u8 1] 5)).alloc (.cells #[.int .u8 8, .int .u8 1] 5)) (.slice (some ⟨V.heap.size + 1, 0, none⟩) 2 2) [8, 1]) := fun V =>
    ⟨seg_blk (Blk.alloc (Blk.new V ([8, 1].map byteV) 5) _) 1 2 rfl (by omega), seg_blk (Blk.new' _ ([8, 1].map byteV) 5 _ (by simp)) 1 2 rfl (by omega)⟩
  have HSTR : Hid (∀ V : World, StrsAt (V.alloc (.cells #[.string ⟨#[97]⟩] 9)) (.slice (some ⟨V.heap.size, 0, none⟩) 1 1) [[97]]) := fun V =>
    ⟨seg_blk (Blk.new V ([[97]].map strV) 9) 1 1 rfl (by omega), by decide⟩
  clear hS hB
  obtain ⟨W1, HW1⟩ : ∃ V, Hid (V = (W.alloc (.cells #[.int .u8 8, .int .u8 1] 5)).alloc (.cells #[.int .u8 8, .int .u8 2] 5)) := ⟨_, rfl⟩
  have hb1 : Below W.heap.size W W1 := by rw [HW1.out]; (repeat (first | with_reducible exact Below.refl _ _ | with_reducible refine Below.setCell ?_ (by first | omega | (simp; omega) | (simp; done)) _ | with_reducible refine Below.alloc ?_ (by first | omega | (simp; omega) | (simp; done)) _ | with_reducible refine below_drewN ?_ _ | with_reducible refine Below.drew ?_))
  have HB1 := hid hb1
  have h1 := HBY.out W
  rw [← HW1.out] at h1
  have HP1 := hid (diff_Paths (HS.out.below hb1) h1.1 h1.2 (by decide) (by decide) 0 0)
  rw [differ24] at HP1
  unfold DPathsPost at HP1
  have HZ : Hid (W.heap.size = X + 1 + 1) := by rw [Hid, HW.out, HX.out]; simp
  clear hb1 h1
  go_enter Tryz.func7, Tryz.ntmps7
  go_upto_region 2 with fail
  rw [← HX.out, ← HW.out]
  go_upto_region 3 with ((try rw [← HW1.out]); go_at_call 18; refine HP1.out.mono ?_; rintro e w2 ⟨v2, rfl, hO2, hb2⟩)
  obtain ⟨la, lc, rfl⟩ := hO2.form
  have HB2 := hid (HB1.out.trans (hb2.mono HB1.out.size))
  have HO2 := hid hO2
  obtain ⟨W3, HW3⟩ : ∃ V, Hid (V = (w2.alloc (.cells #[.int .u8 8, .int .u8 1] 5)).alloc (.cells #[.int .u8 8, .int .u8 1] 5)) := ⟨_, rfl⟩
  have hb3 : Below w2.heap.size w2 W3 := by rw [HW3.out]; (repeat (first | with_reducible exact Below.refl _ _ | with_reducible refine Below.setCell ?_ (by first | omega | (simp; omega) | (simp; done)) _ | with_reducible refine Below.alloc ?_ (by first | omega | (simp; omega) | (simp; done)) _ | with_reducible refine below_drewN ?_ _ | with_reducible refine Below.drew ?_))
  have HB3 := hid hb3
  have HB03 := hid (HB2.out.trans (hb3.mono HB2.out.size))
  have h3 := HBY2.out w2
  rw [← HW3.out] at h3
  have HP3 := hid (diff_Paths (HS.out.below HB03.out) h3.1 h3.2 (by decide) (by decide) 0 0)
  rw [alike24] at HP3
  unfold DPathsPost at HP3
  clear hb2 hO2 hb3 h3
  go_upto_region 4 with ((try rw [← HW3.out]); go_at_call 18; refine HP3.out.mono ?_; rintro e w4 ⟨v4, rfl, hO4, hb4⟩)
  obtain ⟨ma, mc, rfl⟩ := hO4.form
  have HB4 := hid (HB03.out.trans (hb4.mono HB03.out.size))
  have HB34 := hid (HB3.out.trans (hb4.mono HB3.out.size))
  obtain ⟨W5, HW5⟩ : ∃ V, Hid (V = w4.alloc (.cells #[.string ⟨#[97]⟩] 9)) := ⟨_, rfl⟩
  have hb5 : Below w4.heap.size w4 W5 := by rw [HW5.out]; (repeat (first | with_reducible exact Below.refl _ _ | with_reducible refine Below.setCell ?_ (by first | omega | (simp; omega) | (simp; done)) _ | with_reducible refine Below.alloc ?_ (by first | omega | (simp; omega) | (simp; done)) _ | with_reducible refine below_drewN ?_ _ | with_reducible refine Below.drew ?_))
  have h5 := HSTR.out w4
  rw [← HW5.out] at h5
  have HSM := hid (ref12_Same ((HO2.out.later (HB34.out.trans (hb5.mono HB34.out.size))).strs (by decide) (by decide)) h5)
  have HEND := hid (HB.out.trans ((HB4.out.trans (hb5.mono HB4.out.size)).mono HB.out.size))
  clear hb4 hO4 hb5 h5
  go_wp2_with ((try rw [← HW5.out]); go_at_call 26; refine HSM.out.mono ?_; rintro e w6 ⟨rfl, hb6⟩)
  go_ret
  exact ⟨by simp, HEND.out.trans (hb6.mono HEND.out.size)⟩
end Go.Proofs.YtpckoeicbjfnhaaGreatDoor
namespace Go.Proofs.YtpckoeicbjfnhaaGreatDoor
open Go.RowKit
theorem ways_of_vals {w w' : World} {v : Value} (ps : List (WV w)) (hseg : Seg w' v 1 ps.length (ps.map WV.val)) (hk : ∀ p u, w.cell? p = some u → w'.cell? p = some u) : WaysAt w' v (ps.map WV.way) := by
  refine ⟨ps.map fun p => [WV.val p], by simp, by intro r hr; obtain ⟨p, -, rfl⟩ := List.mem_map.1 hr; rfl, ?_, fun i r x hr hx => ?_⟩
  · have e : (ps.map fun p => [WV.val p]).flatten = ps.map WV.val := by
      induction ps with
      | nil => rfl
      | cons p r ih => 
        rw [List.map_cons, List.flatten_cons, List.map_cons]
        rw [show (r.map fun p => [WV.val p]).flatten = r.map WV.val from by
          clear ih hseg
          induction r with
          | nil => rfl
          | cons q t ih2 => rw [List.map_cons, List.flatten_cons, List.map_cons, ih2]; rfl]
        rfl
    rw [e, List.length_map]
    exact hseg
  · rw [List.getElem?_map] at hr hx
    obtain ⟨p, hp, rfl⟩ := Option.map_eq_some_iff.1 hr
    rw [hp] at hx
    cases hx
    exact ⟨_, rfl, p.2.keep hk⟩
theorem ways_two {W : World} {x y : Value} {l m : List (List Int)} (hx : WaysAt W x l) (hy : WaysAt W y m) (hl : l.length + m.length ≤ 4398046511104) :
    ∃ a2 n2 c2 w2, (Builtin.append_ #[31, 31] 31 #[.slice (some ⟨W.heap.size, 0, none⟩) 0 0, x]).run Tryz.prog (W.alloc (.cells #[] 50)) = .ok (.slice a2 n2 c2) w2 ∧ Below W.heap.size W w2 ∧
      ∃ a3 c3 w3, (Builtin.append_ #[31, 31] 31 #[.slice a2 n2 c2, y]).run Tryz.prog w2 = .ok (.slice a3 (l.length + m.length) c3) w3 ∧ WaysAt w3 (.slice a3 (l.length + m.length) c3) (l ++ m) ∧ Below W.heap.size W w3 := by
  have hb1 : Below W.heap.size W (W.alloc (.cells #[] 50)) := (Below.refl _ _).alloc (Nat.le_refl _) _
  obtain ⟨ps, e1, hs1⟩ := hx.pairs
  obtain ⟨qs, e2, hs2⟩ := hy.pairs
  have hp : ps.length = l.length := by rw [← e1, List.length_map]
  have hq : qs.length = m.length := by rw [← e2, List.length_map]
  have hO0 : (W.alloc (.cells #[] 50)).ownsRow W.heap.size 50 1 (.slice (some ⟨W.heap.size, 0, none⟩) 0 0) 0 [] := World.ownsRow_lit W #[] 0 (Nat.le_refl _) (by decide) rfl
  obtain ⟨v2, w2, hr2, hO2, hg2, -⟩ := seg_append (P := Tryz.prog) _ W.heap.size 31 31 50 (.slice none 0 0) 1 24 under_ways info_ints rfl (by decide) _ x 0 ps.length _ _ hO0 (hs1.keep (below_keeps hb1)) (wv_vals_one ps) (by omega) (by omega) hb1.size
  have hb2 : Below W.heap.size W w2 := hb1.grown hg2 hb1.size fun q e => (World.ownsRow.lt hO0 q e).1
  obtain ⟨v3, w3, hr3, hO3, hg3, -⟩ := seg_append (P := Tryz.prog) w2 W.heap.size 31 31 50 (.slice none 0 0) 1 24 under_ways info_ints rfl (by decide) v2 y (0 + ps.length) qs.length _ _ hO2 (hs2.keep (below_keeps hb2)) (wv_vals_one qs) (by omega) (by omega) hb2.size
  have hb3 : Below W.heap.size W w3 := hb2.grown hg3 hb2.size fun q e => (World.ownsRow.lt hO2 q e).1
  have hs3 := row_seg hO3 (by omega)
  rw [List.nil_append, ← List.map_append, Nat.zero_add] at hs3
  have hW3 := ways_of_vals (ps ++ qs) (w' := w3) (v := v3) (by rw [List.length_append]; exact hs3) (below_keeps hb3)
  rw [List.map_append, e1, e2] at hW3
  have hform2 : ∃ a2 n2 c2, v2 = .slice a2 n2 c2 := by
    rcases hO2.2 with ⟨h, -⟩ | ⟨g, cap, cur, h, -⟩
    · exact ⟨_, _, _, h⟩
    · exact ⟨_, _, _, h⟩
  obtain ⟨a2, n2, c2, rfl⟩ := hform2
  have hW3' := hW3
  obtain ⟨-, a3, c3, rfl, -, -⟩ := hW3'.open
  rw [List.length_append] at hr3 hW3
  exact ⟨a2, n2, c2, w2, hr2, hb2, a3, c3, w3, hr3, hW3, hb3⟩
end Go.Proofs.YtpckoeicbjfnhaaGreatDoor
namespace Go.Proofs.YtpckoeicbjfnhaaGreatDoor
open Go.RowKit
variable {P : Program} {ops : Array Oper} {md : Region.Mode} {w : World} {V X : World → Prop} {g : Nat} {Q : Exit → Act → World → Prop}
/-- the guard's value lies in slot d -/
def guardSlot (ops : Array Oper) (k d : Nat) : Bool := match (ops[k]?).bind (·.guard) with
  | some (j, _) => decide ((ops[j]?).bind (·.dst) = some d)
  | none => false
def guardTrue (o : Oper) : Bool := match o.guard with
  | some (_, b) => b
  | none => true
theorem wanted_slot {k d : Nat} {o : Oper} {a : Act} {b : Bool} (hk : ops[k]? = some o) (h : guardSlot ops k d = true) (ht : a.tmps[d]? = some (.bool b)) : Region.wanted o (yielded ops a.tmps) = decide (b = guardTrue o) := by
  unfold guardSlot at h
  rw [hk] at h
  simp only [Option.bind_some] at h
  cases hg : o.guard with
  | none => rw [hg] at h; cases h
  | some p =>
    obtain ⟨j, c⟩ := p
    rw [hg] at h
    have h2 : (ops[j]?).bind (·.dst) = some d := of_decide_eq_true h
    have hy : yielded ops a.tmps j = some b := by
      unfold yielded
      rw [h2]
      simp only [Option.bind_some, ht]
    unfold Region.wanted guardTrue
    rw [hg]
    simp only [hy]
    cases b <;> cases c <;> rfl
/-- tags: 0 quiet by V, 1 quiet by X, 2 alone; guarded: 4 quiet by V, 5 passed over, 6 alone -/
def planH (md : Region.Mode) (ops : Array Oper) (g : Nat) : List (Nat × Nat × Nat) → Array Bool → Bool
  | [], listed => (Region.ready md ops listed).isEmpty
  | (k, t, d) :: ts, listed => (match t with
      | 0 => Region.free md ops listed k && (Region.ready md ops listed).contains k && !(k == g) && ((ops[k]?).map fun o => o.guard.isNone).getD false
      | 1 => Region.free md ops listed k && (Region.ready md ops listed).contains k && !(k == g) && ((ops[k]?).map fun o => o.guard.isNone).getD false && laterB md ops 60 k g
      | 4 => Region.free md ops listed k && (Region.ready md ops listed).contains k && !(k == g) && guardSlot ops k d
      | 5 => Region.free md ops listed k && (Region.ready md ops listed).contains k && !(k == g) && guardSlot ops k d
      | 6 => decide (Region.ready md ops listed = [k]) && (listed.setIfInBounds k true).getD g false && guardSlot ops k d
      | _ => decide (Region.ready md ops listed = [k]) && (listed.setIfInBounds k true).getD g false) && planH md ops g ts (listed.setIfInBounds k true)
def seqH (P : Program) (ops : Array Oper) (Q : Exit → Act → World → Prop) (V X : World → Prop) : List (Nat × Nat) → List Oper → Act → World → Prop
  | (0, _) :: ts, o :: os, a, w => ∃ v, (∀ w, V w → (execOp a.eval o).run P w = .ok (.value v) w) ∧ seqH P ops Q V X ts os (a.put o.dst v) w
  | (1, _) :: ts, o :: os, a, w => ∃ v, (∀ w, X w → (execOp a.eval o).run P w = .ok (.value v) w) ∧ seqH P ops Q V X ts os (a.put o.dst v) w
  | (4, d) :: ts, o :: os, a, w => a.tmps[d]? = some (.bool (guardTrue o)) ∧ ∃ v, (∀ w, V w → (execOp a.eval o).run P w = .ok (.value v) w) ∧ seqH P ops Q V X ts os (a.put o.dst v) w
  | (5, d) :: ts, o :: os, a, w => a.tmps[d]? = some (.bool (!guardTrue o)) ∧ seqH P ops Q V X ts os (a.put o.dst undef) w
  | (6, d) :: ts, o :: os, a, w => a.tmps[d]? = some (.bool (guardTrue o)) ∧ ∀ K : Exit → Act → World → Prop, Hid (∀ a' w', V w' → (V w' → seqH P ops Q V X ts os a' w') → K .normal a' w') → wpList P ops K [{ o with guard := none }] a w
  | _ :: ts, o :: os, a, w => ∀ K : Exit → Act → World → Prop, Hid (∀ a' w', V w' → (V w' → seqH P ops Q V X ts os a' w') → K .normal a' w') → wpList P ops K [o] a w
  | _, _, a, w => Q .normal a w
theorem unguard {o : Oper} {K : Exit → Act → World → Prop} {a : Act} {w : World} (h : wpList P ops K [{ o with guard := none }] a w) (hw : Region.wanted o (yielded ops a.tmps) = true) : wpList P ops K [o] a w := by
  unfold wpList at h ⊢
  rw [if_pos hw]
  rw [if_pos (by rfl)] at h
  exact h
theorem wpAnyG_one' {k : Nat} {o : Oper} {fuel : Nat} {listed : Array Bool} {a : Act} {w : World} {T : Act → World → Prop} (hr : Region.ready md ops listed = [k]) (hk : ops[k]? = some o)
    (hg : (listed.setIfInBounds k true).getD g false = true) (h : ∀ K : Exit → Act → World → Prop, Hid (∀ a' w', V w' → (V w' → T a' w') → K .normal a' w') → wpList P ops K [o] a w)
    (hT : ∀ a' w', V w' → T a' w' → wpAnyG P md ops Q V X g fuel (listed.setIfInBounds k true) a' w') : wpAnyG P md ops Q V X g (fuel + 1) listed a w :=
  wpAnyG_one hr hk hg fun K HK => h K (hid fun a' w' hV hK => HK.out a' w' hV fun hV'' => hT a' w' hV'' (hK hV''))
theorem wpAnyG_permH (hsel : Region.noSelect ops = true) (hQ : ∀ c (a : Act) dst v w, Q (.panic c) (a.put dst v) w → Q (.panic c) a w) (ts : List (Nat × Nat × Nat)) : ∀ (os : List Oper) (listed : Array Bool) (a : Act) (w : World),
    os.map some = ts.map (fun t => ops[t.1]?) → ClosedL md ops listed → planH md ops g ts listed = true → V w → (listed.getD g false = false → X w) → seqH P ops Q V X (ts.map (·.2)) os a w →
    wpAnyG P md ops Q V X g ts.length listed a w := by
  induction ts with
  | nil =>
    intro os listed a w hl _ hB _ _ h
    cases os with
    | nil => exact ⟨by simpa [planH] using hB, h⟩
    | cons o os => simp at hl
  | cons t ts ih =>
    intro os listed a w hl hc hB hV hX h
    cases os with
    | nil => simp at hl
    | cons o os =>
      rw [List.map_cons, List.map_cons] at hl
      obtain ⟨hi0, hl'⟩ := List.cons.inj hl
      clear hl
      obtain ⟨k, tag, d⟩ := t
      have hi : ops[k]? = some o := hi0.symm
      clear hi0
      rw [List.length_cons]
      rw [List.map_cons] at h
      unfold planH at hB
      obtain ⟨hB1, hB2⟩ := (Bool.and_eq_true _ _).mp hB
      clear hB
      have quiet : ∀ v, Region.free md ops listed k = true → (Region.ready md ops listed).contains k = true → k ≠ g → YieldsIf P ops V o v a → seqH P ops Q V X (ts.map (·.2)) os (a.put o.dst v) w → wpAnyG P md ops Q V X g (ts.length + 1) listed a w := fun v h3 h4 h5 hy h => by
        have h4' : k ∈ Region.ready md ops listed := List.contains_iff_mem.1 h4
        refine wpAnyG_first hi (Region.noSelect_spec hsel) (fun c a w h => hQ c _ _ _ w h) h5 V (fun _ _ _ _ hA => hA.1) ts.length listed a w hc (Region.free_spec hi h3) h4' hy ⟨hV, hX⟩ ?_
        exact ih os _ _ w hl' (hc.set h4') hB2 hV (fun h0 => hX (by rw [getD_set_ne false h5] at h0; exact h0)) h
      have alone : Region.ready md ops listed = [k] → (listed.setIfInBounds k true).getD g false = true → (∀ K : Exit → Act → World → Prop, Hid (∀ a' w', V w' → (V w' → seqH P ops Q V X (ts.map (·.2)) os a' w') → K .normal a' w') → wpList P ops K [o] a w) → wpAnyG P md ops Q V X g (ts.length + 1) listed a w := fun h3 h4 h => by
        have h4' : k ∈ Region.ready md ops listed := by rw [h3]; exact List.mem_singleton.2 rfl
        exact wpAnyG_one' h3 hi h4 h fun a' w' hV' hT => ih os _ a' w' hl' (hc.set h4') hB2 hV' (fun h0 => by rw [h4] at h0; cases h0) hT
      match tag, hB1, h with
      | 0, hB1, h =>
        obtain ⟨v, hy, h⟩ := h
        simp only [Bool.and_eq_true, Bool.not_eq_true', beq_eq_false_iff_ne] at hB1
        obtain ⟨⟨⟨h3, h4⟩, h5⟩, h6⟩ := hB1
        rw [hi] at h6
        exact quiet v h3 h4 h5 (Or.inl ⟨wanted_none h6, hy⟩) h
      | 1, hB1, h =>
        obtain ⟨v, hy, h⟩ := h
        simp only [Bool.and_eq_true, Bool.not_eq_true', beq_eq_false_iff_ne] at hB1
        obtain ⟨⟨⟨⟨h3, h4⟩, h5⟩, h6⟩, h8⟩ := hB1
        have h4' : k ∈ Region.ready md ops listed := List.contains_iff_mem.1 h4
        rw [hi] at h6
        refine wpAnyG_first hi (Region.noSelect_spec hsel) (fun c a w h => hQ c _ _ _ w h) h5 X (fun _ _ hc hl hA => hA.2 (later_spec hc 60 k g h8 hl).2) ts.length listed a w hc (Region.free_spec hi h3) h4' (Or.inl ⟨wanted_none h6, hy⟩) ⟨hV, hX⟩ ?_
        exact ih os _ _ w hl' (hc.set h4') hB2 hV (fun h0 => hX (by rw [getD_set_ne false h5] at h0; exact h0)) h
      | 4, hB1, h =>
        obtain ⟨ht, v, hy, h⟩ := h
        simp only [Bool.and_eq_true, Bool.not_eq_true', beq_eq_false_iff_ne] at hB1
        obtain ⟨⟨⟨h3, h4⟩, h5⟩, h6⟩ := hB1
        exact quiet v h3 h4 h5 (Or.inl ⟨by rw [wanted_slot hi h6 ht]; simp, hy⟩) h
      | 5, hB1, h =>
        obtain ⟨ht, h⟩ := h
        simp only [Bool.and_eq_true, Bool.not_eq_true', beq_eq_false_iff_ne] at hB1
        obtain ⟨⟨⟨h3, h4⟩, h5⟩, h6⟩ := hB1
        exact quiet undef h3 h4 h5 (Or.inr ⟨by rw [wanted_slot hi h6 ht]; simp, rfl⟩) h
      | 6, hB1, h =>
        obtain ⟨ht, h⟩ := h
        simp only [Bool.and_eq_true, decide_eq_true_eq] at hB1
        obtain ⟨⟨h3, h4⟩, h6⟩ := hB1
        exact alone h3 h4 fun K HK => unguard (h K HK) (by rw [wanted_slot hi h6 ht]; simp)
      | 2, hB1, h =>
        simp only [Bool.and_eq_true, decide_eq_true_eq] at hB1
        exact alone hB1.1 hB1.2 h
      | 3, hB1, h =>
        simp only [Bool.and_eq_true, decide_eq_true_eq] at hB1
        exact alone hB1.1 hB1.2 h
      | n + 7, hB1, h =>
        simp only [Bool.and_eq_true, decide_eq_true_eq] at hB1
        exact alone hB1.1 hB1.2 h
theorem picksH {l : List Oper} : ∀ ts : List (Nat × Nat × Nat), (ts.all fun t => decide (t.1 < l.length)) = true → (ts.filterMap fun t => l[t.1]?).map some = ts.map fun t => l.toArray[t.1]?
  | [], _ => rfl
  | t :: ts, h => by
    rw [List.all_cons, Bool.and_eq_true] at h
    have h1 : t.1 < l.length := of_decide_eq_true h.1
    have h2 : l[t.1]? = some (l[t.1]'h1) := List.getElem?_eq_getElem h1
    rw [List.filterMap_cons, h2]
    simp only [List.map_cons]
    rw [picksH ts h.2, List.getElem?_toArray, h2]
theorem wp_region_guard {id : Nat} {l : List Oper} {a : Act} {w : World} (V X : World → Prop) (g : Nat) (ts : List (Nat × Nat × Nat)) (hm : P.follows .mixedOrders = true) (hlen : ts.length = l.length)
    (hin : (ts.all fun t => decide (t.1 < l.length)) = true) (hB : (Region.noSelect l.toArray && planH .any l.toArray g ts (Array.replicate l.length false)) = true) (hQ : ∀ c (a : Act) dst v w, Q (.panic c) (a.put dst v) w → Q (.panic c) a w)
    (hV : V w.drew) (hX : X w.drew) (h0 : ∀ ops', Hid (ops' = l.toArray) → seqH P ops' Q V X (ts.map (·.2)) (ts.filterMap fun t => l[t.1]?) a w.drew) : (Code.region id l.toArray true).wp P Q a w := by
  have h := h0 l.toArray (hid rfl)
  rw [Bool.and_eq_true] at hB
  refine wp_region_any hm (wpAny_of_G (V := V) (X := X) (g := g) _ _ _ _ ?_)
  have := wpAnyG_permH (md := .any) (Q := Q) (V := V) (X := X) (P := P) (g := g) hB.1 hQ ts _ (Array.replicate l.length false) a w.drew (picksH ts hin) (fun j oj _ hl => by
    rw [Array.getD_eq_getD_getElem?, Array.getElem?_replicate] at hl
    split at hl <;> cases hl) hB.2 hV (fun _ => hX) h
  rw [hlen] at this
  have e : l.toArray.size = l.length := by simp
  rw [e]
  exact this
theorem seqH0 {d : Nat} {ts : List (Nat × Nat)} {o : Oper} {os : List Oper} {a : Act} {w : World} {v : Value} (hy : ∀ w, V w → (execOp a.eval o).run P w = .ok (.value v) w) (h : seqH P ops Q V X ts os (a.put o.dst v) w) : seqH P ops Q V X ((0, d) :: ts) (o :: os) a w := ⟨v, hy, h⟩
theorem seqH4 {d : Nat} {ts : List (Nat × Nat)} {o : Oper} {os : List Oper} {a : Act} {w : World} {v : Value} (ht : a.tmps[d]? = some (.bool (guardTrue o))) (hy : ∀ w, V w → (execOp a.eval o).run P w = .ok (.value v) w) (h : seqH P ops Q V X ts os (a.put o.dst v) w) : seqH P ops Q V X ((4, d) :: ts) (o :: os) a w := ⟨ht, v, hy, h⟩
theorem seqH5 {d : Nat} {ts : List (Nat × Nat)} {o : Oper} {os : List Oper} {a : Act} {w : World} (ht : a.tmps[d]? = some (.bool (!guardTrue o))) (h : seqH P ops Q V X ts os (a.put o.dst undef) w) : seqH P ops Q V X ((5, d) :: ts) (o :: os) a w := ⟨ht, h⟩
theorem seqH6 {d : Nat} {ts : List (Nat × Nat)} {o : Oper} {os : List Oper} {a : Act} {w : World} (ht : a.tmps[d]? = some (.bool (guardTrue o))) (h : ∀ K : Exit → Act → World → Prop, Hid (∀ a' w', V w' → (V w' → seqH P ops Q V X ts os a' w') → K .normal a' w') → wpList P ops K [{ o with guard := none }] a w) : seqH P ops Q V X ((6, d) :: ts) (o :: os) a w := ⟨ht, h⟩
theorem seqH_end {a : Act} {w : World} (h : Q .normal a w) : seqH P ops Q V X [] [] a w := h
end Go.Proofs.YtpckoeicbjfnhaaGreatDoor
namespace Go.Proofs.YtpckoeicbjfnhaaGreatDoor
open Go.RowKit
theorem vloop_code (rec : Nat → List UInt8 → Nat × Nat) (deep : Bool) (fs : List Fld) (l : List UInt8) (hrec : ∀ o x, (rec o x).2 < 256) : ∀ (k i : Nat), (vloop rec deep fs l k i).2 < 256
  | 0, _ => by rw [vloop]; decide
  | k + 1, i => by
    rw [vloop]
    by_cases hi : l.length ≤ i
    · rw [if_pos hi]; decide
    rw [if_neg hi]
    have hv : (vlook fs l i).2.2.2 < 256 ∧ (vval rec deep fs l (vlook fs l i)).2 < 256 := by
      rcases vlook_cases fs l i with ⟨c, h, e, h2⟩ | ⟨r, h1, h2, h3, h4, -, e | ⟨j, run, -, e, -⟩⟩
      · rw [e]
        refine ⟨h2, ?_⟩
        unfold vval
        rw [if_neg (by simp)]
        simp only [Bool.false_eq_true, if_false]
        split
        · split <;> simp
        · split
          · split
            · simp
            · exact hrec _ _
          · simp
      · rw [e]; exact ⟨by simp, by simp [vval]⟩
      · rw [e]
        refine ⟨by simp, ?_⟩
        unfold vval
        rw [if_neg (by show ¬ ((j : Int) < 0); omega)]
        simp only [Int.toNat_natCast]
        split
        · have := runCount_lt (kwire (fs.getD j .zero).kind) (part l r.at' r.to)
          show (runCount _ _).2 < 256; omega
        · split
          · split <;> simp
          · split
            · split
              · simp
              · exact hrec _ _
            · simp
    by_cases hc : (vlook fs l i).2.2.2 ≠ 0
    · rw [if_pos hc]; exact hv.1
    rw [if_neg hc]
    by_cases hv2 : (vval rec deep fs l (vlook fs l i)).2 ≠ 0
    · rw [if_pos hv2]; exact hv.2
    · rw [if_neg hv2]; exact vloop_code rec deep fs l hrec k _
theorem vmsg_code (s : List Mes) : ∀ (d m : Nat) (l : List UInt8), (vmsg s d m l).2 < 256
  | 0, m, l => vloop_code _ _ _ l (fun _ _ => by decide) _ _
  | d + 1, m, l => vloop_code _ _ _ l (vmsg_code s d) _ _
theorem vcheck_code (s : List Mes) (root : Int) (l : List UInt8) (d : Int) : (vcheck s root l d).2 < 256 := by
  unfold vcheck
  by_cases h : argsCode s root d ≠ 0
  · rw [if_pos h]; have := args_cases s root d; show argsCode s root d < 256; omega
  · rw [if_neg h]; exact vmsg_code _ _ _ _
end Go.Proofs.YtpckoeicbjfnhaaGreatDoor
