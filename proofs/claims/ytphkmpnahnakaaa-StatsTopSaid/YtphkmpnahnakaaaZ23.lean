/- (*stats.book).message: the records of valid bytes, put into the book (evsub, dmsg). At most 2^30 bytes. -/
import Derived.Test.YtphkmpnahnakaaaZ14
import Derived.Test.YtphkmpnahnakaaaZ20
import Derived.Test.YtphkmpnahnakaaaZ21
import Derived.Test.YtphkmpnahnakaaaZ22
import Derived.StillTailTactics
import Derived.BigQuiet
import Derived.Deep.RegionHeld3
import Derived.Deep.CutBlock
import Derived.Deep.CutRange
namespace Go.Proofs.Ytphkmpnahnakaaa
open Go.RowKit Go.Shelf
/-- the cells of views -/
theorem viewsB_at {w : World} {a : Option Addr} {n c base : Nat} {T : TypeId} {l : List VW} (h : RowsOwn viewP T 7 0 base w (.slice a n c) l) (hl : l.length ≤ 140737488355328) (k : Nat) (x : VW) (hk : l[k]? = some x) :
    ∃ b o, a = some ⟨b, o, none⟩ ∧ base ≤ b ∧ b < w.heap.size ∧ ∀ j u, x.cells[j]? = some u → w.cell? ⟨b, o + k * 7 + j, none⟩ = some u := by
  have hown := h.own
  obtain ⟨rows, g1, g2, ⟨-, -, a', cap', he, -, -, -, g3⟩, g4⟩ := h.at hl (w' := w) (fun _ _ _ => rfl)
  have hkl := (List.getElem?_eq_some_iff.1 hk).1
  obtain ⟨r, hr⟩ : ∃ r, rows[k]? = some r := ⟨_, List.getElem?_eq_getElem (by omega)⟩
  have hx : r = x.cells := g4 k r x hr hk
  cases he
  have hfl : ∀ j u, x.cells[j]? = some u → rows.flatten[k * 7 + j]? = some u := by
    intro j u hu
    have hj : j < 7 := by
      have := (List.getElem?_eq_some_iff.1 hu).1
      simpa [VW.cells, viewL] using this
    rw [flatten_get rows k j r g2 hr hj, hx]; exact hu
  obtain ⟨b, o, ha, -⟩ := g3 (k * 7) _ (by simpa using hfl 0 _ (by rfl))
  cases ha
  obtain ⟨h1, h2⟩ := hown b rfl
  refine ⟨b, o, rfl, h1, h2, fun j u hu => ?_⟩
  obtain ⟨b', o', ha', hc⟩ := g3 (k * 7 + j) u (hfl j u hu)
  cases ha'
  rw [Nat.add_assoc]; exact hc
theorem size_vwB (w : World) : (sizeOf 80).run Try.prog w = .ok 7 w := by kernel_rfl
def lenAt (w : World) (K : Nat) : Nat := match w.cell? ⟨K, 2, none⟩ with
  | some (.slice _ n _) => n
  | _ => 0
def MsgB (B1 K r : Nat) (sv : Value) (s : List Mes) (W5 : World) (d : Nat) : Prop := ∀ (G : Nat → Prop) (Wg : World) (m : Nat) (w : World) (bv : Value) (l : List UInt8) (path : ByteArray) (depth : Nat) (t : List SE) (es : List (ByteArray × Value)) (dv : Value) (ds : List Int),
  m < s.length → BookI W5.heap.size B1 K r sv G Wg W5 t (t.length : Nat) none es dv ds w → Bytes W5 bv l → l.length ≤ 1073741824 → (vmsg s d m l).2 = 0 → SmallE (t ++ evsub s (d + 1) (m : Int) l path) → depth ≤ ds.length → depth + d ≤ 1048576 → path.size ≤ 61 * depth → (∀ x ∈ ds, 0 ≤ x ∧ x ≤ (t.length : Nat)) →
  Calls Try.prog 22 #[.pointer (some ⟨K, 0, none⟩), .int .i64 (m : Int), bv, .string path, .int .i64 (depth : Int)] w fun e w' => e = .returned (.tuple #[]) ∧ ∃ es' dv', BookI W5.heap.size B1 K r sv G Wg W5 (t ++ evsub s (d + 1) (m : Int) l path) ((t ++ evsub s (d + 1) (m : Int) l path).length : Nat) none es' dv' (dmsg s (d + 1) (m : Int) l depth ds) w' ∧
    ∀ x ∈ dmsg s (d + 1) (m : Int) l depth ds, 0 ≤ x ∧ x ≤ ((t ++ evsub s (d + 1) (m : Int) l path).length : Nat) + 1
set_option maxRecDepth 100000 in
set_option maxHeartbeats 16000000 in
theorem book_message_step {B1 K r : Nat} {sv : Value} {s : List Mes} {W5 : World} (hs : sright s = true) (hS : SchemaAt W5 sv s) (d : Nat) (hrec : ∀ d', d = d' + 1 → MsgB B1 K r sv s W5 d') : MsgB B1 K r sv s W5 d := by
  intro G Wg m w bv l path depth t es dv ds hm hI hb hl hv hsm hdl hdd hps hds
  have HRE := hid hrec
  have HSR := hid hs
  have HLL := hid hl
  have HSM := hid hsm
  have HDD := hid (And.intro hdd hps)
  obtain ⟨fs, HFS⟩ : ∃ fs, Hid (fs = (s.getD m .zero).fields) := ⟨_, rfl⟩
  obtain ⟨-, sa, sc, rfl, hat⟩ := hS.open
  obtain ⟨sn, HSN⟩ : ∃ n, Hid (n = s.length) := ⟨_, rfl⟩
  obtain ⟨sb, so, fv, hsa, -, c0, c1, hF⟩ := hat m hm
  subst hsa
  rw [← HFS.out] at hF
  have hms := hm
  rw [← HSN.out] at hS HRE hI hm ⊢
  have HMS := hid hms
  obtain ⟨nm, HNM⟩ : ∃ nm, Hid (nm = (s.getD m .zero).name) := ⟨_, rfl⟩
  rw [← HNM.out] at c0
  obtain ⟨-, va, vcap, rfl, -, -, -, -⟩ := hb.open
  obtain ⟨ln, HL⟩ : ∃ n, Hid (n = l.length) := ⟨_, rfl⟩
  rw [← HL.out] at hb hl ⊢
  obtain ⟨hfl, fa, fc, rfl, hfat⟩ := hF.open
  obtain ⟨fn, HFN⟩ : ∃ n, Hid (n = fs.length) := ⟨_, rfl⟩
  rw [← HFN.out] at hF c1 hfat
  obtain ⟨all, HALL⟩ : ∃ all, Hid (all = (vall fs l).1) := ⟨_, rfl⟩
  obtain ⟨zc, HZC⟩ : ∃ z, Hid (z = (vall fs l).2.1) := ⟨_, rfl⟩
  have hok := vall_ok hv
  rw [← HFS.out] at hok
  have hall := hok.1
  have hvs := hok.2
  rw [← HALL.out] at hvs
  have HVS := hid hvs
  obtain ⟨E, HE⟩ : ∃ E : VW → List SE, Hid (E = evV s d fs l path) := ⟨_, rfl⟩
  obtain ⟨DV, HDV⟩ : ∃ D : List Int → VW → List Int, Hid (D = dvV s d fs l depth) := ⟨_, rfl⟩
  have HEV : Hid (evsub s (d + 1) (m : Int) l path = all.flatMap E) := by rw [Hid, evsub_views, HALL.out, HE.out, HFS.out]
  have HDM : Hid (dmsg s (d + 1) (m : Int) l depth ds = all.foldl DV (bumpD ds depth)) := by rw [Hid, dmsg_views, HALL.out, HDV.out, HFS.out]
  obtain ⟨Q, HQ⟩ : ∃ Q : Ending → World → Prop, Hid (Q = fun e w' => e = .returned (.tuple #[]) ∧ ∃ es' dv', BookI W5.heap.size B1 K r (.slice (some ⟨sb, so, none⟩) sn sc) G Wg W5 (t ++ evsub s (d + 1) (m : Int) l path) ((t ++ evsub s (d + 1) (m : Int) l path).length : Nat) none es' dv' (dmsg s (d + 1) (m : Int) l depth ds) w' ∧
    ∀ x ∈ dmsg s (d + 1) (m : Int) l depth ds, 0 ≤ x ∧ x ≤ ((t ++ evsub s (d + 1) (m : Int) l path).length : Nat) + 1) := ⟨_, rfl⟩
  rw [← HQ.out]
  have HA := hid (fun (W : World) (hW : Below W5.heap.size W5 W) => view_All (hb.below hW) (by rw [HL.out] at hl; omega) (hF.below hW) nm)
  have HBY := hid hb
  have HFT := hid (And.intro hF hfat)
  have HC01 := hid (And.intro c0 c1)
  have HALL3 := hid hall
  have HDS := hid hds
  have HI0 := hid hI
  have htl : t.length ≤ 1073741824 := by have := hsm.1; rw [List.length_append] at this; omega
  obtain ⟨T0, HT0⟩ : ∃ n, Hid (n = t.length) := ⟨_, rfl⟩
  rw [← HT0.out] at htl
  obtain ⟨a0, cp0, rfl⟩ := hI.di.form
  obtain ⟨dn, HDN⟩ : ∃ n, Hid (n = ds.length) := ⟨_, rfl⟩
  rw [← HDN.out] at hdl
  have hdd2 : depth ≤ 1048576 := by omega
  clear hI hb hl hsm hdd hps hds hS hs hrec hat hok hall hvs hv c0 c1 hF hfat hfl hms
  go_enter Try.func22, Try.ntmps22
  go_wp2_with fail
  go_loopw [] (fun wr => ∃ (j : Nat) (a : Option Addr) (c : Nat), j ≤ depth + 1 - dn ∧ Hid (BookI W5.heap.size B1 K r (.slice (some ⟨sb, so, none⟩) sn sc) G Wg W5 t (t.length : Nat) none es (.slice a (dn + j) c) (ds ++ List.replicate j 0) wr)) (fun wr => depth + 1 - lenAt wr K)
  case atStart => exact ⟨0, a0, cp0, by omega, hid (by have h := HI0.out; rw [← HDN.out] at h; simpa using h)⟩
  case round =>
    obtain ⟨j, a, c, hj, HJ⟩ := hrel
    have k2 := HJ.out.blk.cell 2 _ rfl
    have kl := HJ.out.blk.lt
    by_cases hlt : dn + j ≤ depth
    · obtain ⟨a7, c7, w7, hr, ⟨y2, yf, yl⟩, hI7⟩ := HJ.out.dpush 0 (by rw [List.length_append, List.length_replicate, ← HDN.out]; omega)
      have hlen : (ds ++ List.replicate j (0 : Int)).length = dn + j := by rw [List.length_append, List.length_replicate, ← HDN.out]
      have hrep : ds ++ List.replicate j (0 : Int) ++ [0] = ds ++ List.replicate (j + 1) 0 := by rw [List.append_assoc, ← List.replicate_succ']
      rw [hlen] at hr hI7
      rw [hrep] at hI7
      have HR7 := hid hr
      have HI7 := hid hI7
      have HM1 : Hid (lenAt wr K = dn + j) := by unfold lenAt; rw [Hid, k2]
      have HM2 : Hid (lenAt (w7.setCell ⟨K, 2, none⟩ (.slice a7 (dn + j + 1) c7)) K = dn + j + 1) := by unfold lenAt; rw [Hid, hI7.blk.cell 2 _ rfl]
      clear hr hI7 hlen hrep
      go_wp2_with (at_builtin; refine wpList_append_eq rfl _ _ _ rfl _ _ rfl rfl HR7.out ?_)
      go_roundw
      case rel => exact ⟨j + 1, a7, c7, by omega, HI7.out⟩
      case measure => rw [HM1.out, HM2.out]; omega
    · have hjj : j = depth + 1 - dn := by omega
      obtain ⟨D1, HD1⟩ : ∃ D, Hid (D = padD ds depth) := ⟨_, rfl⟩
      have hpad : ds ++ List.replicate j (0 : Int) = D1 := by rw [HD1.out, hjj, HDN.out]; rfl
      have hJ := HJ.out
      rw [hpad] at hJ
      have hD1 : D1.length = dn + j := by rw [← hpad, List.length_append, List.length_replicate, ← HDN.out]
      obtain ⟨z, hz⟩ : ∃ z, D1[depth]? = some z := ⟨_, List.getElem?_eq_getElem (by omega)⟩
      have hzb : 0 ≤ z ∧ z ≤ (T0 : Int) := by
        have := padD_mem (ds := ds) (k := depth) (B := (T0 : Int)) (by omega) (fun x hx => by rw [HT0.out]; exact HDS.out x hx) z (by rw [← HD1.out]; exact List.mem_of_getElem? hz)
        exact this
      obtain ⟨g, cg, hdv, u0, uf, ul, hI2⟩ := hJ.dset hz (z + 1)
      obtain ⟨ha, -, hc⟩ := Value.slice.inj hdv
      subst ha
      subst hc
      have hbump : D1.set depth (z + 1) = bumpD ds depth := by
        unfold bumpD
        rw [← HD1.out, List.getD_eq_getElem?_getD, hz]; rfl
      rw [hbump] at hI2
      obtain ⟨D2, HD2⟩ : ∃ D, Hid (D = bumpD ds depth) := ⟨_, rfl⟩
      rw [← HD2.out] at hI2
      have HD2L : Hid (depth + 1 ≤ D2.length) := by rw [Hid, HD2.out, bumpD_len]; omega
      have HD2M : Hid (∀ x ∈ D2, 0 ≤ x ∧ x ≤ (t.length : Int) + 1) := by
        rw [Hid, HD2.out]
        exact bumpD_mem (by omega) HDS.out
      obtain ⟨N1, HN1⟩ : ∃ n, Hid (n = dn + j) := ⟨_, rfl⟩
      have hN1 : depth < N1 := by rw [HN1.out]; omega
      have hix := index_run1 Try.underlying35 size_int (rfl : some (⟨g, 0, none⟩ : Addr) = some ⟨g, 0, none⟩) depth hN1 (cap := c)
      simp only [Nat.zero_add] at hix
      rw [← HN1.out] at k2 hI2
      obtain ⟨W2, HW2⟩ : ∃ W, Hid (W = wr.setCell ⟨g, depth, none⟩ (.int .i64 (z + 1))) := ⟨_, rfl⟩
      rw [← HW2.out] at hI2
      have hgt : (depth : Int) < (N1 : Int) := by omega
      have HI2 := hid hI2
      clear hJ hpad hD1 hz hdv hbump hI2 HJ hlt hj hjj hN1
      go_upto_region 3 with fail
      rw [← HW2.out]
      clear k2 kl u0 uf ul hix hzb hgt
      have hb2 := HI2.out.below
      have k0 := HI2.out.blk.cell 0 _ rfl
      have kl := HI2.out.blk.lt
      have hk2 := below_keeps hb2
      have c0 := hk2 _ _ HC01.out.1
      have c1 := hk2 _ _ HC01.out.2
      have hixs := index_run Try.underlying23 size_mes rfl m hm (a := some ⟨sb, so, none⟩) (cap := sc)
      have hsl2 := World.block_lt_of_cell? W2 _ c1
      have HB2 := hid hb2
      clear hb2 hk2
      go_wp2_with fail
      refine (HA.out _ HB2.out).mono ?_
      rintro e w4 ⟨av, ab, rfl, hab, hrows, hb4⟩
      rw [← HALL.out] at hrows
      rw [← HZC.out, HALL3.out]
      obtain ⟨aa, ac, rfl⟩ := hrows.form
      obtain ⟨an, HAN⟩ : ∃ n, Hid (n = all.length) := ⟨_, rfl⟩
      have hanl : an ≤ 1073741824 := by
        have h1 : all.length ≤ l.length := by rw [HALL.out]; exact vall_len fs l
        have := HAN.out
        have := HLL.out
        omega
      rw [← HAN.out] at hrows ⊢
      have hI4 := HI2.out.widen hb4 (fun b => (Value.slice aa an ac).ownBlock = some b) (fun b hb => by have := hrows.own b hb; omega)
      obtain ⟨G', HG'⟩ : ∃ G' : Nat → Prop, Hid (G' = fun b => G b ∨ (Value.slice aa an ac).ownBlock = some b) := ⟨_, rfl⟩
      rw [← HG'.out] at hI4
      have HNAR : Hid (∀ b, G b → G' b ∧ w4.heap[b]? = Wg.heap[b]?) := fun b hb => ⟨by rw [HG'.out]; exact .inl hb, ((HI2.out.later hb4).keep b hb).2⟩
      have HVIEW : Hid (∀ (k : Nat) (x : VW), all[k]? = some x → ∃ vb vo, aa = some ⟨vb, vo, none⟩ ∧ G' vb ∧ ∀ j u, x.cells[j]? = some u → w4.cell? ⟨vb, vo + k * 7 + j, none⟩ = some u) := fun k x hx => by
        obtain ⟨vb, vo, h1, -, -, h4⟩ := viewsB_at hrows (by rw [← HAN.out]; omega) k x hx
        exact ⟨vb, vo, h1, by rw [HG'.out]; exact .inr (by rw [h1]; rfl), h4⟩
      have HI4 := hid hI4
      clear hI4 hrows hab hb4 k0 kl c0 c1 hixs hsl2 HA HI2 HB2
      go_wp2_with fail
      go_loopw [58] (fun v58 wr => ∃ (k : Nat) (es : List (ByteArray × Value)) (dv : Value), v58 = .int .i64 (k : Int) ∧ k ≤ an ∧ Hid (BookI W5.heap.size B1 K r (.slice (some ⟨sb, so, none⟩) sn sc) G' w4 W5 (t ++ (all.take k).flatMap E) ((t ++ (all.take k).flatMap E).length : Nat) none es dv ((all.take k).foldl DV D2) wr ∧ ∀ x ∈ (all.take k).foldl DV D2, 0 ≤ x ∧ x ≤ ((t ++ (all.take k).flatMap E).length : Nat) + 1)) (fun v58 _ => an - (intOf v58).toNat)
      case atStart => exact ⟨0, es, _, rfl, by omega, hid ⟨by simpa using HI4.out, by simpa using HD2M.out⟩⟩
      case round =>
        obtain ⟨k, es1, dv1, rfl, hk, HJ⟩ := hrel
        by_cases hlk : k < an
        · obtain ⟨x, hx⟩ : ∃ x, all[k]? = some x := ⟨_, List.getElem?_eq_getElem (by rw [← HAN.out]; exact hlk)⟩
          obtain ⟨vb, vo, haa, hgv, hvc⟩ := HVIEW.out k x hx
          subst haa
          have hvok := HVS.out x (List.mem_of_getElem? hx)
          obtain ⟨hv1, hv2, hv3, hvk⟩ := hvok.facts
          have hkr : ∀ j u, w4.cell? ⟨vb, j, none⟩ = some u → wr.cell? ⟨vb, j, none⟩ = some u := fun j u hu => (World.cell?_of_block (HJ.out.1.keep vb hgv).2).trans hu
          have n0 := hkr _ _ (hvc 0 _ rfl)
          have n1 := hkr _ _ (hvc 1 _ rfl)
          have n2 := hkr _ _ (hvc 2 _ rfl)
          have n3 := hkr _ _ (hvc 3 _ rfl)
          have n4 := hkr _ _ (hvc 4 _ rfl)
          have n5 := hkr _ _ (hvc 5 _ rfl)
          have n6 := hkr _ _ (hvc 6 _ rfl)
          rw [Nat.add_zero] at n0
          have HTK : Hid (t ++ (all.take (k + 1)).flatMap E = (t ++ (all.take k).flatMap E) ++ E x ∧ (all.take (k + 1)).foldl DV D2 = DV ((all.take k).foldl DV D2) x) := by
            rw [Hid, List.take_add_one, hx, Option.toList_some, List.flatMap_append, List.foldl_append, List.append_assoc]
            exact ⟨by simp, rfl⟩
          have HTS : Hid (SmallE (t ++ (all.take (k + 1)).flatMap E)) := by
            have h := HSM.out
            rw [HEV.out, ← List.take_append_drop (k + 1) all, List.flatMap_append, ← List.append_assoc] at h
            exact h.left
          obtain ⟨TK, HTKN⟩ : ∃ TK, Hid (TK = t ++ (all.take k).flatMap E) := ⟨_, rfl⟩
          obtain ⟨DK, HDKN⟩ : ∃ DK, Hid (DK = (all.take k).foldl DV D2) := ⟨_, rfl⟩
          have HDKL : Hid (depth + 1 ≤ DK.length) := by rw [Hid, HDKN.out, HDV.out]; exact dfold_low s d fs l depth _ _ HD2L.out
          rw [← HTKN.out, ← HDKN.out] at HJ HTK
          have HVOK := hid hvok
          obtain ⟨x0, HX0⟩ : ∃ x0, Hid (x0 = x) := ⟨_, rfl⟩
          rw [← HX0.out] at HTK HVOK
          obtain ⟨⟨x1, x2, x3, x4, x5⟩, xk, xrun⟩ := x
          simp only at n0 n1 n2 n3 n4 n5 n6 hv1 hv2 hv3 hvk
          have hvl : vb < wr.heap.size := World.block_lt_of_cell? wr _ n0
          have hix := index_run Try.underlying74 size_vwB rfl k hlk (a := some ⟨vb, vo, none⟩) (cap := ac)
          obtain ⟨W6, HW6⟩ : ∃ W6, Hid (W6 = wr.alloc (.cells #[.int .i64 x1, .int .i64 x2, .int .i64 x3, .int .i64 x4, .int .i64 x5, .int .i64 xk, .bool xrun] 80)) := ⟨_, rfl⟩
          obtain ⟨VB, HVB⟩ : ∃ VB, Hid (VB = wr.heap.size) := ⟨_, rfl⟩
          have hb6 : Below wr.heap.size wr W6 := by rw [HW6.out]; exact (Below.refl _ _).alloc (Nat.le_refl _) _
          have hv6 : Blk W6 VB [.int .i64 x1, .int .i64 x2, .int .i64 x3, .int .i64 x4, .int .i64 x5, .int .i64 xk, .bool xrun] 80 := by rw [HW6.out, HVB.out]; exact Blk.new wr [.int .i64 x1, .int .i64 x2, .int .i64 x3, .int .i64 x4, .int .i64 x5, .int .i64 xk, .bool xrun] _
          have hI6 := HJ.out.1.widen hb6 (fun b => b = VB) (fun b hb => by rw [hb]; exact ⟨by rw [HVB.out]; exact Nat.le_refl _, hv6.lt⟩)
          obtain ⟨G2, HG2⟩ : ∃ G2 : Nat → Prop, Hid (G2 = fun b => G' b ∨ b = VB) := ⟨_, rfl⟩
          rw [← HG2.out] at hI6
          have HNAR2 : Hid (∀ b, G' b → G2 b ∧ W6.heap[b]? = w4.heap[b]?) := fun b hb => ⟨by rw [HG2.out]; exact .inl hb, (hb6.block b (HJ.out.1.keep b hb).1).trans (HJ.out.1.keep b hb).2⟩
          have HGV : Hid (G2 VB) := by rw [Hid, HG2.out]; exact .inr rfl
          have HI6 := hid hI6
          have HV6 := hid hv6
          have HMEM := hid HJ.out.2
          have HXK : Hid (x0.k = xk ∧ (part l x0.r.start x0.r.to) = part l x3 x5 ∧ part l x0.r.at' x0.r.to = part l x4 x5 ∧ vbytes l x0 = part l x4 x5) := by rw [HX0.out]; exact ⟨rfl, rfl, rfl, rfl⟩
          have HVD := hid (And.intro hv1 (And.intro hv2 hv3))
          rw [← HFS.out] at hvk
          have HVK := hid hvk
          obtain ⟨NM, HNMX⟩ : ∃ NM, Hid (NM = nameOf fs xk) := ⟨_, rfl⟩
          have HNS : Hid (1 ≤ NM.size ∧ NM.size ≤ 60) := by
            rw [Hid, HNMX.out, ← HXK.out.1, HFS.out]
            exact nameOf_size HSR.out HMS.out HVOK.out
          obtain ⟨HERE, HHERE⟩ : ∃ p, Hid (p = underS path NM) := ⟨_, rfl⟩
          clear hvc hx hvok hkr hgv hb6 hv6 hI6 HJ hv1 hv2 hv3 hvk
          go_upto_if 64 with fail
          rw [← HW6.out, ← HVB.out]
          clear n0 n1 n2 n3 n4 n5 n6 hix hvl
          have d5 := HV6.out.cell 5 _ rfl
          have dl := HV6.out.lt
          have hb6 := HI6.out.below
          have hk6 := below_keeps hb6
          have HB6 := hid hb6
          go_cut [15] from 65 to 77 (fun s15 wx => s15 = .string NM ∧ Hid (Below W6.heap.size W6 wx))
          case first =>
            by_cases hneg : xk < 0
            · have HE1 : Hid (NM = ⟨#[63]⟩) := by rw [Hid, HNMX.out]; unfold nameOf; rw [if_pos hneg]
              clear hb6 hk6
              go_wp2_with fail
              go_meet
              case rel => exact ⟨by rw [HE1.out], Below.refl _ _⟩
            · obtain ⟨q, rfl, hq⟩ : ∃ q : Nat, xk = q ∧ q < fs.length := by
                rcases HVK.out with ⟨h, -⟩ | ⟨q, h1, h2, -⟩
                · omega
                · exact ⟨q, h1, h2⟩
              obtain ⟨f, HF⟩ : ∃ f, Hid (f = fs.getD q .zero) := ⟨_, rfl⟩
              have HE1 : Hid (NM = f.name) := by rw [Hid, HNMX.out, HF.out]; unfold nameOf; rw [if_neg (by omega), Int.toNat_natCast]
              have hqn : q < fn := by rw [HFN.out]; exact hq
              obtain ⟨fb, fo, hfb, -, g0, -⟩ := HFT.out.2 q hqn
              subst hfb
              rw [← HF.out] at g0
              replace g0 := hk6 _ _ g0
              have c1 := hk6 _ _ HC01.out.2
              have k0 := HI6.out.blk.cell 0 _ rfl
              have kl := HI6.out.blk.lt
              have hixs := index_run Try.underlying23 size_mes rfl m hm (a := some ⟨sb, so, none⟩) (cap := sc)
              have hixf := index_run Try.underlying45 size_fld rfl q hqn (a := some ⟨fb, fo, none⟩) (cap := fc)
              have hgl := World.block_lt_of_cell? W6 _ g0
              have hsl6 := World.block_lt_of_cell? W6 _ c1
              clear hb6 hk6
              go_upto_region 9 with fail
              go_quiet (fail)
              have HB9 := hid (below_drewN (Below.refl W6.heap.size W6) nq)
              clear g0 c1 k0 kl hixs hixf hgl hsl6 d5 dl
              go_wp2_with fail
              go_meet
              case rel => exact ⟨by rw [HE1.out], HB9.out⟩
          case rest =>
          obtain ⟨rfl, HC⟩ := hcut
          have HI8 := hid (HI6.out.later HC.out)
          clear d5 dl hb6 hk6
          go_wp2_with fail
          refine (stats_under _ _ _ (by have := HDD.out; have := HNS.out; omega)).mono ?_
          rintro e w8 ⟨rfl, rfl⟩
          rw [← HHERE.out]
          go_wp2_with fail
          refine (book_row HI8.out HERE).mono ?_
          rintro e w9 ⟨rb, es9, rfl, hg9, hI9⟩
          have hV9 : Blk w9 VB [.int .i64 x1, .int .i64 x2, .int .i64 x3, .int .i64 x4, .int .i64 x5, .int .i64 xk, .bool xrun] 80 := ((hI9.keep VB HGV.out).2).trans HV6.out
          obtain ⟨rb', erb, hr1, hr2, hr3, hRow⟩ := hI9.rows HERE _ hg9
          obtain rfl : rb = rb' := by injection erb with e; injection e with e; injection e
          have hrv : rb ≠ VB := fun e => hr2 (by rw [e]; exact HGV.out)
          have hst : SmallE TK := by have h := HTS.out; rw [HTK.out.1] at h; exact h.left
          obtain ⟨hb1, hb2, hb3⟩ := small_le hst HERE
          obtain ⟨C1, HC1⟩ : ∃ n, Hid (n = cntE TK HERE) := ⟨_, rfl⟩
          obtain ⟨Y1, HY1⟩ : ∃ n, Hid (n = bytE TK HERE) := ⟨_, rfl⟩
          obtain ⟨V1, HV1⟩ : ∃ n, Hid (n = valE TK HERE) := ⟨_, rfl⟩
          unfold rowC at hRow
          rw [← HC1.out, ← HY1.out, ← HV1.out] at hRow
          rw [← HC1.out] at hb1
          rw [← HY1.out] at hb2
          rw [← HV1.out] at hb3
          obtain ⟨hv1, hv2, hv3⟩ := HVD.out
          have hv4 : x5 ≤ 1073741824 := by have := HLL.out; omega
          obtain ⟨e, HEE⟩ : ∃ e : SE, Hid (e = ⟨HERE, (part l x3 x5).length, (part l x4 x5).length⟩) := ⟨_, rfl⟩
          obtain ⟨W12, HW12⟩ : ∃ W, Hid (W = ((w9.setCell ⟨rb, 1, none⟩ (.int .i64 ((C1 : Int) + 1))).setCell ⟨rb, 2, none⟩ (.int .i64 ((Y1 : Int) + x5 - x3))).setCell ⟨rb, 3, none⟩ (.int .i64 ((V1 : Int) + x5 - x4))) := ⟨_, rfl⟩
          have hI12 : BookI W5.heap.size B1 K r (.slice (some ⟨sb, so, none⟩) sn sc) G2 W6 W5 (TK ++ [e]) (TK.length : Nat) none es9 dv1 DK W12 := by
            have h := hI9.add (e := e) (by rw [HEE.out]) hg9
            have e1 : ((bytE TK HERE : Nat) : Int) + (e.bytes : Nat) = (Y1 : Int) + x5 - x3 := by
              rw [HEE.out]
              show ((bytE TK HERE : Nat) : Int) + ((part l x3 x5).length : Nat) = _
              rw [part_len l _ _ (by omega) (by omega), ← HY1.out]
              omega
            have e2 : ((valE TK HERE : Nat) : Int) + (e.vals : Nat) = (V1 : Int) + x5 - x4 := by
              rw [HEE.out]
              show ((valE TK HERE : Nat) : Int) + ((part l x4 x5).length : Nat) = _
              rw [part_len l _ _ (by omega) (by omega), ← HV1.out]
              omega
            rw [e1, e2, ← HC1.out, ← HW12.out] at h
            exact h
          have p1 := hRow.cell 1 _ rfl
          have p2 := hRow.cell 2 _ rfl
          have p3 := hRow.cell 3 _ rfl
          have f1 := hRow.free 1
          have f2 := hRow.free 2
          have f3 := hRow.free 3
          have rl := hRow.lt
          have d2 := hV9.cell 2 _ rfl
          have d3 := hV9.cell 3 _ rfl
          have d4 := hV9.cell 4 _ rfl
          have dl := hV9.lt
          have HI12 := hid hI12
          have HV9 := hid hV9
          have HRV := hid hrv
          have HRL : Hid (rb < w9.heap.size) := rl
          clear hI12 hRow hI9 hr1 hr2 hr3 erb hst hV9 hg9
          go_upto_region 12 with fail
          go_cut [] from 84 to 121 (fun wx => Hid (wx = W12.drew))
          case first =>
            clear HI12 HV9 HRV HRL HSR HLL HSM HDD HFS HRE HMS HNM HL HFN HALL HZC HVS HE HDV HEV HDM HQ HBY HFT HC01 HALL3 HDS HI0 HT0 HDN HD1 HD2 HD2L HD2M HN1 HW2 HAN HG' HNAR HVIEW HI4 HTK HTS HTKN HDKN HDKL HVOK HX0 HW6 HVB HG2 HNAR2 HGV HI6 HV6 HMEM HXK HVD HVK HNMX HNS HHERE HB6 HC HI8 HC1 HY1 HV1 HEE HSN
            have q0 : w9.drew.cell? ⟨VB, 2, none⟩ = some (.int .i64 (x3 : Int)) ∧ w9.drew.cell? ⟨VB, 3, none⟩ = some (.int .i64 (x4 : Int)) ∧ w9.drew.cell? ⟨VB, 4, none⟩ = some (.int .i64 (x5 : Int)) := ⟨d2, d3, d4⟩
            have q1 : w9.drew.cell? ⟨rb, 1, none⟩ = some (.int .i64 (C1 : Int)) ∧ w9.drew.cell? ⟨rb, 2, none⟩ = some (.int .i64 (Y1 : Int)) ∧ w9.drew.cell? ⟨rb, 3, none⟩ = some (.int .i64 (V1 : Int)) := ⟨p1, p2, p3⟩
            have hvr : VB ≠ rb := fun e => hrv e.symm
            have HWR : Hid (IntKind.i64.wrap ((C1 : Int) + 1) = (C1 : Int) + 1 ∧ IntKind.i64.wrap ((Y1 : Int) + x5) = (Y1 : Int) + x5 ∧ IntKind.i64.wrap ((Y1 : Int) + x5 - x3) = (Y1 : Int) + x5 - x3 ∧ IntKind.i64.wrap ((V1 : Int) + x5) = (V1 : Int) + x5 ∧ IntKind.i64.wrap ((V1 : Int) + x5 - x4) = (V1 : Int) + x5 - x4) :=
              ⟨IntWalk.i64_in _ (by omega), IntWalk.i64_in _ (by omega), IntWalk.i64_in _ (by omega), IntWalk.i64_in _ (by omega), IntWalk.i64_in _ (by omega)⟩
            as_aux_lemma =>
              refine wp_region_seq (fun w' => w'.cell? ⟨VB, 2, none⟩ = some (.int .i64 (x3 : Int)) ∧ w'.cell? ⟨VB, 3, none⟩ = some (.int .i64 (x4 : Int)) ∧ w'.cell? ⟨VB, 4, none⟩ = some (.int .i64 (x5 : Int))) (fun w' => w'.cell? ⟨rb, 1, none⟩ = some (.int .i64 (C1 : Int)) ∧ w'.cell? ⟨rb, 2, none⟩ = some (.int .i64 (Y1 : Int)) ∧ w'.cell? ⟨rb, 3, none⟩ = some (.int .i64 (V1 : Int))) 34 [0, 0, 0, 0, 0, 0, 1, 0, 0, 0, 0, 1, 0, 0, 0, 0, 0, 0, 0, 0, 0, 0, 0, 1, 0, 0, 0, 0, 0, 0, 0, 0, 0, 0, 2, 0, 0, 2, 0, 0, 2] (by kernel_rfl) rfl (by kernel_rfl) (fun _ _ dst _ _ h => by cases dst <;> exact h) q0 q1 (fun OPS _ => ?_)
              refine seqG0 (v := ?v0) ?hy0 ?hr0
              case hy0 => (intro w hw; go_simp; all_goals rfl)
              simp only [Act.put, List.setIfInBounds_toArray, List.set_cons_zero, List.set_cons_succ]
              refine seqG0 (v := ?v1) ?hy1 ?hr1
              case hy1 => (intro w hw; go_simp; all_goals rfl)
              simp only [Act.put, List.setIfInBounds_toArray, List.set_cons_zero, List.set_cons_succ]
              refine seqG0 (v := ?v2) ?hy2 ?hr2
              case hy2 => (intro w hw; go_simp; all_goals rfl)
              simp only [Act.put, List.setIfInBounds_toArray, List.set_cons_zero, List.set_cons_succ]
              refine seqG0 (v := ?v3) ?hy3 ?hr3
              case hy3 => (intro w hw; go_simp; all_goals rfl)
              simp only [Act.put, List.setIfInBounds_toArray, List.set_cons_zero, List.set_cons_succ]
              refine seqG0 (v := ?v4) ?hy4 ?hr4
              case hy4 => (intro w hw; go_simp; all_goals rfl)
              simp only [Act.put, List.setIfInBounds_toArray, List.set_cons_zero, List.set_cons_succ]
              refine seqG0 (v := ?v5) ?hy5 ?hr5
              case hy5 => (intro w hw; go_simp; all_goals rfl)
              simp only [Act.put, List.setIfInBounds_toArray, List.set_cons_zero, List.set_cons_succ]
              refine seqG1 (v := ?v6) ?hy6 ?hr6
              case hy6 => (intro w hw; go_simp; all_goals rfl)
              simp only [Act.put, List.setIfInBounds_toArray, List.set_cons_zero, List.set_cons_succ]
              refine seqG0 (v := ?v7) ?hy7 ?hr7
              case hy7 => (intro w hw; go_simp; all_goals rfl)
              simp only [Act.put, List.setIfInBounds_toArray, List.set_cons_zero, List.set_cons_succ]
              refine seqG0 (v := ?v8) ?hy8 ?hr8
              case hy8 => (intro w hw; go_simp; all_goals rfl)
              simp only [Act.put, List.setIfInBounds_toArray, List.set_cons_zero, List.set_cons_succ]
              refine seqG0 (v := ?v9) ?hy9 ?hr9
              case hy9 => (intro w hw; go_simp; all_goals rfl)
              simp only [Act.put, List.setIfInBounds_toArray, List.set_cons_zero, List.set_cons_succ]
              refine seqG0 (v := ?v10) ?hy10 ?hr10
              case hy10 => (intro w hw; go_simp; all_goals rfl)
              simp only [Act.put, List.setIfInBounds_toArray, List.set_cons_zero, List.set_cons_succ]
              refine seqG1 (v := ?v11) ?hy11 ?hr11
              case hy11 => (intro w hw; go_simp; all_goals rfl)
              simp only [Act.put, List.setIfInBounds_toArray, List.set_cons_zero, List.set_cons_succ]
              refine seqG0 (v := ?v12) ?hy12 ?hr12
              case hy12 => (intro w hw; go_simp; all_goals rfl)
              simp only [Act.put, List.setIfInBounds_toArray, List.set_cons_zero, List.set_cons_succ]
              refine seqG0 (v := ?v13) ?hy13 ?hr13
              case hy13 => (intro w hw; go_simp; all_goals rfl)
              simp only [Act.put, List.setIfInBounds_toArray, List.set_cons_zero, List.set_cons_succ]
              refine seqG0 (v := ?v14) ?hy14 ?hr14
              case hy14 => (intro w hw; go_simp; all_goals rfl)
              simp only [Act.put, List.setIfInBounds_toArray, List.set_cons_zero, List.set_cons_succ]
              refine seqG0 (v := ?v15) ?hy15 ?hr15
              case hy15 => (intro w hw; go_simp; all_goals rfl)
              simp only [Act.put, List.setIfInBounds_toArray, List.set_cons_zero, List.set_cons_succ]
              refine seqG0 (v := ?v16) ?hy16 ?hr16
              case hy16 => (intro w hw; go_simp; all_goals rfl)
              simp only [Act.put, List.setIfInBounds_toArray, List.set_cons_zero, List.set_cons_succ]
              refine seqG0 (v := ?v17) ?hy17 ?hr17
              case hy17 => (intro w hw; go_simp; all_goals rfl)
              simp only [Act.put, List.setIfInBounds_toArray, List.set_cons_zero, List.set_cons_succ]
              refine seqG0 (v := ?v18) ?hy18 ?hr18
              case hy18 => (intro w hw; go_simp; all_goals rfl)
              simp only [Act.put, List.setIfInBounds_toArray, List.set_cons_zero, List.set_cons_succ]
              refine seqG0 (v := ?v19) ?hy19 ?hr19
              case hy19 => (intro w hw; go_simp; all_goals rfl)
              simp only [Act.put, List.setIfInBounds_toArray, List.set_cons_zero, List.set_cons_succ]
              refine seqG0 (v := ?v20) ?hy20 ?hr20
              case hy20 => (intro w hw; go_simp; all_goals rfl)
              simp only [Act.put, List.setIfInBounds_toArray, List.set_cons_zero, List.set_cons_succ]
              refine seqG0 (v := ?v21) ?hy21 ?hr21
              case hy21 => (intro w hw; go_simp; all_goals rfl)
              simp only [Act.put, List.setIfInBounds_toArray, List.set_cons_zero, List.set_cons_succ]
              refine seqG0 (v := ?v22) ?hy22 ?hr22
              case hy22 => (intro w hw; go_simp; all_goals rfl)
              simp only [Act.put, List.setIfInBounds_toArray, List.set_cons_zero, List.set_cons_succ]
              refine seqG1 (v := ?v23) ?hy23 ?hr23
              case hy23 => (intro w hw; go_simp; all_goals rfl)
              simp only [Act.put, List.setIfInBounds_toArray, List.set_cons_zero, List.set_cons_succ]
              refine seqG0 (v := ?v24) ?hy24 ?hr24
              case hy24 => (intro w hw; go_simp; all_goals rfl)
              simp only [Act.put, List.setIfInBounds_toArray, List.set_cons_zero, List.set_cons_succ]
              refine seqG0 (v := ?v25) ?hy25 ?hr25
              case hy25 => (intro w hw; go_simp; all_goals rfl)
              simp only [Act.put, List.setIfInBounds_toArray, List.set_cons_zero, List.set_cons_succ]
              refine seqG0 (v := ?v26) ?hy26 ?hr26
              case hy26 => (intro w hw; go_simp; all_goals rfl)
              simp only [Act.put, List.setIfInBounds_toArray, List.set_cons_zero, List.set_cons_succ]
              refine seqG0 (v := ?v27) ?hy27 ?hr27
              case hy27 => (intro w hw; go_simp; all_goals rfl)
              simp only [Act.put, List.setIfInBounds_toArray, List.set_cons_zero, List.set_cons_succ]
              refine seqG0 (v := ?v28) ?hy28 ?hr28
              case hy28 => (intro w hw; go_simp; all_goals rfl)
              simp only [Act.put, List.setIfInBounds_toArray, List.set_cons_zero, List.set_cons_succ]
              refine seqG0 (v := ?v29) ?hy29 ?hr29
              case hy29 => (intro w hw; go_simp; all_goals rfl)
              simp only [Act.put, List.setIfInBounds_toArray, List.set_cons_zero, List.set_cons_succ]
              refine seqG0 (v := ?v30) ?hy30 ?hr30
              case hy30 => (intro w hw; go_simp; all_goals rfl)
              simp only [Act.put, List.setIfInBounds_toArray, List.set_cons_zero, List.set_cons_succ]
              refine seqG0 (v := ?v31) ?hy31 ?hr31
              case hy31 => (intro w hw; go_simp; all_goals rfl)
              simp only [Act.put, List.setIfInBounds_toArray, List.set_cons_zero, List.set_cons_succ]
              refine seqG0 (v := ?v32) ?hy32 ?hr32
              case hy32 => (intro w hw; go_simp; all_goals rfl)
              simp only [Act.put, List.setIfInBounds_toArray, List.set_cons_zero, List.set_cons_succ]
              refine seqG0 (v := ?v33) ?hy33 ?hr33
              case hy33 => (intro w hw; go_simp; all_goals rfl)
              simp only [Act.put, List.setIfInBounds_toArray, List.set_cons_zero, List.set_cons_succ]
              refine seqG2 (fun K12 HK12 => ?_)
              go_wp2_with fail
              refine HK12.out _ _ (by go_keep) ?_
              clear HK12 K12
              intro q0
              refine seqG0 (v := ?v35) ?hy35 ?hr35
              case hy35 => (intro w hw; go_simp; all_goals rfl)
              simp only [Act.put, List.setIfInBounds_toArray, List.set_cons_zero, List.set_cons_succ]
              refine seqG0 (v := ?v36) ?hy36 ?hr36
              case hy36 => (intro w hw; go_simp; all_goals rfl)
              simp only [Act.put, List.setIfInBounds_toArray, List.set_cons_zero, List.set_cons_succ]
              refine seqG2 (fun K12 HK12 => ?_)
              go_wp2_with fail
              refine HK12.out _ _ (by go_keep) ?_
              clear HK12 K12
              intro q0
              refine seqG0 (v := ?v38) ?hy38 ?hr38
              case hy38 => (intro w hw; go_simp; all_goals rfl)
              simp only [Act.put, List.setIfInBounds_toArray, List.set_cons_zero, List.set_cons_succ]
              refine seqG0 (v := ?v39) ?hy39 ?hr39
              case hy39 => (intro w hw; go_simp; all_goals rfl)
              simp only [Act.put, List.setIfInBounds_toArray, List.set_cons_zero, List.set_cons_succ]
              refine seqG2 (fun K12 HK12 => ?_)
              go_wp2_with fail
              refine HK12.out _ _ (by go_keep) ?_
              clear HK12 K12
              intro q0
              change Exit.then _ _ .normal _ _
              go_wp2_with fail
              go_meet
              case rel => exact (show _ = _ by rw [HW12.out])
          case rest =>
          obtain rfl : wc = W12.drew := hcut.out
          clear p1 p2 p3 f1 f2 f3 rl d2 d3 d4 dl hb1 hb2 hb3 hv4 hrv
          obtain ⟨WD, HWD⟩ : ∃ W, Hid (W = W12.drew) := ⟨_, rfl⟩
          rw [← HWD.out]
          have hID := HI12.out.later (show Below W12.heap.size W12 WD by rw [HWD.out]; exact (Below.refl _ _).drew)
          obtain ⟨T1, HT1⟩ : ∃ n, Hid (n = TK.length) := ⟨_, rfl⟩
          have ht1 : T1 ≤ 1073741824 := by
            have h := HTS.out.1
            rw [HTK.out.1, List.length_append] at h
            rw [HT1.out]
            omega
          rw [← HT1.out] at hID
          have k3 := hID.blk.cell 3 _ rfl
          have kf := hID.blk.free 3
          have kl := hID.blk.lt
          have hC := hID.count ((T1 : Int) + 1)
          obtain ⟨W13, HW13⟩ : ∃ W, Hid (W = WD.setCell ⟨K, 3, none⟩ (.int .i64 ((T1 : Int) + 1))) := ⟨_, rfl⟩
          rw [← HW13.out] at hC
          have hlen : ((T1 : Int) + 1) = ((TK ++ [e]).length : Nat) := by rw [List.length_append, List.length_singleton, HT1.out]; rfl
          rw [hlen] at hC
          have hV13 : Blk W13 VB [.int .i64 x1, .int .i64 x2, .int .i64 x3, .int .i64 x4, .int .i64 x5, .int .i64 xk, .bool xrun] 80 := ((hC.keep VB HGV.out).2).trans HV6.out
          have HC13 := hid hC
          have HV13 := hid hV13
          clear hC hV13 hID hlen
          go_upto_region 14 with fail
          rw [← HW13.out]
          clear k3 kf kl ht1
          have d5 := HV13.out.cell 5 _ rfl
          have dl := HV13.out.lt
          have HDKM : Hid (∀ x ∈ DK, 0 ≤ x ∧ x ≤ ((TK ++ [e]).length : Nat)) := fun x hx => by
            have := HMEM.out x hx
            rw [List.length_append, List.length_singleton]
            omega
          by_cases hsub : 0 ≤ xk ∧ (fs.getD xk.toNat .zero).kind = 17
          · obtain ⟨hs0, hs17⟩ := hsub
            obtain ⟨q, rfl, hq⟩ : ∃ q : Nat, xk = q ∧ q < fs.length := by
              rcases HVK.out with ⟨h, -⟩ | ⟨q, h1, h2, -⟩
              · omega
              · exact ⟨q, h1, h2⟩
            rw [Int.toNat_natCast] at hs17
            obtain ⟨f, HF⟩ : ∃ f, Hid (f = fs.getD q .zero) := ⟨_, rfl⟩
            rw [← HF.out] at hs17
            have hqn : q < fn := by rw [HFN.out]; exact hq
            obtain ⟨fb, fo, hfb, -, -, -, g2, -, -, g5⟩ := HFT.out.2 q hqn
            subst hfb
            rw [← HF.out] at g2 g5
            have hofb := (sright_field HSR.out m HMS.out f (by rw [HF.out, HFS.out]; exact getD_memS _ _ _ (by rw [← HFS.out]; exact hq))).2.1 hs17
            obtain ⟨o, ho⟩ : ∃ o : Nat, f.of = o := ⟨_, (Int.toNat_of_nonneg hofb.1).symm⟩
            rw [hs17] at g2
            rw [ho] at g5 hofb
            obtain ⟨d', rfl, hvm⟩ := HVOK.out.sub (k := q) HXK.out.1 (by rw [← HFS.out, ← HF.out]; exact hs17)
            rw [← HFS.out, ← HF.out, ho, Int.toNat_natCast, HXK.out.2.2.2] at hvm
            have HEX : Hid (E x0 = [e] ++ evsub s (d' + 1) (o : Int) (part l x4 x5) HERE ∧ DV DK x0 = dmsg s (d' + 1) (o : Int) (part l x4 x5) (depth + 1) DK) := by
              have h := evV_sub (s := s) (d := d' + 1) (fs := fs) (l := l) (p := path) (x := x0) (by rw [HXK.out.1, Int.toNat_natCast, ← HF.out]; exact ⟨by omega, hs17⟩) depth DK
              rw [HXK.out.1, Int.toNat_natCast, ← HF.out, ho, HXK.out.2.1, HXK.out.2.2.1, ← HNMX.out, ← HHERE.out, ← HEE.out, ← HE.out, ← HDV.out] at h
              exact h
            have hkw := below_keeps HC13.out.below
            have c1 := hkw _ _ HC01.out.2
            replace g2 := hkw _ _ g2
            replace g5 := hkw _ _ g5
            have k0 := HC13.out.blk.cell 0 _ rfl
            have kl := HC13.out.blk.lt
            have hixs := index_run Try.underlying23 size_mes rfl m hm (a := some ⟨sb, so, none⟩) (cap := sc)
            have hixf := index_run Try.underlying45 size_fld rfl q hqn (a := some ⟨fb, fo, none⟩) (cap := fc)
            have hgl := World.block_lt_of_cell? W13 _ g2
            have hsl6 := World.block_lt_of_cell? W13 _ c1
            clear hkw hofb
            have HOL : Hid (o < s.length) := by
              have := (sright_field HSR.out m HMS.out f (by rw [HF.out, HFS.out]; exact getD_memS _ _ _ (by rw [← HFS.out]; exact hq))).2.1 hs17
              rw [ho] at this
              rw [Hid]
              omega
            have e0 : decide (0 ≤ (q : Int)) = true := decide_eq_true (by omega)
            go_quiet (fail)
            clear e0
            obtain ⟨W14, HW14⟩ : ∃ W, Hid (W = W13.drewN nq) := ⟨_, rfl⟩
            rw [← HW14.out]
            have hb14 : Below W13.heap.size W13 W14 := by rw [HW14.out]; exact below_drewN (Below.refl _ _) _
            have hkw := below_keeps hb14
            replace c1 := hkw _ _ c1
            replace g5 := hkw _ _ g5
            replace k0 := hkw _ _ k0
            have kl := Nat.lt_of_lt_of_le kl hb14.size
            have hgl := Nat.lt_of_lt_of_le hgl hb14.size
            have hsl6 := Nat.lt_of_lt_of_le hsl6 hb14.size
            have hV14 := HV13.out.below hb14
            have d3 := hV14.cell 3 _ rfl
            have d4 := hV14.cell 4 _ rfl
            have d5 := hV14.cell 5 _ rfl
            have dl := hV14.lt
            have hcap : ln ≤ vcap := by obtain ⟨_, _, a', c', e', h3, _⟩ := HBY.out; cases e'; exact h3
            obtain ⟨hv1, hv2, hv3⟩ := HVD.out
            have hsl2 := slice_lh_run under_bytes size_u8 va ln vcap x4 x5 (by omega) (by have := HL.out; omega)
            have hxb2 := Bytes.sub HBY.out HL.out x4 x5 (by omega) (by rw [HL.out]; omega)
            obtain ⟨sv2, HSV2⟩ : ∃ sv, Hid (sliced va x4 x5 vcap 1 = sv) := ⟨_, rfl⟩
            rw [HSV2.out] at hsl2 hxb2
            obtain ⟨ya, yn, yc, rfl⟩ : ∃ a n c, sv2 = .slice a n c := ⟨_, _, _, HSV2.out.symm⟩
            have hp2 : (part l x4 x5).length ≤ 1073741824 := by have := HLL.out; rw [part_len l _ _ (by omega) (by omega)]; omega
            have hsmx : SmallE ((TK ++ [e]) ++ evsub s (d' + 1) (o : Int) (part l x4 x5) HERE) := by
              have h := HTS.out
              rw [HTK.out.1, HEX.out.1, ← List.append_assoc] at h
              exact h
            have hpsz : HERE.size ≤ 61 * (depth + 1) := by
              have h1 := HDD.out.2
              have h2 := HNS.out
              rw [HHERE.out]
              unfold underS
              split
              · omega
              · rw [ByteArray.size_append, ByteArray.size_append]
                have : (⟨#[46]⟩ : ByteArray).size = 1 := rfl
                omega
            have hrecc := (HRE.out d' rfl G2 W6 o W14.drew _ (part l x4 x5) HERE (depth + 1) (TK ++ [e]) es9 dv1 DK HOL.out ((HC13.out.later hb14).later (Below.refl _ _).drew) hxb2 hp2 hvm hsmx HDKL.out (by have := HDD.out.1; omega) hpsz HDKM.out)
            rw [show ((depth + 1 : Nat) : Int) = (depth : Int) + 1 from rfl] at hrecc
            have HREC := hid hrecc
            clear hrecc
            have HB14 := hid hb14
            clear hb14 hkw hV14 hxb2 hp2 hvm hsmx hpsz hcap g2
            have hdd4 : depth ≤ 1048576 := by have := HDD.out.1; omega
            go_upto_region 15 with fail
            go_still_tail 25, (by kernel_rfl)
            change wpList _ _ _ _ _ W14.drew
            go_wp2_with fail
            refine HREC.out.mono ?_
            rintro e2 w15 ⟨rfl, es15, dv15, hI15, hm15⟩
            have HEND15 := hid (And.intro (hI15.narrow HNAR2.out) hm15)
            clear hI15 hm15 HREC k0 kl c1 g5 d3 d4 d5 dl hgl hsl6 hixs hixf hsl2
            go_wp2_with fail
            go_roundw
            case rel =>
              refine ⟨k + 1, es15, dv15, by go_num, hlk, ?_⟩
              rw [HTK.out.1, HTK.out.2, HEX.out.1, HEX.out.2, ← List.append_assoc]
              exact HEND15
            case measure => simp [intOf]; omega
          · have HEX : Hid (E x0 = [e] ∧ DV DK x0 = DK) := by
              have h := evV_none (s := s) (d := d) (fs := fs) (l := l) (p := path) (x := x0) (by rw [HXK.out.1]; exact hsub) depth DK
              rw [HXK.out.1, HXK.out.2.1, HXK.out.2.2.1, ← HNMX.out, ← HHERE.out, ← HEE.out, ← HE.out, ← HDV.out] at h
              exact h
            have HEND : Hid (∀ j : Nat, BookI W5.heap.size B1 K r (.slice (some ⟨sb, so, none⟩) sn sc) G' w4 W5 (TK ++ [e]) ((TK ++ [e]).length : Nat) none es9 dv1 DK (W13.drewN j) ∧ ∀ x ∈ DK, 0 ≤ x ∧ x ≤ ((TK ++ [e]).length : Nat) + 1) := fun j =>
              ⟨(HC13.out.later (below_drewN (Below.refl W13.heap.size W13) j)).narrow HNAR2.out, fun x hx => by have := HDKM.out x hx; omega⟩
            by_cases hneg : xk < 0
            · have e0 : decide (0 ≤ xk) = false := decide_eq_false (by omega)
              go_quiet (fail)
              have HEW := hid (HEND.out nq)
              clear d5 dl e0
              go_wp2_with fail
              go_roundw
              case rel =>
                refine ⟨k + 1, es9, dv1, by go_num, hlk, ?_⟩
                rw [HTK.out.1, HTK.out.2, HEX.out.1, HEX.out.2]
                exact HEW
              case measure => simp [intOf]; omega
            · obtain ⟨q, rfl, hq⟩ : ∃ q : Nat, xk = q ∧ q < fs.length := by
                rcases HVK.out with ⟨h, -⟩ | ⟨q, h1, h2, -⟩
                · omega
                · exact ⟨q, h1, h2⟩
              rw [Int.toNat_natCast] at hsub
              obtain ⟨f, HF⟩ : ∃ f, Hid (f = fs.getD q .zero) := ⟨_, rfl⟩
              rw [← HF.out] at hsub
              have hqn : q < fn := by rw [HFN.out]; exact hq
              obtain ⟨fb, fo, hfb, -, -, -, g2, -⟩ := HFT.out.2 q hqn
              subst hfb
              rw [← HF.out] at g2
              have e1 : ((f.kind : Int) == 17) = false := by
                have : ¬ f.kind = 17 := fun h => hsub ⟨by omega, h⟩
                simpa using this
              have hkw := below_keeps HC13.out.below
              have c1 := hkw _ _ HC01.out.2
              replace g2 := hkw _ _ g2
              have k0 := HC13.out.blk.cell 0 _ rfl
              have kl := HC13.out.blk.lt
              have hixs := index_run Try.underlying23 size_mes rfl m hm (a := some ⟨sb, so, none⟩) (cap := sc)
              have hixf := index_run Try.underlying45 size_fld rfl q hqn (a := some ⟨fb, fo, none⟩) (cap := fc)
              have hgl := World.block_lt_of_cell? W13 _ g2
              have hsl6 := World.block_lt_of_cell? W13 _ c1
              have e0 : decide (0 ≤ (q : Int)) = true := decide_eq_true (by omega)
              clear hkw hsub
              go_quiet (fail)
              have HEW := hid (HEND.out nq)
              clear d5 dl e0 e1 c1 g2 k0 kl hixs hixf hgl hsl6
              go_wp2_with fail
              go_roundw
              case rel =>
                refine ⟨k + 1, es9, dv1, by go_num, hlk, ?_⟩
                rw [HTK.out.1, HTK.out.2, HEX.out.1, HEX.out.2]
                exact HEW
              case measure => simp [intOf]; omega
        · obtain rfl : k = an := by omega
          have HE1 : Hid (Q (.returned (.tuple #[])) wr) := by
            have h := HJ.out
            rw [List.take_of_length_le (by rw [← HAN.out]; exact Nat.le_refl _)] at h
            rw [HQ.out]
            refine ⟨rfl, es1, dv1, ?_, ?_⟩
            · rw [HEV.out, HDM.out, ← HD2.out]
              exact h.1.narrow HNAR.out
            · rw [HEV.out, HDM.out, ← HD2.out]
              exact h.2
          go_wp2_with fail
          exact bodyPost_end (results_none rfl _ _ _) rfl HE1.out
theorem book_message {B1 K r : Nat} {sv : Value} {s : List Mes} {W5 : World} (hs : sright s = true) (hS : SchemaAt W5 sv s) : ∀ d, MsgB B1 K r sv s W5 d
  | 0 => book_message_step hs hS 0 fun _ h => by omega
  | d + 1 => book_message_step hs hS (d + 1) fun d' h => by
    have e : d = d' := by omega
    subst e
    exact book_message hs hS d
end Go.Proofs.Ytphkmpnahnakaaa
