/- darninglaw27.of: a sheet as the document has it, deep enough. Sheets of a right size (ShFit). -/
import Derived.Test.YtbcpeckmnmhfhaaGreatZ44
namespace Go.Proofs.YtbcpeckmnmhfhaaGreat
open Go.RowKit Go.Shelf
def OfSh (d : Nat) : Prop := ∀ (w : World) (v : Value) (x : Sh d) (deep : Int), ShAt d w v x → ShFit d x → (d : Int) ≤ deep + 1 → deep ≤ 1000 →
  Calls Tryz.prog 15 #[v, .int .i64 deep] w fun e w' => ∃ v', e = .returned v' ∧ Below w.heap.size w w' ∧ Apart 0 w.heap.size w' fun w2 => RShAt d w2 v' x
theorem RShAt.form : ∀ {d : Nat} {w : World} {v : Value} {x : Sh d}, RShAt d w v x → ∃ g k a n c a1 n1 c1 a2 n2 c2, v = .agg #[.int .u64 g, .int .u64 k, .slice a n c, .slice a1 n1 c1, .slice a2 n2 c2]
  | 0, _, _, _, h => h.elim
  | d + 1, w, v, x, h => by
    obtain ⟨nv, dv, sv, rfl, h1, h2, h3⟩ := h
    obtain ⟨-, a, c, rfl, -⟩ := h1.open
    obtain ⟨-, a1, c1, rfl, -⟩ := h2.open
    obtain ⟨-, a2, c2, rfl, -⟩ := h3.open (by decide)
    exact ⟨_, _, _, _, _, _, _, _, _, _, _, rfl⟩
set_option maxRecDepth 100000 in
set_option maxHeartbeats 16000000 in
theorem of27_step {d : Nat} (hrec : OfSh d) : OfSh (d + 1) := by
  intro w v x deep hx hfit hd hdeep
  obtain ⟨pb, lv, rfl, hB, hL⟩ := hx
  obtain ⟨hl1, hl2⟩ := hfit
  obtain ⟨dg, HDG⟩ : ∃ n, Hid (n = Shd.dig x) := ⟨_, rfl⟩
  obtain ⟨uk, HUK⟩ : ∃ n, Hid (n = Shd.unk x) := ⟨_, rfl⟩
  rw [← HDG.out, ← HUK.out] at hB
  obtain ⟨ls, HLS⟩ : ∃ l, Hid (l = Shd.lines x) := ⟨_, rfl⟩
  rw [← HLS.out] at hL hl1 hl2
  obtain ⟨-, la, lc, rfl, hat⟩ := lines_open hL
  obtain ⟨n, HN⟩ : ∃ n, Hid (n = ls.length) := ⟨_, rfl⟩
  rw [← HN.out] at hB hl1
  have HAT := hid hat
  have HB0 := hid hB
  have HL2 := hid hl2
  have HRE := hid hrec
  obtain ⟨Q, HQ⟩ : ∃ Q : Ending → World → Prop, Hid (Q = fun e w' => ∃ v', e = .returned v' ∧ Below w.heap.size w w' ∧ Apart 0 w.heap.size w' fun w2 => RShAt (d + 1) w2 v' x) := ⟨_, rfl⟩
  rw [← HQ.out]
  obtain ⟨R, HR⟩ : ∃ R, Hid (R = w.heap.size) := ⟨_, rfl⟩
  obtain ⟨W1, HW1⟩ : ∃ W1, Hid (W1 = w.alloc (.cells #[.int .u64 0, .int .u64 0, .slice none 0 0, .slice none 0 0, .slice none 0 0] 49)) := ⟨_, rfl⟩
  have hb1 : Below w.heap.size w W1 := by rw [HW1.out]; exact (Below.refl _ _).alloc (Nat.le_refl _) _
  have hr1 : Blk W1 R [.int .u64 0, .int .u64 0, .slice none 0 0, .slice none 0 0, .slice none 0 0] 49 := by rw [HW1.out, HR.out]; exact Blk.new w [.int .u64 0, .int .u64 0, .slice none 0 0, .slice none 0 0, .slice none 0 0] _
  have hB1 := hB.below hb1
  have q0 := And.intro (show W1.drew.cell? ⟨pb, 0, none⟩ = some (.int .u64 (dg : Int)) from hB1.cell 0 _ rfl) (show W1.drew.cell? ⟨pb, 1, none⟩ = some (.int .u64 (uk : Int)) from hB1.cell 1 _ rfl)
  have k0 : W1.cell? ⟨pb, 0, none⟩ = some (.int .u64 (dg : Int)) ∧ W1.cell? ⟨pb, 1, none⟩ = some (.int .u64 (uk : Int)) := ⟨hB1.cell 0 _ rfl, hB1.cell 1 _ rfl⟩
  have ql := hB1.lt
  have HB1 := hid hb1
  have HR1 := hid hr1
  have HDEEP := hid (And.intro hd hdeep)
  have e0 : decide (deep < 0) = false := decide_eq_false (by omega)
  clear hat hB hL hl2 hrec hb1 hr1 hB1 hd hdeep
  go_enter Tryz.func15, Tryz.ntmps15
  go_upto_region 3 with fail
  clear e0
  rw [← HW1.out, ← HR.out]
  go_region_held3 (fun w' => w'.cell? ⟨pb, 0, none⟩ = some (.int .u64 (dg : Int)) ∧ w'.cell? ⟨pb, 1, none⟩ = some (.int .u64 (uk : Int))) (first | (with_reducible exact q0) | (refine (fun (hb : Below W1.heap.size W1 _) => ⟨below_keeps hb _ _ k0.1, below_keeps hb _ _ k0.2⟩) ?_; (repeat (first | with_reducible exact Below.refl _ _ | with_reducible refine Below.setCell ?_ (by first | omega | (simp; omega) | (simp; done)) _ | with_reducible refine Below.alloc ?_ (by first | omega | (simp; omega) | (simp; done)) _ | with_reducible refine below_drewN ?_ _ | with_reducible refine Below.drew ?_)))) (fail)
  clear q0
  obtain ⟨O, HO⟩ : ∃ O, Hid (O = W1.heap.size) := ⟨_, rfl⟩
  obtain ⟨W4, HW4⟩ : ∃ W, Hid (W = (W1.alloc (.cells #[.int .u64 (dg : Int), .int .u64 (uk : Int), .slice none 0 0, .slice none 0 0, .slice none 0 0] 49)).drew) := ⟨_, rfl⟩
  rw [← HW4.out, ← HO.out]
  have ho4 : Blk W4 O [.int .u64 (dg : Int), .int .u64 (uk : Int), .slice none 0 0, .slice none 0 0, .slice none 0 0] 49 := by rw [HW4.out, HO.out]; exact Blk.new W1 [.int .u64 (dg : Int), .int .u64 (uk : Int), .slice none 0 0, .slice none 0 0, .slice none 0 0] _
  have hb14 : Below W1.heap.size W1 W4 := by rw [HW4.out]; exact ((Below.refl _ _).alloc (Nat.le_refl _) _).drew
  have HB14 := hid hb14
  have HB4 := hid (HB1.out.trans (hb14.mono HB1.out.size))
  have HRO : Hid (w.heap.size = R ∧ R < O) := ⟨HR.out.symm, by rw [HO.out]; exact HR1.out.lt⟩
  have HJ0 : Hid (O3 d O dg uk W4 W4 (.slice none 0 0) (.slice none 0 0) (.slice none 0 0) [] [] []) := O3.start ho4
  have HBO : Hid (∀ W, Below O W4 W → Below w.heap.size w W) := fun W h => HB4.out.trans (h.mono (by have := HRO.out; omega))
  have HPB : Hid (∀ W, Below O W4 W → Blk W pb [.int .u64 (dg : Int), .int .u64 (uk : Int), .slice la n lc] 58) := fun W h => HB0.out.below (HBO.out W h)
  have HFIN : Hid (∀ W W' nv dv sv, O3 d O dg uk W4 W nv dv sv (ls.map Lin.num) (ls.map Lin.dig) (ls.map Lin.sub) → Below R W W' → (∀ b, b < W.heap.size → O + 1 ≤ b → W'.heap[b]? = W.heap[b]?) → Q (.returned (.agg #[.int .u64 (dg : Int), .int .u64 (uk : Int), nv, dv, sv])) W') := by
    intro W W' nv dv sv hO hb hh
    rw [HQ.out]
    have hs := HRO.out
    refine ⟨_, rfl, (HBO.out W hO.below).trans (hb.mono (by omega)), fun w2 hw2 => ?_⟩
    have h := hO.done (by rw [← HN.out]; exact hl1) (fun l hl => (HL2.out l hl).1) (fun l hl => (HL2.out l hl).2.1) (w' := w2) fun b hlt hc => (hw2 b (Nat.lt_of_lt_of_le hlt hb.size) (.inr (by omega))).trans (hh b hlt hc)
    rw [HDG.out, HUK.out, HLS.out] at h
    show RShAt (d + 1) w2 (.agg #[.int .u64 (dg : Int), .int .u64 (uk : Int), nv, dv, sv]) x
    rw [HDG.out, HUK.out]
    exact h
  have kl := ho4.lt
  have HSZ : Hid (pb < R) := by rw [Hid, HR.out]; exact HB0.out.lt
  clear k0 ql ho4 hb14 kl
  go_upto_region 5 with fail
  go_loopw [6] (fun v6 wr => ∃ (i : Nat) (na : Option Addr) (nc : Nat) (da : Option Addr) (dc : Nat) (sa : Option Addr) (sc : Nat), v6 = .int .i64 (i : Int) ∧ i ≤ n ∧ Hid (O3 d O dg uk W4 wr (.slice na i nc) (.slice da i dc) (.slice sa i sc) ((ls.take i).map Lin.num) ((ls.take i).map Lin.dig) ((ls.take i).map Lin.sub))) (fun v6 _ => n - (intOf v6).toNat)
  case atStart => exact ⟨0, none, 0, none, 0, none, 0, rfl, by omega, HJ0.out⟩
  case round =>
    obtain ⟨i, na, nc, da, dc, sa, sc, rfl, hi, HJ⟩ := hrel
    have hpb := HPB.out wr HJ.out.below
    have p2 := hpb.cell 2 _ rfl
    have pl := hpb.lt
    clear hpb
    by_cases hlt : i < n
    · have hJO := HJ.out.blk
      have o2 := hJO.cell 2 _ rfl
      have ol := hJO.lt
      obtain ⟨l, hl⟩ : ∃ l, ls[i]? = some l := ⟨_, List.getElem?_eq_getElem (by rw [← HN.out]; exact hlt)⟩
      obtain ⟨lb, lo, p, rfl, g0, g1, g2, hP⟩ := HAT.out i l hl
      have HLB : Hid (lb < w.heap.size) := World.block_lt_of_cell? w _ g0
      have HG : Hid (∀ W, Below O W4 W → (W.cell? ⟨lb, lo + i * 3, none⟩ = some (.int .i64 l.num) ∧ W.cell? ⟨lb, lo + i * 3 + 1, none⟩ = some (.int .u64 l.dig) ∧ W.cell? ⟨lb, lo + i * 3 + 2, none⟩ = some (.pointer p)) ∧ lb < W.heap.size) := fun W h => by
        have hk := below_keeps (HBO.out W h)
        exact ⟨⟨hk _ _ g0, hk _ _ g1, hk _ _ g2⟩, Nat.lt_of_lt_of_le HLB.out (HBO.out W h).size⟩
      have HPP := hid hP
      have HLF := hid (HL2.out l (List.mem_of_getElem? hl))
      have hix := index_run Tryz.underlying56 size_line (rfl : some (⟨lb, lo, none⟩ : Addr) = some ⟨lb, lo, none⟩) i hlt (cap := lc)
      have HTK : Hid ((ls.take (i + 1)).map Lin.num = (ls.take i).map Lin.num ++ [l.num] ∧ (ls.take (i + 1)).map Lin.dig = (ls.take i).map Lin.dig ++ [l.dig] ∧ (ls.take (i + 1)).map Lin.sub = (ls.take i).map Lin.sub ++ [l.sub]) := by
        rw [Hid, List.take_add_one, hl, List.map_append, List.map_append, List.map_append]; exact ⟨rfl, rfl, rfl⟩
      have HLEN : Hid ((ls.take i).length = i) := by rw [Hid, List.length_take, ← HN.out]; omega
      clear g0 g1 g2 hP hl hJO
      have HW := hid HJ.out
      have HR9 := hid ((HJ.out.later (Below.refl wr.heap.size wr).drew).num l.num (by rw [List.length_map, HLEN.out]; omega))
      obtain ⟨a7, n7, c7, w7, hr7, hb7, hJ7⟩ := HR9.out
      obtain ⟨⟨g0, -, -⟩, gl⟩ := HG.out wr HJ.out.below
      have y2 := hb7.cell 2 _ rfl
      have yl := hb7.lt
      have yf := hb7.free 2
      have hn7 : n7 = i + 1 := by
        obtain ⟨⟨a, c, e⟩, -⟩ := hJ7.form
        injection e with _ e
        rw [e, List.length_append, List.length_map, HLEN.out]; rfl
      subst hn7
      have HR7 := hid hr7
      have HJ7 := hid hJ7
      clear hb7 hJ7 hr7 HR9
      obtain ⟨ln, HLNM⟩ : ∃ n, Hid (n = l.num) := ⟨_, rfl⟩
      rw [← HLNM.out] at HR7 g0 HJ7
      have HE7 : Hid (∃ (a c : _), i + 1 = i + 1 ∧ O3 d O dg uk W4 (w7.setCell ⟨O, 2, none⟩ (.slice a7 (i + 1) c7)) (.slice a (i + 1) c) (.slice da i dc) (.slice sa i sc) ((ls.take (i + 1)).map Lin.num) ((ls.take i).map Lin.dig) ((ls.take i).map Lin.sub)) := ⟨a7, c7, rfl, by rw [HTK.out.1, ← HLNM.out]; exact HJ7.out⟩
      go_upto_region 7 with fail
      go_cut [] from 34 to 46 (fun wx => ∃ (a7 : Option Addr) (c7 : Nat), Hid (O3 d O dg uk W4 wx (.slice a7 (i + 1) c7) (.slice da i dc) (.slice sa i sc) ((ls.take (i + 1)).map Lin.num) ((ls.take i).map Lin.dig) ((ls.take i).map Lin.sub)))
      case first =>
        clear HJ HW HJ0 HFIN HTK HLEN HG HPP HLF HAT HL2 HRE HB0 HDEEP HPB HBO HLS HDG HUK HN HLNM HJ7
        go_region_law (refine step_append_eq rfl (.tmp 35) (.tmp 44) _ rfl _ _ rfl rfl HR7.out ?_)
        all_goals
          go_wp2_with fail
          go_meet
          case rel => obtain ⟨a, c, -, h⟩ := HE7.out; exact ⟨a, c, h⟩
      case rest =>
      clear HE7 HJ7 HR7 y2 yl yf o2 g0 p2 hix
      obtain ⟨b7, d7, HK⟩ := hcut
      have hpb8 := HPB.out wc HK.out.below
      have p8 := hpb8.cell 2 _ rfl
      have pl8 := hpb8.lt
      have hK8 := HK.out.blk
      have o8 := hK8.cell 3 _ rfl
      have ol8 := hK8.lt
      have HR9 := hid ((HK.out.later (Below.refl wc.heap.size wc).drew).dig l.dig (by rw [List.length_map, HLEN.out]; omega))
      obtain ⟨a8, n8, c8, w8, hr8, hb8, hJ8⟩ := HR9.out
      obtain ⟨⟨-, g1, -⟩, gl8⟩ := HG.out wc HK.out.below
      have y3 := hb8.cell 3 _ rfl
      have yl := hb8.lt
      have yf := hb8.free 3
      have hn8 : n8 = i + 1 := by
        obtain ⟨-, ⟨a, c, e⟩, -⟩ := hJ8.form
        injection e with _ e
        rw [e, List.length_append, List.length_map, HLEN.out]; rfl
      subst hn8
      have HR8 := hid hr8
      have HE8 : Hid (O3 d O dg uk W4 (w8.setCell ⟨O, 3, none⟩ (.slice a8 (i + 1) c8)) (.slice b7 (i + 1) d7) (.slice a8 (i + 1) c8) (.slice sa i sc) ((ls.take (i + 1)).map Lin.num) ((ls.take (i + 1)).map Lin.dig) ((ls.take i).map Lin.sub)) := by rw [Hid, HTK.out.2.1]; exact hJ8
      obtain ⟨lg, HLG⟩ : ∃ n, Hid (n = l.dig) := ⟨_, rfl⟩
      rw [← HLG.out] at HR8 g1
      clear hb8 hJ8 hr8 HR9 hpb8 hK8
      have hix := index_run Tryz.underlying56 size_line (rfl : some (⟨lb, lo, none⟩ : Addr) = some ⟨lb, lo, none⟩) i hlt (cap := lc)
      go_upto_region 8 with fail
      go_cut [] from 47 to 59 (fun wx => ∃ (a8 : Option Addr) (c8 : Nat), Hid (O3 d O dg uk W4 wx (.slice b7 (i + 1) d7) (.slice a8 (i + 1) c8) (.slice sa i sc) ((ls.take (i + 1)).map Lin.num) ((ls.take (i + 1)).map Lin.dig) ((ls.take i).map Lin.sub)))
      case first =>
        clear HK HJ HW HJ0 HFIN HTK HLEN HG HPP HLF HAT HL2 HRE HB0 HDEEP HPB HBO HLS HDG HUK HN HLG
        go_region_law (refine step_append_eq rfl (.tmp 48) (.tmp 57) _ rfl _ _ rfl rfl HR8.out ?_)
        all_goals
          go_wp2_with fail
          go_meet
          case rel => exact ⟨_, _, HE8.out⟩
      case rest =>
      clear HE8 HR8 y3 yl yf o8 g1 p8 pl8 ol8 gl8 HK
      obtain ⟨b8, d8, HK⟩ := hcut
      have HADD : Hid (∀ (Wx : World) (u : Value), u.oneCell' = true → Below wc.heap.size wc Wx → (∀ w', (∀ b, b < Wx.heap.size → wc.heap.size ≤ b → w'.heap[b]? = Wx.heap[b]?) → OptP (RShAt d) w' [u] l.sub) →
          ∃ a9 c9 w9, (Builtin.append_ #[47, 47] 47 #[.slice sa i sc, .slice (some ⟨Wx.heap.size, 0, none⟩) 1 1]).run Tryz.prog (Wx.alloc (.cells #[u] 93)) = .ok (.slice a9 (i + 1) c9) w9 ∧
            (w9.cell? ⟨O, 4, none⟩ = some (.slice sa i sc) ∧ w9.frozen? ⟨O, 4, none⟩ = false ∧ O < w9.heap.size) ∧
            O3 d O dg uk W4 (w9.setCell ⟨O, 4, none⟩ (.slice a9 (i + 1) c9)) (.slice b7 (i + 1) d7) (.slice b8 (i + 1) d8) (.slice a9 (i + 1) c9) ((ls.take (i + 1)).map Lin.num) ((ls.take (i + 1)).map Lin.dig) ((ls.take (i + 1)).map Lin.sub)) := by
        intro Wx u hu hb hx
        obtain ⟨S, h1, -⟩ := HK.out.si
        obtain ⟨a9, n9, c9, w9, hr, hblk, hO⟩ := (HK.out.later hb).sub u hu l.sub wc.heap.size HK.out.blk.lt (fun b hlb => ⟨fun e => by have := (HK.out.ni.own' b e).2; omega, fun e => by have := (HK.out.di.own b e).2; omega, fun e => by have := (h1.own b e).2; omega⟩) hx (by rw [List.length_map, HLEN.out]; omega)
        have hn9 : n9 = i + 1 := by
          obtain ⟨-, -, a, c, e⟩ := hO.form
          injection e with _ e
          rw [e, List.length_append, List.length_map, HLEN.out]; rfl
        subst hn9
        rw [HTK.out.2.2]
        exact ⟨a9, c9, w9, hr, ⟨hblk.cell 4 _ rfl, hblk.free 4, hblk.lt⟩, hO⟩
      have HO4 : Hid (∀ Wx, Below wc.heap.size wc Wx → Wx.cell? ⟨O, 4, none⟩ = some (.slice sa i sc) ∧ O < Wx.heap.size) := fun Wx hb => ⟨(hb.cell (p := ⟨O, 4, none⟩) HK.out.blk.lt).trans (HK.out.blk.cell 4 _ rfl), Nat.lt_of_lt_of_le HK.out.blk.lt hb.size⟩
      have HBK := hid HK.out.below
      have hpb8 := HPB.out wc HBK.out
      have p8 := hpb8.cell 2 _ rfl
      have pl8 := hpb8.lt
      obtain ⟨⟨-, -, g2⟩, gl8⟩ := HG.out wc HBK.out
      have hix := index_run Tryz.underlying56 size_line (rfl : some (⟨lb, lo, none⟩ : Addr) = some ⟨lb, lo, none⟩) i hlt (cap := lc)
      clear hpb8 HK HJ HW HJ0 HTK HLEN HG HAT HL2 HB0 HLS HDG HUK HN HPB HFIN
      cases hs : l.sub with
      | none =>
        have hp := HPP.out
        rw [hs] at hp
        obtain rfl : p = none := by injection hp
        obtain ⟨a9, c9, w9, hr9, ⟨y4, yf, yl⟩, hO9⟩ := HADD.out wc (.slice none 0 0) rfl (Below.refl _ _) (fun w' _ => by rw [hs]; exact ⟨_, rfl, rfl⟩)
        obtain ⟨o4, ol4⟩ := HO4.out wc (Below.refl _ _)
        have HR9 := hid hr9
        have HO9 := hid hO9
        clear hr9 hO9 HADD HO4 hp HPP HLF HRE hs
        go_wp2_with (at_builtin; refine wpList_append_eq rfl _ _ _ rfl _ _ rfl rfl HR9.out ?_)
        go_roundw
        case rel => exact ⟨i + 1, _, _, _, _, _, _, by go_num, hlt, HO9.out⟩
        case measure => simp [intOf]; omega
      | some y =>
        have hp := HPP.out
        rw [hs] at hp
        replace hp : ShAt d w (.pointer p) y := hp
        obtain ⟨sb, he⟩ := ShAt.form hp
        obtain rfl : p = some ⟨sb, 0, none⟩ := by injection he
        have HRC : Hid (Calls Tryz.prog 15 #[.pointer (some ⟨sb, 0, none⟩), .int .i64 (deep - 1)] wc fun e w' => ∃ v', e = .returned v' ∧ Below wc.heap.size wc w' ∧ Apart 0 wc.heap.size w' fun w2 => RShAt d w2 v' y) :=
          HRE.out wc _ y (deep - 1) (hp.below (HBO.out wc HBK.out)) ((HLF.out.2.2) y hs) (by have := HDEEP.out.1; omega) (by have := HDEEP.out.2; omega)
        have hd1 : 0 ≤ deep := by have := HDEEP.out.1; omega
        have hd2 : deep ≤ 1000 := HDEEP.out.2
        have HSU := hid hs
        clear hp he hs HPP HLF HRE HBO
        go_wp2_with fail
        refine HRC.out.mono ?_
        rintro e w10 ⟨v', rfl, hb10, hap⟩
        obtain ⟨g, k, r1, r2, r3, r4, r5, r6, r7, r8, r9, rfl⟩ := hap.here.form
        obtain ⟨B, HBB⟩ : ∃ B, Hid (B = w10.heap.size) := ⟨_, rfl⟩
        obtain ⟨W11, HW11⟩ : ∃ W, Hid (W = w10.alloc (.cells #[.int .u64 g, .int .u64 k, .slice r1 r2 r3, .slice r4 r5 r6, .slice r7 r8 r9] 49)) := ⟨_, rfl⟩
        have hb11 : Below wc.heap.size wc W11 := by rw [HW11.out]; exact hb10.alloc hb10.size _
        have hz11 : W11.heap.size = w10.heap.size + 1 := by rw [HW11.out]; simp
        have hk11 : Blk W11 B [.int .u64 g, .int .u64 k, .slice r1 r2 r3, .slice r4 r5 r6, .slice r7 r8 r9] 49 := by rw [HW11.out, HBB.out]; exact Blk.new w10 [.int .u64 g, .int .u64 k, .slice r1 r2 r3, .slice r4 r5 r6, .slice r7 r8 r9] _
        have hx : ∀ w', (∀ b, b < W11.heap.size → wc.heap.size ≤ b → w'.heap[b]? = W11.heap[b]?) → OptP (RShAt d) w' [.slice (some ⟨B, 0, none⟩) 1 1] l.sub := by
          intro w' hw'
          rw [HSU.out]
          have hblk : Blk w' B [.int .u64 g, .int .u64 k, .slice r1 r2 r3, .slice r4 r5 r6, .slice r7 r8 r9] 49 := (hw' _ hk11.lt (by rw [HBB.out]; exact hb10.size)).trans hk11
          refine ⟨_, rfl, [[.int .u64 g, .int .u64 k, .slice r1 r2 r3, .slice r4 r5 r6, .slice r7 r8 r9]], rfl, by simp, seg_blk hblk 5 1 rfl (by omega), fun q r z hr hz => ?_⟩
          match q, hr, hz with
          | 0, hr, hz =>
            injection hr with hr
            injection hz with hz
            subst hr
            subst hz
            exact hap w' fun b hb hc => (hw' b (by omega) (by omega)).trans (by rw [HW11.out]; exact Below.heap_alloc w10 _ b hb)
        obtain ⟨a9, c9, w9, hr9, ⟨y4, yf, yl⟩, hO9⟩ := HADD.out W11 (.slice (some ⟨B, 0, none⟩) 1 1) rfl hb11 hx
        obtain ⟨o4, ol4⟩ := HO4.out _ hb11
        have HR9 := hid hr9
        have HO9 := hid hO9
        clear hr9 hO9 HADD HO4 hx hb11 hb10 hap HRC hz11 hk11
        go_upto_region 12 with fail
        rw [← HW11.out, ← HBB.out]
        go_wp2_with (at_builtin; refine wpList_append_eq rfl _ _ _ rfl _ _ rfl rfl HR9.out ?_)
        go_roundw
        case rel => exact ⟨i + 1, _, _, _, _, _, _, by go_num, hlt, HO9.out⟩
        case measure => simp [intOf]; omega
    · obtain rfl : i = n := by omega
      have hJ := HJ.out
      rw [HN.out, List.take_length, ← HN.out] at hJ
      have hO := hJ.blk
      have o0 := hO.cell 0 _ rfl
      have o1 := hO.cell 1 _ rfl
      have o2 := hO.cell 2 _ rfl
      have o3 := hO.cell 3 _ rfl
      have o4 := hO.cell 4 _ rfl
      have ol := hO.lt
      have hR : Blk wr R [.int .u64 0, .int .u64 0, .slice none 0 0, .slice none 0 0, .slice none 0 0] 49 := HR1.out.below (HB14.out.trans (hJ.below.mono (by have := HO.out; omega)))
      have r0 := hR.cell 0 _ rfl
      have r1 := hR.cell 1 _ rfl
      have r2 := hR.cell 2 _ rfl
      have r3 := hR.cell 3 _ rfl
      have r4 := hR.cell 4 _ rfl
      have rl := hR.lt
      have z0 := hR.free 0
      have z1 := hR.free 1
      have z2 := hR.free 2
      have z3 := hR.free 3
      have z4 := hR.free 4
      have s1 := hR.set 0 (.int .u64 (dg : Int))
      have s2 := s1.set 1 (.int .u64 (uk : Int))
      have s3 := s2.set 2 (.slice na i nc)
      have s4 := s3.set 3 (.slice da i dc)
      have s5 := s4.set 4 (.slice sa i sc)
      have x0 := s5.cell 0 _ rfl
      have x1 := s5.cell 1 _ rfl
      have x2 := s5.cell 2 _ rfl
      have x3 := s5.cell 3 _ rfl
      have x4 := s5.cell 4 _ rfl
      have HE : Hid (Q (.returned (.agg #[.int .u64 (dg : Int), .int .u64 (uk : Int), .slice na i nc, .slice da i dc, .slice sa i sc])) _) := HFIN.out wr ((((wr.setCell ⟨R, 0, none⟩ (.int .u64 (dg : Int))).setCell ⟨R, 1, none⟩ (.int .u64 (uk : Int))).setCell ⟨R, 2, none⟩ (.slice na i nc)).setCell ⟨R, 3, none⟩ (.slice da i dc) |>.setCell ⟨R, 4, none⟩ (.slice sa i sc)) _ _ _ hJ (by (repeat (first | with_reducible exact Below.refl _ _ | with_reducible refine Below.setCell ?_ (by first | omega | (simp; omega) | (simp; done)) _ | with_reducible refine Below.alloc ?_ (by first | omega | (simp; omega) | (simp; done)) _ | with_reducible refine below_drewN ?_ _ | with_reducible refine Below.drew ?_))) fun b _ hb => by
        have : b ≠ R := by have := HRO.out.2; omega
        rw [Below.heap_setCell _ _ _ b this, Below.heap_setCell _ _ _ b this, Below.heap_setCell _ _ _ b this, Below.heap_setCell _ _ _ b this, Below.heap_setCell _ _ _ b this]
      clear hJ hO hR HJ s1 s2 s3 s4 s5
      go_wp2_with fail
      refine bodyPost_ret (v := .agg #[.int .u64 (dg : Int), .int .u64 (uk : Int), .slice na i nc, .slice da i dc, .slice sa i sc]) ?_ rfl HE.out
      simp [results, Tryz.results15, go_sem, x0, x1, x2, x3, x4]
theorem law27_of : ∀ d, OfSh d
  | 0 => fun _ _ _ _ h _ _ _ => h.elim
  | d + 1 => of27_step (law27_of d)
end Go.Proofs.YtbcpeckmnmhfhaaGreat
