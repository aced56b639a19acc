/- (*tree.pieces).value: a field's value out of its pieces. At most 2^40 bytes. -/
import Derived.Test.YtbdeclkccchnoaaGreatZ15
namespace Go.Proofs.YtbdeclkccchnoaaGreat
open Go.RowKit Go.Shelf
set_option maxRecDepth 100000 in
set_option maxHeartbeats 8000000 in
theorem pieces_value {w0 : World} {sv : Value} {s : List Mes} {d : Nat} {f : Fld} (hsub : SubCallT w0 sv s d f) {n0 B : Nat} {g : Nat} {wv vv : Value} {l : List UInt8} {xs : List VW} {w : World} (hw0 : Below w0.heap.size w0 w)
    (h : Pcs n0 B f g wv vv (xs.flatMap (pieceW f l)) (xs.flatMap (pieceB f l)) w) (hn0 : n0 ≤ B) (hw0B : w0.heap.size ≤ B) (hF : FieldRecs (SubOk s d) f l xs) (hne : xs ≠ []) (ht : ∀ x ∈ xs, Thin x) (hv : vsum xs ≤ 1099511627776) (_hl : l.length ≤ 1099511627776) (hok : f.Ok) :
    Calls Tryz.prog 42 #[.pointer (some ⟨g, 0, none⟩), sv] w fun e w' => ∃ v0 v1 v2 v3, e = .returned (.tuple #[.agg #[v0, v1, v2, v3], .bool (decide (0 < many (fieldV (tsub s d) f l xs)))]) ∧ w.grownBy w' (some g) ∧
      ∀ w2, (∀ b, b < w'.heap.size → (w.heap.size ≤ b ∨ wv.ownBlock = some b) → w2.heap[b]? = w'.heap[b]?) → ValP' d w2 [v0, v1, v2, v3] (fieldV (tsub s d) f l xs) := by
  obtain ⟨qa, qc, rfl⟩ := h.words.form
  obtain ⟨va, vc, rfl⟩ := h.vals.form
  obtain ⟨ws, HWS⟩ : ∃ ws, Hid (ws = xs.flatMap (pieceW f l)) := ⟨_, rfl⟩
  obtain ⟨bs, HBS⟩ : ∃ bs, Hid (bs = xs.flatMap (pieceB f l)) := ⟨_, rfl⟩
  rw [← HWS.out, ← HBS.out] at h
  rw [← HWS.out]
  obtain ⟨qn, HWN⟩ : ∃ n, Hid (n = ws.length) := ⟨_, rfl⟩
  obtain ⟨vn, HVN⟩ : ∃ n, Hid (n = bs.length) := ⟨_, rfl⟩
  rw [← HWN.out, ← HVN.out] at h
  rw [← HWN.out]
  have HRUN : Hid (∀ x ∈ xs, x.run = true → knumber f.kind = true) := fun x hx hr => (hF.run x hx hr).2
  have HRUN0 : Hid (f.rep = false → ∀ x ∈ xs, x.run = false) := fun hr x hx => by
    cases hx2 : x.run with
    | false => rfl
    | true => have := (hF.run x hx hx2).1; rw [hr] at this; cases this
  have hpl := @pcsB_len f l xs ht hv
  rw [← HBS.out] at hpl
  have HPL := hid hpl
  have hwb : ws.length ≤ 1099511627776 := by
    rw [HWS.out]
    have := flat_sum (pieceW f l) List.length rfl (fun a b => List.length_append) xs fun x hx => piece_words (ht x hx)
    omega
  have HWB := hid hwb
  have HF := hid hF
  have HT := hid ht
  have HVV := hid hv
  have HOK := hid hok
  have HSUB := hid hsub
  have H := hid h
  have HW0 := hid hw0
  have HNE := hid hne
  obtain ⟨Q, HQ⟩ : ∃ Q : Ending → World → Prop, Hid (Q = fun e w' => ∃ v0 v1 v2 v3, e = .returned (.tuple #[.agg #[v0, v1, v2, v3], .bool (decide (0 < many (fieldV (tsub s d) f l xs)))]) ∧ w.grownBy w' (some g) ∧
      ∀ w2, (∀ b, b < w'.heap.size → (w.heap.size ≤ b ∨ (Value.slice qa qn qc).ownBlock = some b) → w2.heap[b]? = w'.heap[b]?) → ValP' d w2 [v0, v1, v2, v3] (fieldV (tsub s d) f l xs)) := ⟨_, rfl⟩
  rw [← HQ.out]
  obtain ⟨X, HX⟩ : ∃ X, Hid (X = w.heap.size) := ⟨_, rfl⟩
  obtain ⟨W1, HW1⟩ : ∃ W1, Hid (W1 = w.alloc (.cells #[.int .i64 0, .slice none 0 0, .slice none 0 0, .slice none 0 0] 52)) := ⟨_, rfl⟩
  obtain ⟨W2, HW2⟩ : ∃ W2, Hid (W2 = W1.alloc (.cells #[.int .i64 f.number, .slice none 0 0, .slice none 0 0, .slice none 0 0] 52)) := ⟨_, rfl⟩
  have hb1 : Below w.heap.size w W1 := by rw [HW1.out]; exact (Below.refl _ _).alloc (Nat.le_refl _) _
  have hb2 : Below W1.heap.size W1 W2 := by rw [HW2.out]; exact (Below.refl _ _).alloc (Nat.le_refl _) _
  have hr1 : Blk W1 X [.int .i64 0, noneS, noneS, noneS] 52 := by rw [HW1.out, HX.out]; exact Blk.new w [.int .i64 0, noneS, noneS, noneS] _
  have hz1 : W1.heap.size = X + 1 := by rw [HW1.out, HX.out]; simp
  have hv2 : Blk W2 (X + 1) [.int .i64 f.number, noneS, noneS, noneS] 52 := by rw [HW2.out, ← hz1]; exact Blk.new W1 [.int .i64 f.number, noneS, noneS, noneS] _
  have hz2 : W2.heap.size = X + 1 + 1 := by rw [HW2.out, World.size_alloc, hz1]
  have hb12 : Below w.heap.size w W2 := hb1.trans (hb2.mono hb1.size)
  have h2 := h.below hb12 hn0
  have hgX : g < X := by rw [HX.out]; exact h.box.lt
  have g1 := (h.below hb1 hn0).box.cell 1 (.int .i64 f.number) rfl
  have f2 := h2.box.cell 2 (.int .i64 f.kind) rfl
  have f3 := h2.box.cell 3 (.bool f.rep) rfl
  have f6 := h2.box.cell 6 (.slice qa qn qc) rfl
  have f7 := h2.box.cell 7 (.slice va vn vc) rfl
  have fz6 := h2.box.free 6
  have fz7 := h2.box.free 7
  have fl := h2.box.lt
  have HR1 := hid (hr1.below hb2)
  have HV2 := hid hv2
  have HB12 := hid hb12
  have HZ2 := hid hz2
  have H2 := hid h2
  have HGX := hid hgX
  clear h hb1 hb2 hr1 hv2 hb12 h2 hpl hwb hF hok hsub hw0 hne hz2 hgX hv ht
  go_enter Tryz.func42, Tryz.ntmps42
  go_upto_region 1 with fail
  rw [← HW1.out, ← HX.out]
  go_upto_region 2 with fail
  rw [← HW2.out]
  have HZ1 := hid hz1
  clear g1 hz1
  have HVS0 : Hid (ValSt w g (X + 1) f (.slice qa qn qc) ws bs W2 (.slice qa qn qc) (.slice va vn vc)) := by
    refine ⟨below_grown HB12.out _, H2.out.box, HV2.out, fun w2 hw2 => ?_, fun w2 hw2 => ?_, by rw [HZ2.out]; omega, by have := HGX.out; omega, by have := HX.out; omega⟩
    · have := row_seg (WordsOwn.keep H.out.words hw2) (by have := HWB.out; omega)
      exact this
    · refine (H2.out.vals.keep (fun b e => ?_) fun b hb => ?_).at (by have := HPL.out.2.2.2; omega)
      · have hbl := (H.out.vals.own b e).2
        have := HX.out
        exact hw2 b (by have := HB12.out.size; omega) (by omega) (by rintro rfl; exact H.out.vg e)
      · have := H.out.bg
        have := HGX.out
        exact hw2 b (by have := HZ2.out; omega) (by omega) (by omega)
  go_upto_region 3 with fail
  go_cut [7, 30] from 10 to 29 (fun s7 s30 wx => s7 = .bool (!f.rep) ∧ s30 = .bool (!f.rep && decide (f.kind = 17)) ∧ Hid (wx = W2))
  case first =>
    cases hrp : f.rep with
    | true =>
      rw [hrp] at f3
      go_wp2_with fail
      go_meet
      case rel => exact ⟨by rw [hrp]; rfl, by rw [hrp]; rfl, rfl⟩
    | false =>
      by_cases h17 : f.kind = 17
      · have hkb : (f.kind == 17) = true := by simpa using h17
        have hkd : decide (f.kind = 17) = true := by simpa using h17
        go_wp2_with fail
        go_meet
        case rel => exact ⟨by rw [hrp]; rfl, by rw [hrp, hkd]; rfl, rfl⟩
      · have hkb : (f.kind == 17) = false := by simpa using h17
        have hkd : decide (f.kind = 17) = false := by simpa using h17
        go_wp2_with fail
        go_meet
        case rel => exact ⟨by rw [hrp]; rfl, by rw [hrp, hkd]; rfl, rfl⟩
  case rest =>
    obtain ⟨rfl, rfl, hwx⟩ := hcut
    have hwx' := hwx.out
    subst hwx'
    clear hwx
    go_upto_if 30 with fail
    go_cut [7, 30] from 31 to 39 (fun s7 s30 wx => ∃ (va : Option Addr) (vn vc : Nat), s7 = .bool (!f.rep) ∧ Hid (ValSt w g (X + 1) f (.slice qa qn qc) ws (if f.rep = false ∧ f.kind = 17 then [bs.flatten] else bs) wx (.slice qa qn qc) (.slice va vn vc) ∧ Blk wx X [.int .i64 0, noneS, noneS, noneS] 52))
    case first =>
      by_cases hc : f.rep = false ∧ f.kind = 17
      · obtain ⟨hrp, h17⟩ := hc
        have hkd : decide (f.kind = 17) = true := by simpa using h17
        have hrb : (!f.rep) = true := by rw [hrp]; rfl
        have HC := hid (And.intro hrp h17)
        have hcb := hid (concat_bytes (H2.out.vals.at (by have := HPL.out.2.2.2; omega)) HPL.out.2.2.1 HPL.out.2.2.2)
        rw [hkd, hrb]
        clear hkd hrb hrp h17
        go_wp2_with ((go_at_call 72; refine hcb.out.mono ?_; rintro e w3 ⟨v3, rfl, hO3, hb3⟩; obtain ⟨a3, n3, c3, rfl⟩ := own_form' hO3; have h3 := H2.out.box.below hb3; have q1 := h3.free 7; have q2 := h3.lt; have q3 := h3.cell 7 (.slice va vn vc) rfl; have HO3 := hid hO3; have HB3 := hid hb3; have H3 := hid h3; clear hO3 hb3 h3))
        go_meet
        case rel =>
          obtain ⟨g1, g2⟩ := HVS0.out.joined HO3.out (by have := HPL.out.2.2.1; omega) HB3.out _ rfl
          refine ⟨some ⟨w3.heap.size, 0, none⟩, 1, 1, by rw [HC.out.1]; rfl, ?_, ?_⟩
          · rw [if_pos HC.out]; exact g1
          · exact g2 X _ _ (by have := HGX.out; omega) (by have := HZ2.out; omega) HR1.out
      · have hcf : (!f.rep && decide (f.kind = 17)) = false := by
          cases hrp : f.rep with
          | true => rfl
          | false => simpa using fun h => hc ⟨hrp, h⟩
        rw [hcf]
        go_wp2_with fail
        go_meet
        case rel =>
          refine ⟨va, vn, vc, rfl, ?_, HR1.out⟩
          rw [if_neg hc]; exact HVS0.out
    case rest =>
      obtain ⟨va, vn, vc, rfl, HV⟩ := hcut
      obtain ⟨bs2, HBS2⟩ : ∃ b2, Hid (b2 = if f.rep = false ∧ f.kind = 17 then [bs.flatten] else bs) := ⟨_, rfl⟩
      rw [← HBS2.out] at HV
      clear HR1 HVS0 f6 f7 f2 f3 fz6 fz7 fl
      go_upto_region 5 with fail
      go_upto_if 40 with fail
      go_cut [7, 40] from 41 to 70 (fun s7 s40 wx => ∃ (ra : Option Addr) (rn rc : Nat) (va : Option Addr) (vn vc : Nat), Hid (ValSt w g (X + 1) f (.slice qa qn qc) (if f.rep = true then ws else lastOf ws) (if f.rep = true then bs2 else lastOf bs2) wx (.slice ra rn rc) (.slice va vn vc) ∧ Blk wx X [.int .i64 0, noneS, noneS, noneS] 52))
      case first =>
        cases hrp : f.rep with
        | true =>
          go_wp2_with fail
          go_meet
          case rel => exact ⟨qa, qn, qc, va, vn, vc, by rw [if_pos hrp, if_pos hrp]; exact HV.out⟩
        | false =>
          have c6 := HV.out.1.2.1.cell 6 (.slice qa qn qc) rfl
          have c7 := HV.out.1.2.1.cell 7 (.slice va vn vc) rfl
          have fz6 := HV.out.1.2.1.free 6
          have fz7 := HV.out.1.2.1.free 7
          have fl := HV.out.1.2.1.lt
          have hL := HV.out.1.last
          have hq47 : qn ≤ 1099511627776 := by rw [HWN.out]; exact HWB.out
          have hv47 : vn ≤ 1099511627776 := by
            obtain ⟨vs, -, ⟨-, -, a', c', e, -⟩, -⟩ := HV.out.1.2.2.2.2.1 wc (fun _ _ _ _ => rfl)
            have : vn = bs2.length := by cases e; rfl
            rw [this, HBS2.out]
            split
            · simp
            · exact HPL.out.2.2.2
          obtain ⟨i1, HI1⟩ : ∃ i, Hid (i = qn - 1) := ⟨_, rfl⟩
          obtain ⟨i2, HI2⟩ : ∃ i, Hid (i = vn - 1) := ⟨_, rfl⟩
          have e1 : sliced qa (qn - 1) qn qc 1 = .slice (if qc = i1 then qa else Option.map (fun x => x.add i1) qa) (qn - i1) (qc - i1) := by
            rw [← HI1.out]; unfold sliced; rw [Nat.mul_one]
          have e2 : sliced va (vn - 1) vn vc 1 = .slice (if vc = i2 then va else Option.map (fun x => x.add i2) va) (vn - i2) (vc - i2) := by
            rw [← HI2.out]; unfold sliced; rw [Nat.mul_one]
          rw [e1, e2] at hL
          have HL := hid hL
          have hm1 : (if 0 < IntKind.i64.wrap ((qn : Int) - 1) then IntKind.i64.wrap ((qn : Int) - 1) else 0) = (i1 : Int) := by
            have hw : IntKind.i64.wrap ((qn : Int) - 1) = (qn : Int) - 1 := by simp [IntKind.wrap, IntKind.bits, IntKind.signed]; omega
            rw [hw]
            have := HI1.out
            split <;> omega
          have hm2 : (if 0 < IntKind.i64.wrap ((vn : Int) - 1) then IntKind.i64.wrap ((vn : Int) - 1) else 0) = (i2 : Int) := by
            have hw : IntKind.i64.wrap ((vn : Int) - 1) = (vn : Int) - 1 := by simp [IntKind.wrap, IntKind.bits, IntKind.signed]; omega
            rw [hw]
            have := HI2.out
            split <;> omega
          have hj1 : (i1 : Int) ≤ (qn : Int) := by have := HI1.out; omega
          have hj2 : (i2 : Int) ≤ (vn : Int) := by have := HI2.out; omega
          have hsz2 := size_bytes
          have hm1' : (if 0 < wrap64 ((qn : Int) - 1) then wrap64 ((qn : Int) - 1) else 0) = (i1 : Int) := by rw [← IntWalk.i64_left]; exact hm1
          have hm2' : (if 0 < wrap64 ((vn : Int) - 1) then wrap64 ((vn : Int) - 1) else 0) = (i2 : Int) := by rw [← IntWalk.i64_left]; exact hm2
          have hn2 : 0 ≤ (i2 : Int) := by omega
          have hn1 : 0 ≤ (i1 : Int) := by omega
          clear hL hq47 hv47 e1 e2
          go_wp2_with fail
          go_big_region
          all_goals
            have HL' := HL.out
            generalize (if qc = i1 then qa else Option.map (fun x => x.add i1) qa) = y1 at HL' ⊢
            generalize (if vc = i2 then va else Option.map (fun x => x.add i2) va) = y2 at HL' ⊢
            generalize qn - i1 = y3 at HL' ⊢
            generalize qc - i1 = y4 at HL' ⊢
            generalize vn - i2 = y5 at HL' ⊢
            generalize vc - i2 = y6 at HL' ⊢
            have HL2 := hid HL'
            clear HL' HL hm1 hm2 hm1' hm2' hj1 hj2 hn1 hn2 hsz2
            go_wp2_with fail
            go_meet
            case rel =>
              refine ⟨y1, y3, y4, y2, y5, y6, ?_, ?_⟩
              · rw [if_neg (by rw [hrp]; decide), if_neg (by rw [hrp]; decide)]; exact HL2.out.drew
              · exact (HV.out.2.set_other _ _ (by show X ≠ g; have := HGX.out; omega)).set_other _ _ (by show X ≠ g; have := HGX.out; omega)
      case rest =>
        obtain ⟨ra, rn, rc, va, vn, vc, HV⟩ := hcut
        have hws2 : (if f.rep = true then ws else lastOf ws) = (counts f xs).flatMap (pieceW f l) := by rw [HWS.out]; exact pcs_words HRUN0.out
        have hbs2 : (if f.rep = true then bs2 else lastOf bs2) = pcsB f bs := by
          rw [HBS2.out]
          unfold pcsB
          by_cases hr : f.rep = true
          · rw [if_pos hr, if_pos hr, if_neg (by rw [hr]; simp)]
          · have hr' : f.rep = false := by simpa using hr
            rw [if_neg hr, if_neg hr]
            by_cases h17 : f.kind = 17
            · rw [if_pos ⟨hr', h17⟩, if_pos h17]; rfl
            · rw [if_neg (fun h => h17 h.2), if_neg h17]
        rw [hws2, hbs2] at HV
        obtain ⟨bs3, HBS3⟩ : ∃ b, Hid (b = pcsB f bs) := ⟨_, rfl⟩
        obtain ⟨ws3, HWS3⟩ : ∃ b, Hid (b = (counts f xs).flatMap (pieceW f l)) := ⟨_, rfl⟩
        rw [← HBS3.out, ← HWS3.out] at HV
        clear hws2 hbs2
        have hb3l : bs3.length ≤ 1099511627776 := by rw [HBS3.out]; exact HPL.out.1
        have HB3L := hid hb3l
        obtain ⟨hx1, hx2, hx3, hx4, hx5, hx6, hx7, hx8⟩ := HV.out.1
        have hvn : vn = bs3.length := by obtain ⟨vs, -, ⟨-, -, a', c', e, -⟩, -⟩ := hx5 wc (fun _ _ _ _ => rfl); injection e
        have c6 := hx2.cell 6 (.slice ra rn rc) rfl
        have v1 := hx3.cell 1 _ rfl
        have vf1 := hx3.free 1
        have hvl := hx3.lt
        obtain ⟨W7, HW7⟩ : ∃ W7, Hid (W7 = wc.setCell ⟨X + 1, 1, none⟩ (.slice ra rn rc)) := ⟨_, rfl⟩
        have hV7 : Blk W7 (X + 1) [.int .i64 f.number, .slice ra rn rc, noneS, noneS] 52 := by rw [HW7.out]; simpa using hx3.set 1 (.slice ra rn rc)
        have hz7 : W7.heap.size = wc.heap.size := by rw [HW7.out]; simp
        have HVN := hid hvn
        have hvn40 : vn ≤ 1099511627776 := by omega
        have hk7 : ∀ b, b ≠ X + 1 → W7.heap[b]? = wc.heap[b]? := fun b hb => by rw [HW7.out]; exact Below.heap_setCell _ _ _ b (by show b ≠ X + 1; exact hb)
        have hg7 : Blk W7 g (f.cells ++ [.slice ra rn rc, .slice va vn vc]) 98 := (hk7 g (by omega)).trans hx2
        have hxl : X < wc.heap.size := by omega
        have HX7 : Hid (Blk W7 X [.int .i64 0, noneS, noneS, noneS] 52) := (hk7 X (by omega)).trans HV.out.2
        have c7 := hg7.cell 7 (.slice va vn vc) rfl
        have HG7 := hid hg7
        have HV7 := hid (ValL.start (s := s) (d := d) hV7)
        have HZV : Hid (X + 1 < W7.heap.size) := by show _ < _; omega
        have HXG : Hid (g < X) := HGX
        have HWS4 := hid hx4
        have HGR : Hid (w.grownBy W7 (some g) ∨ True) := .inr trivial
        have HPS : Hid (∀ wi, W7.grownBy wi (some (X + 1)) → PcsAt wi (.slice va vn vc) bs3) := fun wi hw => hx5 wi fun b hb h1 h2 => (hw.block b (by omega) (fun e => by injection e with e; omega)).trans (hk7 b h1)
        have HBL : Hid (∀ wi, W7.grownBy wi (some (X + 1)) → Below w0.heap.size w0 wi ∧ Blk wi g (f.cells ++ [.slice ra rn rc, .slice va vn vc]) 98 ∧ Blk wi X [.int .i64 0, noneS, noneS, noneS] 52 ∧ w.grownBy wi (some g)) := by
          intro wi hw
          have h1 := HW0.out.size
          have h2 := H.out.bg
          have hgw := H.out.box.lt
          have hwX : w.heap.size = X := HX.out.symm
          have hgx : w.grownBy wi (some g) := by
            refine ⟨?_, ?_, ?_, ?_, fun b hb hne => ?_⟩
            · rw [hw.os, HW7.out]; exact hx1.os
            · rw [hw.tape, HW7.out]; exact hx1.tape
            · rw [hw.output, HW7.out]; exact hx1.output
            · have := hw.size; have := hx1.size; omega
            · have := hx1.size
              have hb7 : b < W7.heap.size := by rw [hz7]; omega
              have hbX : b ≠ X + 1 := by omega
              exact (hw.block b hb7 (fun e => by injection e with e; omega)).trans ((hk7 b hbX).trans (hx1.block b hb hne))
          refine ⟨HW0.out.grown hgx h1 (fun k e => by injection e with e; omega), (hw.block g hg7.lt (fun e => by injection e with e; omega)).trans hg7, (hw.block X HX7.out.lt (fun e => by injection e with e; omega)).trans HX7.out, hgx⟩
        rw [← HX.out] at hx8
        clear hx1 hx2 hx3 hx4 hx5 hx6 hx7 hx8 hV7 hz7 hk7 hg7 hxl hb3l hvn
        go_upto_region 8 with fail
        rw [← HW7.out]
        go_wp2_with fail
        go_loopw [81] (fun v81 wi => ∃ (j : Nat) (a2 : Option Addr) (n2 c2 : Nat) (a3 : Option Addr) (n3 c3 : Nat), v81 = .int .i64 (j : Int) ∧ j ≤ vn ∧ Hid (ValL W7 (X + 1) s d f (bs3.take j) wi (.slice ra rn rc) (.slice a2 n2 c2) (.slice a3 n3 c3))) (fun v81 _ => vn - (intOf v81).toNat)
        case atStart => exact ⟨0, none, 0, 0, none, 0, 0, rfl, by omega, HV7.out⟩
        case round =>
          obtain ⟨j, a2, n2, c2, a3, n3, c3, rfl, hj, HJ⟩ := hrel
          obtain ⟨hbw, hgb, hxb, hgr⟩ := HBL.out wr HJ.out.1
          by_cases hlt : j < vn
          · obtain ⟨t, htj⟩ : ∃ t, bs3[j]? = some t := ⟨_, List.getElem?_eq_getElem (by rw [← HVN.out]; exact hlt)⟩
            obtain ⟨-, va', vc', he, hat⟩ := (HPS.out wr HJ.out.1).open
            have hva : va = va' := by injection he
            subst hva
            clear he
            obtain ⟨vb, vo, u, rfl, hcu, hbu⟩ := hat j t htj
            obtain ⟨-, ua, uc, rfl, -⟩ := hbu.open
            have htk : bs3.take (j + 1) = bs3.take j ++ [t] := by rw [List.take_add_one, htj]; rfl
            have HTK := hid htk
            have hmt : t ∈ pcsB f bs := by rw [← HBS3.out]; exact List.mem_of_getElem? htj
            have HTL : Hid (t.length ≤ 1099511627776) := HPL.out.2.1 t hmt
            have htl : (bs3.take j).length ≤ j := by rw [List.length_take]; omega
            have HJL : Hid ((bs3.take j).length + 1 ≤ 1099511627777) := by have := HB3L.out; show _ ≤ _; rw [List.length_take]; omega
            obtain ⟨tn, HTN⟩ : ∃ n, Hid (n = t.length) := ⟨_, rfl⟩
            rw [← HTN.out] at hcu hbu
            have f2 := hgb.cell 2 (.int .i64 f.kind) rfl
            have hvl := HJ.out.2.1.lt
            by_cases h17 : f.kind = 17
            · have hkb : (f.kind == 17) = true := by simpa using h17
              have f5 := hgb.cell 5 (.int .i64 f.of) rfl
              have c3' := HJ.out.2.1.cell 3 _ rfl
              have hfz := HJ.out.2.1.free 3
              have hgl := hgb.lt
              have e0 : wr.drew.cell? ⟨X + 1, 3, none⟩ = some (.slice a3 n3 c3) := c3'
              have k0 : wr.drew.cell? ⟨g, 5, none⟩ = some (.int .i64 f.of) := f5
              have hso : SubOk s d f.of t := pcs_ok HF.out h17 HNE.out t (by rw [← HBS.out]; exact hmt)
              have HC2 := hid (HSUB.out wr.drew (.slice ua tn uc) t hbw.drew hbu HTL.out hso)
              have HJL2 : Hid ((bs3.take j).length ≤ 1099511627776) := by have := HB3L.out; show _ ≤ _; rw [List.length_take]; omega
              have HGV : Hid (g < W7.heap.size) := by have := HZV.out; have := HGX.out; show _ < _; omega
              clear hgb hxb hgr hat htj htk hmt htl hso hbw
              go_wp2_with fail
              go_region_law (first | (go_simp; go_at_call 22; (with_reducible refine HC2.out.mono ?_); rintro e w1 ⟨u1, u2, y, ⟨ho1, ho2⟩, hy, rfl, hbm, hap⟩; have hk1 : ∀ p u, wr.drew.cell? p = some u → w1.cell? p = some u := below_keeps hbm; have e1 : w1.cell? ⟨X + 1, 3, none⟩ = some (.slice a3 n3 c3) := hk1 _ _ e0; have k1 : w1.cell? ⟨g, 5, none⟩ = some (.int .i64 f.of) := hk1 _ _ k0; obtain ⟨a5, c5, w5, hr5, hB4, hB5, hS5⟩ := HJ.out.sub_push HZV.out h17 HJL2.out ((Below.refl wr.heap.size wr).drew.trans hbm) ho1 ho2 hy hap; have e5 : w5.cell? ⟨X + 1, 3, none⟩ = some (.slice a3 n3 c3) := (hB5.cell (p := ⟨X + 1, 3, none⟩) HZV.out).trans c3'; have k3 : w5.cell? ⟨g, 5, none⟩ = some (.int .i64 f.of) := (hB5.cell (p := ⟨g, 5, none⟩) HGV.out).trans k0; have z3 : w5.frozen? ⟨X + 1, 3, none⟩ = false := (hB5.frozen (p := ⟨X + 1, 3, none⟩) HZV.out).trans hfz; have e4 := (hB4.cell (p := ⟨X + 1, 3, none⟩) HZV.out).trans c3'; have HR2 := hid hr5; have HS7 := hid hS5; clear hr5 hS5 hB4 hB5 hk1 hap hbm) | (refine step_append_eq rfl (.tmp 92) (.tmp 101) _ rfl _ _ rfl rfl HR2.out ?_))
              all_goals
                go_wp2_with fail
                exact ⟨⟨j + 1, a2, n2, c2, _, _, _, by go_num, hlt, by rw [HTK.out]; exact HS7.out⟩, by simp [intOf]; omega⟩
            · have hkb : (f.kind == 17) = false := by simpa using h17
              have c2' := HJ.out.2.1.cell 2 _ rfl
              have hcv := hbu.str
              obtain ⟨a5, n5, c5, w7, hr, hB7, hS7⟩ := HJ.out.text_push HZV.out h17 HJL.out t
              have q1 := hB7.cell 2 _ rfl
              have q2 := hB7.free 2
              have q3 := hB7.lt
              have HR2 := hid hr
              have HS7 := hid hS7
              clear hr hS7 hB7 hbw hgb hxb hgr hat htj htk hmt htl
              go_wp2_with (at_builtin; refine wpList_append_eq rfl _ _ _ rfl _ _ rfl rfl HR2.out ?_)
              exact ⟨⟨j + 1, a5, n5, c5, a3, n3, c3, by go_num, hlt, by rw [HTK.out]; exact HS7.out⟩, by simp [intOf]; omega⟩
          · obtain rfl : j = vn := by omega
            have hfin : bs3.take j = bs3 := List.take_of_length_le (by rw [← HVN.out]; exact Nat.le_refl _)
            rw [hfin] at HJ
            have v0 := HJ.out.2.1.cell 0 _ rfl
            have v1 := HJ.out.2.1.cell 1 _ rfl
            have v2 := HJ.out.2.1.cell 2 _ rfl
            have v3 := HJ.out.2.1.cell 3 _ rfl
            have r0 := hxb.cell 0 _ rfl
            have r1 := hxb.cell 1 _ rfl
            have r2 := hxb.cell 2 _ rfl
            have r3 := hxb.cell 3 _ rfl
            have rf0 := hxb.free 0
            have rf1 := hxb.free 1
            have rf2 := hxb.free 2
            have rf3 := hxb.free 3
            have rl := hxb.lt
            have hgw := H.out.box.lt
            have hwX : w.heap.size = X := HX.out.symm
            have HV8 := HJ.out
            rw [HBS3.out, HBS.out] at HV8
            have hws4 := HWS4.out
            rw [HWS3.out] at hws4
            have hown : ∀ b, (Value.slice qa qn qc).ownBlock = some b → b < w.heap.size := fun b e => (H.out.words.own b e).2
            have HFIN := hid (HV8.done (w := w) (wv := .slice qa qn qc) HZV.out (show w.heap.size ≤ X + 1 by omega) (fun b e => hgr.block b (hown b e) (fun e2 => by injection e2 with e2; exact H.out.wg (by rw [e, e2]))) (fun b e => Nat.lt_of_lt_of_le (hown b e) hgr.size) HRUN.out HT.out HVV.out HNE.out HOK.out.number hws4)
            obtain ⟨hmany, hb1', hb2', hb3'⟩ := val_many (HFIN.out wr fun _ _ _ => rfl)
            rw [← hmany] at HQ
            have HGR2 := hid hgr
            clear hgb hbw hgr hxb hfin HV8 hws4 hown HBL HPS
            have hw1 : IntKind.i64.wrap ((rn : Int) + (n2 : Int)) = rn + n2 := IntWalk.i64_in _ (by omega)
            have hw2 : IntKind.i64.wrap ((rn : Int) + (n2 : Int) + (n3 : Int)) = rn + n2 + n3 := IntWalk.i64_in _ (by omega)
            go_wp2_with fail
            go_big_region
            all_goals
              go_wp2_with fail
              refine bodyPost_ret (v := .tuple #[.agg #[.int .i64 f.number, .slice ra rn rc, .slice a2 n2 c2, .slice a3 n3 c3], .bool (decide ((0 : Int) < (rn : Int) + (n2 : Int) + (n3 : Int)))]) ?_ rfl ?_
              · simp [results, Tryz.results42, go_sem, r0, r1, r2, r3]
              · rw [HQ.out]
                have hk : ∀ b, b ≠ X → (((((wr.setCell ⟨X, 0, none⟩ (.int .i64 f.number)).setCell ⟨X, 1, none⟩ (.slice ra rn rc)).setCell ⟨X, 2, none⟩ (.slice a2 n2 c2)).setCell ⟨X, 3, none⟩ (.slice a3 n3 c3)).drew).heap[b]? = wr.heap[b]? := fun b hb => by
                  show ((((wr.setCell ⟨X, 0, none⟩ (.int .i64 f.number)).setCell ⟨X, 1, none⟩ (.slice ra rn rc)).setCell ⟨X, 2, none⟩ (.slice a2 n2 c2)).setCell ⟨X, 3, none⟩ (.slice a3 n3 c3)).heap[b]? = wr.heap[b]?
                  rw [Below.heap_setCell _ _ _ b (by show b ≠ X; exact hb), Below.heap_setCell _ _ _ b (by show b ≠ X; exact hb), Below.heap_setCell _ _ _ b (by show b ≠ X; exact hb), Below.heap_setCell _ _ _ b (by show b ≠ X; exact hb)]
                refine ⟨_, _, _, _, ?_, ⟨HGR2.out.os, HGR2.out.tape, HGR2.out.output, by simpa using HGR2.out.size, fun b hb hne => (hk b (by omega)).trans (HGR2.out.block b hb hne)⟩, fun w2 hw2 => HFIN.out w2 fun b hb hc => ?_⟩
                · have hd : decide ((0 : Int) < (rn : Int) + (n2 : Int) + (n3 : Int)) = decide (0 < rn + n2 + n3) := by
                    by_cases h : 0 < rn + n2 + n3
                    · rw [decide_eq_true h, decide_eq_true (by omega)]
                    · rw [decide_eq_false h, decide_eq_false (by omega)]
                  rw [hd]
                · have hbX : b ≠ X := by
                    rcases hc with hc | hc
                    · omega
                    · have := (H.out.words.own b hc).2; omega
                  refine (hw2 b (by simpa using hb) ?_).trans (hk b hbX)
                  rcases hc with hc | hc
                  · exact .inl hc.1
                  · exact .inr hc
end Go.Proofs.YtbdeclkccchnoaaGreat
