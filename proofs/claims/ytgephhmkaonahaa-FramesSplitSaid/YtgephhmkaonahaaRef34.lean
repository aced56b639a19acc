/- darningref34.Split, Check; frames.Join, darningref34.Join. -/
import Derived.Test.YtgephhmkaonahaaFCheck
namespace Go.Proofs.Ytgephhmkaonahaa
open Go.RowKit

def good (es : List Ev) : List Ev := es.filter fun e => e.c == 0
/-- place and code of the one that is not there -/
def badAt (es : List Ev) : Nat × Nat := match bad es with
  | some x => (x.at', x.c)
  | none => (0, 0)

theorem good_bad (es : List Ev) (h : ∀ e ∈ es, e.c = 0) (x : Ev) (hx : x.c ≠ 0) : good (es ++ [x]) = es ∧ badAt (es ++ [x]) = (x.at', x.c) := by
  constructor
  · unfold good
    rw [List.filter_append, List.filter_eq_self.2 (by intro e he; simp [h e he])]
    simp [hx]
  · unfold badAt
    rw [bad_some (List.prefix_refl _) h hx]
theorem good_all (es : List Ev) (h : ∀ e ∈ es, e.c = 0) : good es = es ∧ badAt es = (0, 0) := by
  constructor
  · exact List.filter_eq_self.2 (by intro e he; simp [h e he])
  · unfold badAt
    rw [bad_none h]

/-- A [][]byte of the call's own, whose elements lie in what came in. -/
def RowsIn (W0 W : World) (base : Nat) (lv : Value) (ls : List (List UInt8)) : Prop :=
  ∃ vs : List Value, W.ownsRow base 22 1 lv ls.length vs ∧ vs.length = ls.length ∧ ∀ j, j < ls.length → Bytes W0 (vs.getD j undef) (ls.getD j [])

theorem bytes_one' {w : World} {v : Value} {l : List UInt8} (h : Bytes w v l) : v.oneCell' = true := by
  obtain ⟨_, _, a, cap, rfl, _⟩ := h
  rfl

theorem rowsIn_append {W0 W : World} {base : Nat} {lv x : Value} {ls : List (List UInt8)} {m : List UInt8} (h : RowsIn W0 W base lv ls) (hx : Bytes W0 x m) (hlen : ls.length + 1 ≤ 5497558138880) (hbase : base ≤ W.heap.size) :
    ∃ v' w', (Builtin.append_ #[23, 23] 23 #[lv, .slice (some ⟨W.heap.size, 0, none⟩) 1 1]).run Try.prog (W.alloc (.cells #[x] 22)) = .ok v' w' ∧ RowsIn W0 w' base v' (ls ++ [m]) ∧
      (W.alloc (.cells #[x] 22)).grownBy w' lv.ownBlock ∧ (∀ k, lv.ownBlock = some k → base ≤ k) := by
  obtain ⟨vs, h1, h2, h3⟩ := h
  have hseg : Seg (W.alloc (.cells #[x] 22)) (.slice (some ⟨W.heap.size, 0, none⟩) 1 1) 1 1 [x] := by
    refine ⟨rfl, by omega, some ⟨W.heap.size, 0, none⟩, 1, rfl, Nat.le_refl _, by omega, by simp, fun j u hu => ⟨_, _, rfl, ?_⟩⟩
    have := cell_one_new W x 22 j u hu
    rwa [addr_add] at this
  obtain ⟨v', w', hr, hO, hg, -⟩ := seg_append (P := Try.prog) (W.alloc (.cells #[x] 22)) base 23 23 22 (.slice none 0 0) 1 24 under_rows info_sl rfl (by decide) lv _ ls.length 1 vs [x]
    (World.ownsRow.alloc h1 _) hseg (by intro u hu; simp at hu; subst hu; exact bytes_one' hx) (by omega) (by omega) (by simp; omega)
  refine ⟨v', w', hr, ⟨vs ++ [x], by simpa using hO, by simp [h2], fun j hj => ?_⟩, hg, fun k hk => (World.ownsRow.lt h1 k hk).1⟩
  simp at hj
  by_cases hjl : j < ls.length
  · have := h3 j hjl
    simpa [List.getD, List.getElem?_append_left, hjl, h2] using this
  · have : j = ls.length := by omega
    subst this
    simpa [List.getD, h2] using hx

theorem RowsIn.form {W0 w : World} {base : Nat} {v : Value} {ls : List (List UInt8)} (h : RowsIn W0 w base v ls) : ∃ a c, v = .slice a ls.length c := by
  obtain ⟨vs, h1, -, -⟩ := h
  rcases h1.2 with ⟨rfl, h0⟩ | ⟨g, cap, cur, rfl, _⟩
  · exact ⟨none, 0, by rw [h0]⟩
  · exact ⟨_, _, rfl⟩
theorem RowsIn.bytesL {W0 W : World} {base : Nat} {lv : Value} {ls : List (List UInt8)} (h : RowsIn W0 W base lv ls) (hb : Below W0.heap.size W0 W) (hn : ls.length ≤ 140737488355328) : BytesL W lv ls :=
  let ⟨vs, h1, h2, h3⟩ := h
  ⟨vs, h2, row_seg h1 hn, fun j hj => (h3 j hj).below hb⟩

set_option maxRecDepth 100000 in
set_option maxHeartbeats 4000000 in
theorem ref34_Split {w : World} {v : Value} {l : List UInt8} (h : Bytes w v l) (hsm : l.length ≤ 1099511627776) :
    Calls Try.prog 11 #[v] w fun e w' => Below w.heap.size w w' ∧ ∃ lv, e = .returned (.tuple #[lv, .int .i64 (badAt (evs l 0 0)).1, .int .i64 (badAt (evs l 0 0)).2]) ∧ BytesL w' lv ((good (evs l 0 0)).map (Ev.load l)) := by
  obtain ⟨hlen, a, cap, rfl, -, -, -, -⟩ := h.open
  obtain ⟨ln, HN⟩ : ∃ ln, Hid (ln = l.length) := ⟨_, rfl⟩
  rw [← HN.out] at hlen h hsm ⊢
  have HV := hid h
  clear h
  obtain ⟨gs, HGS⟩ : ∃ gs, Hid (gs = good (evs l 0 0)) := ⟨_, rfl⟩
  obtain ⟨b1, HB1⟩ : ∃ b1, Hid (b1 = (badAt (evs l 0 0)).1) := ⟨_, rfl⟩
  obtain ⟨b2, HB2⟩ : ∃ b2, Hid (b2 = (badAt (evs l 0 0)).2) := ⟨_, rfl⟩
  rw [← HGS.out, ← HB1.out, ← HB2.out]
  go_enter Try.func11, Try.ntmps11
  go_wp2_with fail
  go_loopw [5, 6] (fun v5 v6 wr => ∃ (p i : Nat) (pre : List Ev), p ≤ ln ∧ v6 = .int .i64 p ∧ Hid (pre.length ≤ p) ∧ Hid (evs l 0 0 = pre ++ evs l p i) ∧ Hid (∀ e ∈ pre, e.c = 0) ∧ Hid (Below w.heap.size w wr ∧ RowsIn w wr w.heap.size v5 (pre.map (Ev.load l)))) (fun _ v6 _ => ln - (intOf v6).toNat)
  case atStart => exact ⟨0, 0, [], by omega, rfl, Nat.le_refl _, rfl, (by simp : ∀ e ∈ ([] : List Ev), e.c = 0), Below.refl _ _, [], World.ownsRow_nil _ _ _ _, rfl, fun j hj => by simp at hj⟩
  case round =>
    obtain ⟨p, i, pre, hp, rfl, HPL, HE, HG, HB⟩ := hrel
    by_cases hlt : p < ln
    · have hpl : p < l.length := by have := HN.out; omega
      have hbw := HV.out.keep (below_keeps HB.out.1)
      have HBW : Hid (Bytes wr (.slice a ln cap) l) := hbw
      clear hbw
      rcases fstep_cases l p (by omega) with ⟨c, hv, hc, e⟩ | ⟨x, m, hv, hx64, hm, hpm, hlong, e⟩ | ⟨x, m, hv, hm, hle, e⟩
      · have hev := evs_bad l p i c hpl (by omega) e
        obtain ⟨g1, g2⟩ := good_bad pre HG.out ⟨i, p, 0, 0, c⟩ (by show c ≠ 0; omega)
        rw [← hev, ← HE.out] at g1 g2
        obtain rfl : gs = pre := by rw [HGS.out, g1]
        obtain rfl : b1 = p := by rw [HB1.out, g2]
        obtain rfl : b2 = c := by rw [HB2.out, g2]
        have HVR := hid hv
        have ec : ((b2 : Int) != 0) = true := by simp; omega
        have HR := hid (HB.out.2.bytesL HB.out.1 (by simp; have := HPL.out; omega))
        clear hv e hev g1 g2 hc
        go_wp2_with (go_at_call 38; refine (ref02_Read_at HBW.out _ b1 rfl (by omega)).mono ?_; rintro e w' ⟨rfl, rfl⟩; rw [HVR.out])
        go_ret3
        exact ⟨HB.out.1, _, rfl, HR.out⟩
      · have hev := evs_bad l p i 3 hpl (by omega) e
        obtain ⟨g1, g2⟩ := good_bad pre HG.out ⟨i, p, 0, 0, 3⟩ (by simp)
        rw [← hev, ← HE.out] at g1 g2
        obtain rfl : gs = pre := by rw [HGS.out, g1]
        obtain rfl : b1 = p := by rw [HB1.out, g2]
        obtain rfl : b2 = 3 := by rw [HB2.out, g2]
        have HVR := hid hv
        rw [← HN.out] at hpm hlong
        have wl : IntKind.u64.wrap ((ln : Int) - (b1 : Int) - (m : Int)) = ln - b1 - m := IntWalk.u64_in _ (by omega)
        have hlong' : ((ln : Int) - (b1 : Int) - (m : Int)) < x := by omega
        have HR := hid (HB.out.2.bytesL HB.out.1 (by simp; have := HPL.out; omega))
        clear hv e hev g1 g2
        go_wp2_with (go_at_call 38; refine (ref02_Read_at HBW.out _ b1 rfl (by omega)).mono ?_; rintro e w' ⟨rfl, rfl⟩; rw [HVR.out])
        go_ret3
        exact ⟨HB.out.1, _, rfl, HR.out⟩
      · have hev := evs_good l p i _ _ hpl (by omega) e
        rw [← HN.out] at hle
        have HVR := hid hv
        have HEV := hid hev
        have wl : IntKind.u64.wrap ((ln : Int) - (p : Int) - (m : Int)) = ln - p - m := IntWalk.u64_in _ (by omega)
        have wx : IntKind.i64.wrap (x : Int) = x := IntWalk.i64_in _ (by omega)
        have hlong' : ¬ ((ln : Int) - (p : Int) - (m : Int)) < x := by omega
        have hcap : ln ≤ cap := by obtain ⟨_, _, a', c', e', h3, _⟩ := HV.out; cases e'; exact h3
        have hsl := slice_lh_run under_bytes size_u8 a ln cap (p + m) (p + m + x) (by omega) (by omega)
        have hxb := HV.out.sub HN.out (p + m) (p + m + x) (by omega) hle
        obtain ⟨sa, sc, HSV⟩ : ∃ sa sc, Hid (sliced a (p + m) (p + m + x) cap 1 = .slice sa x sc) := ⟨_, _, by show Value.slice _ (p + m + x - (p + m)) _ = _; rw [Nat.add_sub_cancel_left]⟩
        rw [HSV.out] at hsl hxb
        simp only [Int.natCast_add] at hsl
        obtain ⟨v2, W2, hr2, hO2, hg2, hob⟩ := rowsIn_append HB.out.2 hxb (by simp; have := HPL.out; omega) HB.out.1.size
        have HR2 := hid hr2
        have HO2 := hid hO2
        have hB2 : Below w.heap.size w W2 := (HB.out.1.alloc HB.out.1.size (.cells #[.slice sa x sc] 22)).grown hg2 (by simp; have := HB.out.1.size; omega) hob
        have HB2' := hid hB2
        clear hv e hev hr2 hO2 hg2 hob hB2 hxb
        go_wp2_with (first | (go_at_call 38; refine (ref02_Read_at HBW.out _ p rfl (by omega)).mono ?_; rintro e w' ⟨rfl, rfl⟩; rw [HVR.out]) | (at_builtin; refine wpList_append_eq rfl _ _ _ rfl _ _ rfl rfl HR2.out ?_))
        go_roundw
        case rel =>
          refine ⟨p + m + x, i + 1, pre ++ [⟨i, p, p + m, p + m + x, 0⟩], hle, by go_num, ?_, ?_, ?_, HB2'.out, ?_⟩
          · have := HPL.out
            show _ ≤ _
            simp; omega
          · rw [Hid, HE.out, HEV.out]; simp
          · intro e he
            rcases List.mem_append.1 he with he | he
            · exact HG.out e he
            · simp at he; subst he; rfl
          · have h9 := HO2.out
            have hld : Ev.load l ⟨i, p, p + m, p + m + x, 0⟩ = part l (p + m) (p + m + x) := by
              unfold Ev.load
              simp only
              rw [← HN.out, Nat.min_eq_left hle, Nat.min_eq_left (Nat.le_add_right _ _)]
            rw [List.map_append, List.map_cons, List.map_nil, hld]
            exact h9
        case measure => simp [intOf]; omega
    · obtain rfl : p = ln := by omega
      have hev : evs l 0 0 = pre := by rw [HE.out, evs_end l _ i (by rw [HN.out]; exact Nat.le_refl _), List.append_nil]
      obtain ⟨g1, g2⟩ := good_all pre HG.out
      obtain rfl : gs = pre := by rw [HGS.out, hev, g1]
      obtain rfl : b1 = 0 := by rw [HB1.out, hev, g2]
      obtain rfl : b2 = 0 := by rw [HB2.out, hev, g2]
      clear hev g1 g2
      have HR := hid (HB.out.2.bytesL HB.out.1 (by simp; have := HPL.out; omega))
      go_wp2_with fail
      go_ret3
      exact ⟨HB.out.1, _, rfl, HR.out⟩

theorem evs_form (l : List UInt8) : ∀ (k p i : Nat), l.length ≤ k + p → ∃ gs : List Ev, (∀ e ∈ gs, e.c = 0) ∧ (∀ (j : Nat) (e : Ev), gs[j]? = some e → e.i = i + j) ∧ (evs l p i = gs ∨ ∃ x, x.c ≠ 0 ∧ x.i = i + gs.length ∧ evs l p i = gs ++ [x])
  | 0, p, i, h => ⟨[], by simp, by simp, .inl (evs_end l p i (by omega))⟩
  | k + 1, p, i, h => by
    by_cases hp : l.length ≤ p
    · exact ⟨[], by simp, by simp, .inl (evs_end l p i hp)⟩
    · rcases fstep_cases l p (by omega) with ⟨c, -, hc, e⟩ | ⟨x, n, -, -, -, -, -, e⟩ | ⟨x, n, -, hn, hle, e⟩
      · exact ⟨[], by simp, by simp, .inr ⟨⟨i, p, 0, 0, c⟩, by show c ≠ 0; omega, rfl, evs_bad l p i c (by omega) (by omega) e⟩⟩
      · exact ⟨[], by simp, by simp, .inr ⟨⟨i, p, 0, 0, 3⟩, by simp, rfl, evs_bad l p i 3 (by omega) (by omega) e⟩⟩
      · obtain ⟨gs, g1, g2, g3⟩ := evs_form l k (p + n + x) (i + 1) (by omega)
        have hev := evs_good l p i _ _ (by omega) (by omega) e
        refine ⟨⟨i, p, p + n, p + n + x, 0⟩ :: gs, ?_, ?_, ?_⟩
        · intro e he
          rcases List.mem_cons.1 he with rfl | he
          · rfl
          · exact g1 e he
        · intro j e he
          cases j with
          | zero => simp at he; subst he; rfl
          | succ j => simp at he; have := g2 j e he; omega
        · rcases g3 with g3 | ⟨y, h1, h2, g3⟩
          · exact .inl (by rw [hev, g3])
          · exact .inr ⟨y, h1, by rw [h2]; simp; omega, by rw [hev, g3]; rfl⟩

/-- the events, apart -/
theorem evs_split (l : List UInt8) : (∀ e ∈ good (evs l 0 0), e.c = 0) ∧ (∀ (j : Nat) (e : Ev), (good (evs l 0 0))[j]? = some e → e.i = j) ∧
    ((badAt (evs l 0 0)).2 = 0 ∧ evs l 0 0 = good (evs l 0 0) ∨ ∃ x, x.c ≠ 0 ∧ x.i = (good (evs l 0 0)).length ∧ badAt (evs l 0 0) = (x.at', x.c) ∧ evs l 0 0 = good (evs l 0 0) ++ [x]) := by
  obtain ⟨gs, g1, g2, g3⟩ := evs_form l l.length 0 0 (by omega)
  rcases g3 with g3 | ⟨x, h1, h2, g3⟩
  · obtain ⟨e1, e2⟩ := good_all gs g1
    rw [g3, e1, e2]
    exact ⟨g1, fun j e h => by have := g2 j e h; omega, .inl ⟨rfl, rfl⟩⟩
  · obtain ⟨e1, e2⟩ := good_bad gs g1 x h1
    rw [g3, e1, e2]
    exact ⟨g1, fun j e h => by have := g2 j e h; omega, .inr ⟨x, h1, by omega, rfl, rfl⟩⟩

theorem size_rows (w : World) : (sizeOf 22).run Try.prog w = .ok 1 w := by kernel_rfl

set_option maxRecDepth 100000 in
set_option maxHeartbeats 4000000 in
theorem ref34_Check {w : World} {vs v : Value} {s : List Mes} {l : List UInt8} (hS : SchemaAt w vs s) (h : Bytes w v l) (hsm : l.length ≤ 1099511627776) (root d : Int) :
    Calls Try.prog 16 #[vs, .int .i64 root, v, .int .i64 d] w fun e w' => e = .returned (.tuple #[.int .i64 (fcheck s root d l).1, .int .i64 (fcheck s root d l).2.1, .int .i64 (fcheck s root d l).2.2]) ∧ Below w.heap.size w w' := by
  obtain ⟨x, HX⟩ : ∃ x, Hid (x = fcheck s root d l) := ⟨_, rfl⟩
  rw [← HX.out]
  have HA := hid (ref11_Args hS root d)
  obtain ⟨c, HC⟩ : ∃ c, Hid (c = argsCode s root d) := ⟨_, rfl⟩
  rw [← HC.out] at HA
  have HS := hid hS
  have HV := hid h
  obtain ⟨hslen, sa, scap, rfl, -⟩ := hS.open
  obtain ⟨hlen, a, cap, rfl, -, -, -, -⟩ := h.open
  obtain ⟨ln, HN⟩ : ∃ ln, Hid (ln = l.length) := ⟨_, rfl⟩
  obtain ⟨sn, HSN⟩ : ∃ sn, Hid (sn = s.length) := ⟨_, rfl⟩
  rw [← HN.out] at hlen HV hsm ⊢
  rw [← HSN.out] at hslen HS HA ⊢
  clear hS h
  by_cases hc : c = 0
  · subst hc
    have hx : x = fcheckGo s root d l (evs l 0 0) := by rw [HX.out]; unfold fcheck; rw [← HC.out, if_neg (by decide)]
    have HXG := hid hx
    clear hx
    obtain ⟨q1, q2, q3⟩ := evs_split l
    obtain ⟨gs, HGS⟩ : ∃ gs, Hid (gs = good (evs l 0 0)) := ⟨_, rfl⟩
    obtain ⟨b1, HB1⟩ : ∃ b1, Hid (b1 = (badAt (evs l 0 0)).1) := ⟨_, rfl⟩
    obtain ⟨b2, HB2⟩ : ∃ b2, Hid (b2 = (badAt (evs l 0 0)).2) := ⟨_, rfl⟩
    rw [← HGS.out] at q1 q2 q3
    have Q1 := hid q1
    have Q2 := hid q2
    have Q3 := hid q3
    clear q1 q2 q3
    go_enter Try.func16, Try.ntmps16
    go_wp2_with (first | (go_at_call 43; refine HA.out.mono ?_; rintro e w1 ⟨rfl, hb1⟩) | (go_at_call 11; refine (ref34_Split (HV.out.below (by assumption)) (by rw [← HN.out]; omega)).mono ?_; rintro e w2 ⟨hb2, lv, rfl, hlv⟩; rw [← HGS.out] at hlv; rw [← HB1.out, ← HB2.out]))
    have HBL := hid hlv
    obtain ⟨hgl, ra, rcap, rfl, -, hat⟩ := hlv.open
    have HAT := hid hat
    obtain ⟨gn, HGN⟩ : ∃ gn, Hid (gn = gs.length) := ⟨_, rfl⟩
    rw [List.length_map, ← HGN.out] at hgl HAT HBL ⊢
    have HB2' := hid (hb1.trans (hb2.mono hb1.size))
    clear hat hlv hb1 hb2
    go_loopw [15] (fun v15 wr => ∃ j : Nat, j ≤ gn ∧ v15 = .int .i64 j ∧ Hid (Below w2.heap.size w2 wr) ∧ Hid (x = fcheckGo s root d l ((evs l 0 0).drop j))) (fun v15 _ => gn - (intOf v15).toNat)
    case atStart => exact ⟨0, by omega, rfl, Below.refl _ _, HXG⟩
    case round =>
      obtain ⟨j, hj, rfl, HBR, HXJ⟩ := hrel
      have HBW := hid (HB2'.out.trans (HBR.out.mono HB2'.out.size))
      by_cases hlt : j < gn
      · have hat := HAT.out
        obtain ⟨b, o, xv, ha, cj, hbx⟩ := hat j hlt
        clear hat
        have hgj : j < gs.length := by rw [← HGN.out]; exact hlt
        obtain ⟨e, HE⟩ : ∃ e, Hid (gs[j]? = some e) := ⟨gs[j], by simp [Hid, hgj]⟩
        have hld : (gs.map (Ev.load l)).getD j [] = Ev.load l e := by simp [List.getD, HE.out]
        rw [hld] at hbx
        have hdrop : (evs l 0 0).drop j = e :: (evs l 0 0).drop (j + 1) := by
          have hj2 : (evs l 0 0)[j]? = some e := by
            rcases Q3.out with ⟨-, h⟩ | ⟨y, -, -, -, h⟩
            · rw [h]; exact HE.out
            · rw [h, List.getElem?_append_left hgj]; exact HE.out
          have hlen : j < (evs l 0 0).length := (List.getElem?_eq_some_iff.1 hj2).1
          rw [List.drop_eq_getElem_cons hlen]
          congr 1
          have := (List.getElem?_eq_some_iff.1 hj2).2
          exact this
        have hf : fone s root d l e = (j, (vcheck s root (Ev.load l e) d).1, (vcheck s root (Ev.load l e) d).2) := by
          unfold fone
          rw [if_neg (by have := Q1.out e (List.mem_of_getElem? HE.out); omega), Q2.out j e HE.out]
        obtain ⟨y, HY⟩ : ∃ y, Hid (y = vcheck s root (Ev.load l e) d) := ⟨_, rfl⟩
        rw [← HY.out] at hf
        have hxj := HXJ.out
        rw [hdrop, fcheckGo, hf] at hxj
        have hC := ref11_Check (HS.out.keep (below_keeps HBW.out)) (hbx.keep (below_keeps HBR.out)) (by have := part_le l (min e.ff (min e.tt l.length)) (min e.tt l.length); have := HN.out; unfold Ev.load; omega) root d
        rw [← HY.out] at hC
        have HCC := hid hC
        have HXX := hid hxj
        obtain ⟨y1, y2⟩ := y
        have hix := index_run1 under_rows size_rows ha j hlt (cap := rcap)
        have cj' := below_keeps HBR.out _ _ cj
        have hbl : b < wr.heap.size := World.block_lt_of_cell? wr _ cj'
        obtain ⟨-, xa, xc, rfl, -, -, -, -⟩ := hbx.open
        clear ha cj hgj hld hbx hdrop hf hxj hC HY
        by_cases hy : y2 = 0
        · subst hy
          have HX3 : Hid (x = fcheckGo s root d l ((evs l 0 0).drop (j + 1))) := by rw [Hid, HXX.out, if_neg (by simp)]
          go_wp2_with (go_at_call 44; refine HCC.out.mono ?_; rintro e w3 ⟨rfl, hb3⟩)
          go_roundw
          case rel => exact ⟨j + 1, hlt, by go_num, HBR.out.trans (hb3.mono HBR.out.size), HX3⟩
          case measure => simp [intOf]; omega
        · obtain rfl : x = (j, y1, y2) := by rw [HXX.out, if_pos (by simpa using hy)]
          have ey : ((y2 : Int) != 0) = true := by simp; omega
          clear hy
          go_wp2_with (go_at_call 44; refine HCC.out.mono ?_; rintro e w3 ⟨rfl, hb3⟩)
          go_ret3
          exact ⟨rfl, HBW.out.trans (hb3.mono HBW.out.size)⟩
      · obtain rfl : j = gn := by omega
        rcases Q3.out with ⟨h1, h2⟩ | ⟨y, h1, h2, h3, h4⟩
        · obtain rfl : b2 = 0 := by rw [HB2.out, h1]
          obtain rfl : x = (0, 0, 0) := by
            rw [HXJ.out, h2, List.drop_eq_nil_of_le (by rw [HGN.out]; exact Nat.le_refl _)]; rfl
          clear h1 h2
          go_wp2_with fail
          go_ret3
          exact ⟨rfl, HBW.out⟩
        · obtain rfl : b2 = y.c := by rw [HB2.out, h3]
          obtain rfl : b1 = y.at' := by rw [HB1.out, h3]
          have hfo : fone s root d l y = (j, y.at', y.c) := by unfold fone; rw [if_pos h1, h2, HGN.out]
          obtain rfl : x = (j, y.at', y.c) := by
            rw [HXJ.out, h4, HGN.out, List.drop_left, fcheckGo, hfo, if_pos h1]
            rw [HGN.out]
          have ey : ((y.c : Int) != 0) = true := by simp; omega
          clear h1 h2 h3 h4 hfo
          go_wp2_with fail
          go_ret3
          exact ⟨rfl, HBW.out⟩
  · obtain rfl : x = (0, 0, c) := by rw [HX.out]; unfold fcheck; rw [← HC.out, if_pos hc]
    have ec : ((c : Int) != 0) = true := by simp; omega
    clear hc
    go_enter Try.func16, Try.ntmps16
    go_wp2_with (go_at_call 43; refine HA.out.mono ?_; rintro e w1 ⟨rfl, hb1⟩)
    go_ret3
    exact ⟨rfl, hb1⟩

end Go.Proofs.Ytgephhmkaonahaa
