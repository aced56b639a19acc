/- darningref09.Words: the words of a run, the code (runWords). Bytes of at most 2 to the 40. A []string of the call's own (StrsOwn): one more string appended. At most 2^40 strings. What a field's value is like in memory while its records are gone through (OfInv), and what it is at the end. No condition. -/
import Derived.Test.YtbhiddafbpingaaGreatZ09
import Derived.Test.YtbhiddafbpingaaGreatZ14
import Derived.Test.YtbhiddafbpingaaGreatZ17
import Derived.Test.YtbhiddafbpingaaGreatZ22
import Derived.Test.YtbhiddafbpingaaGreatZ24
import Derived.Test.YtbhiddafbpingaaGreatZ25
import Derived.Test.YtbhiddafbpingaaGreatZ27
import Derived.Test.YtbhiddafbpingaaGreatZ35
namespace Go.Proofs.YtbhiddafbpingaaGreat
open Go.RowKit

theorem rpieces_flat (wire : Nat) : ∀ (m : Nat) (l : List UInt8), l.length ≤ m → (runCount wire l).2 = 0 → (rpieces wire l).flatten = l
  | 0, l, h, _ => by
    obtain rfl : l = [] := List.length_eq_zero_iff.1 (by omega)
    rfl
  | m + 1, l, h, hc => by
    by_cases hl : l = []
    · subst hl; rfl
    · rcases runSize_cases wire l with ⟨n, e, h1, h2, h3⟩ | ⟨c, e, hc'⟩
      · rw [rpieces_step wire l hl n e, List.flatten_cons]
        rw [runCount_step wire l hl n e] at hc
        have h0 : (runCount wire (l.drop n)).2 = 0 := by
          by_cases h6 : (runCount wire (l.drop n)).2 = 0
          · exact h6
          · simp [h6] at hc
        rw [rpieces_flat wire m (l.drop n) (by rw [List.length_drop]; omega) h0, List.take_append_drop]
      · rw [runCount_bad wire l hl c (by omega) (by rw [e])] at hc
        simp at hc; omega
theorem endsF_get : ∀ (ps : List (List UInt8)) (i j : Nat), j < ps.length → (endsF i ps)[j]? = some ((i + (ps.take (j + 1)).flatten.length : Nat) : Int)
  | [], _, j, h => by simp at h
  | x :: r, i, 0, _ => by simp [endsF]
  | x :: r, i, j + 1, h => by
    have h2 := endsF_get r (i + x.length) j (by simpa using h)
    simp only [endsF, List.getElem?_cons_succ]
    rw [h2, List.take_succ_cons, List.flatten_cons, List.length_append, Nat.add_assoc]
theorem endsF_len : ∀ (ps : List (List UInt8)) (i : Nat), (endsF i ps).length = ps.length
  | [], _ => rfl
  | x :: r, i => by simp [endsF, endsF_len r]
theorem part_piece {ps : List (List UInt8)} {j : Nat} {x : List UInt8} (h : ps[j]? = some x) :
    (ps.take (j + 1)).flatten.length = (ps.take j).flatten.length + x.length ∧ (ps.take (j + 1)).flatten.length ≤ ps.flatten.length ∧ part ps.flatten (ps.take j).flatten.length (ps.take (j + 1)).flatten.length = x := by
  have hj := (List.getElem?_eq_some_iff.1 h).1
  have h1 : ps.take (j + 1) = ps.take j ++ [x] := by rw [List.take_add_one, h]; rfl
  have h2 : (ps.take (j + 1)).flatten.length = (ps.take j).flatten.length + x.length := by rw [h1]; simp
  have h3 : ps.flatten = (ps.take j).flatten ++ (x ++ (ps.drop (j + 1)).flatten) := by
    conv => lhs; rw [← List.take_append_drop j ps]
    rw [List.flatten_append, List.drop_eq_getElem_cons hj, List.flatten_cons]
    rw [(List.getElem?_eq_some_iff.1 h).2]
  refine ⟨h2, ?_, ?_⟩
  · rw [h2, h3]; simp
  · unfold part
    rw [h2, h3, List.drop_left, Nat.add_sub_cancel_left, List.take_left]

set_option maxRecDepth 100000 in
set_option maxHeartbeats 4000000 in
theorem ref09_Words {w : World} {v : Value} {l : List UInt8} (h : Bytes w v l) (hsm : l.length ≤ 1099511627776) (k : Int) (hk : knumber k = true) :
    Calls Tryz.prog 37 #[.int .i64 k, v] w (fun e w' => ∃ v', e = .returned (.tuple #[v', .int .i64 ((runWords k l).2 : Nat)]) ∧ WordsOwn w' w.heap.size v' (runWords k l).1 ∧ Below w.heap.size w w') := by
  have HE := hid (ref09_Ends2 h hsm k hk)
  obtain ⟨hlen, a, cap, rfl, -⟩ := h.open
  obtain ⟨x, HX⟩ : ∃ x, Hid (x = (runCount (kwire k) l).2) := ⟨_, rfl⟩
  obtain ⟨ps, HPS⟩ : ∃ ps, Hid (ps = if x = 0 then rpieces (kwire k) l else []) := ⟨_, rfl⟩
  have hFL : ps.flatten = l ∨ ps = [] := by
    rw [HPS.out]
    split
    · exact .inl (rpieces_flat _ _ _ (Nat.le_refl _) (by rw [← HX.out]; assumption))
    · exact .inr rfl
  have hps : ps.length ≤ l.length := by
    rw [HPS.out]
    split
    · exact rpieces_len _ _ _ (Nat.le_refl _)
    · simp
  obtain ⟨r1, HR1⟩ : ∃ r, Hid (r = runWords k l) := ⟨_, rfl⟩
  have hr1 : r1 = (ps.map (fun x => (kread k x).1), x) := by
    rw [HR1.out, HPS.out]
    unfold runWords kwords
    rw [← HX.out]
    by_cases h0 : x = 0
    · rw [if_pos h0, if_pos h0, h0]
    · rw [if_neg h0, if_neg h0]; rfl
  rw [← HR1.out, hr1]
  clear HR1 hr1
  have hE : (if x = 0 then endsF 0 (rpieces (kwire k) l) else []) = endsF 0 ps := by
    rw [HPS.out]; split <;> rfl
  rw [← HX.out, hE] at HE
  clear hE
  obtain ⟨n, HN⟩ : ∃ n, Hid (n = l.length) := ⟨_, rfl⟩
  have H := hid h
  have HK := hid hk
  have HFL := hid hFL
  obtain ⟨m, HM⟩ : ∃ m, Hid (m = ps.length) := ⟨_, rfl⟩
  rw [← HN.out] at hlen hsm H HE hps ⊢
  rw [← HM.out] at hps
  clear hk h hFL
  obtain ⟨Q, HQ⟩ : ∃ Q : Ending → World → Prop, Hid (Q = fun e w' => ∃ v', e = .returned (.tuple #[v', .int .i64 (x : Nat)]) ∧ WordsOwn w' w.heap.size v' (ps.map (fun x => (kread k x).1)) ∧ Below w.heap.size w w') := ⟨_, rfl⟩
  rw [← HQ.out]
  go_enter Tryz.func37, Tryz.ntmps37
  go_wp2_with (go_at_call 64; refine HE.out.mono ?_; rintro e w1 ⟨⟨o, rfl, hown⟩, hb1⟩)
  obtain ⟨oa, oc, ho⟩ := hown.form
  rw [endsF_len, ← HM.out] at ho
  subst ho
  have hEn : ∀ j x, ps[j]? = some x → ∃ b o, oa = some ⟨b, o, none⟩ ∧ w1.cell? ⟨b, o + j, none⟩ = some (.int .i64 ((ps.take (j + 1)).flatten.length : Nat)) := by
    intro j y hj
    have hj' := (List.getElem?_eq_some_iff.1 hj).1
    have hI : IntsAt w1 (.slice oa m oc) (endsF 0 ps) := hown.ints (by rw [endsF_len, ← HM.out]; omega) (by
      intro z hz
      obtain ⟨i, hi, rfl⟩ := List.getElem_of_mem hz
      have hi2 := hi
      rw [endsF_len] at hi2
      have e := endsF_get ps 0 i hi2
      rw [List.getElem?_eq_getElem hi] at e
      injection e with e
      have hle := (part_piece (List.getElem?_eq_getElem hi2)).2.1
      rcases HFL.out with hf | hf
      · rw [hf, ← HN.out] at hle
        rw [e]; constructor <;> omega
      · rw [hf] at hi2; simp at hi2)
    obtain ⟨-, a', cap', he, -, hat⟩ := hI.open
    cases he
    obtain ⟨-, b, o, ha, hc⟩ := hat j _ (endsF_get ps 0 j hj')
    exact ⟨b, o, ha, by rw [hc, Nat.zero_add]⟩
  have HEN := hid hEn
  have HB1 := hid hb1
  clear hEn hown hb1
  go_loopw [8, 9] (fun v8 v9 wr => ∃ i : Nat, v9 = .int .i64 (i : Int) ∧ i ≤ m ∧ Hid (WordsOwn wr w1.heap.size v8 ((ps.take i).map (fun x => (kread k x).1)) ∧ Below w1.heap.size w1 wr)) (fun _ v9 _ => m - (intOf v9).toNat)
  case atStart => exact ⟨0, rfl, by omega, World.ownsRow_nil _ _ _ _, Below.refl _ _⟩
  case round =>
    obtain ⟨i, rfl, hi, HI⟩ := hrel
    obtain ⟨va, vc, hvf⟩ := HI.out.1.form
    have hlen8 : ((ps.take i).map (fun x => (kread k x).1)).length = i := by rw [List.length_map, List.length_take, ← HM.out]; omega
    rw [hlen8] at hvf
    subst hvf
    have HBW : Hid (Below w.heap.size w wr) := HB1.out.trans (HI.out.2.mono HB1.out.size)
    by_cases hlt : i < m
    · obtain ⟨y, hy⟩ : ∃ y, ps[i]? = some y := ⟨_, List.getElem?_eq_getElem (by rw [← HM.out]; omega)⟩
      have hfl : ps.flatten = l := by
        rcases HFL.out with hf | hf
        · exact hf
        · rw [hf] at hy; simp at hy
      obtain ⟨hp1, hp2, hp3⟩ := part_piece hy
      rw [hfl, ← HN.out] at hp2
      rw [hfl] at hp3
      obtain ⟨b, o, ha, c1⟩ := HEN.out i y hy
      have g1 := below_keeps HI.out.2 _ _ c1
      have hix := index_run1 Tryz.underlying45 size_int ha i hlt (cap := oc)
      obtain ⟨fr, HFR⟩ : ∃ fr, Hid (fr = (ps.take i).flatten.length) := ⟨_, rfl⟩
      obtain ⟨en, HEE⟩ : ∃ en, Hid (en = (ps.take (i + 1)).flatten.length) := ⟨_, rfl⟩
      rw [← HFR.out, ← HEE.out] at hp1 hp3
      rw [← HEE.out] at hp2 g1
      have hV : Bytes wr (.slice a n cap) l := H.out.keep (below_keeps HBW.out)
      have hcap : n ≤ cap := by obtain ⟨_, _, a', c', e', h3, _⟩ := hV; cases e'; exact h3
      have hsl := slice_lh_run under_bytes size_u8 a n cap fr en (by omega) (by omega)
      have hxb := hV.sub HN.out fr en (by omega) hp2
      rw [hp3] at hxb
      have HXB := hid hxb
      obtain ⟨zw, HZW⟩ : ∃ zw, Hid (zw = kread k y) := ⟨_, rfl⟩
      obtain ⟨z1, z2⟩ := zw
      obtain ⟨v2, W2, hr2, hO2, hg2⟩ := HI.out.1.one z1 (by rw [hlen8]; omega) HI.out.2.size
      have HR2 := hid hr2
      have HO2 := hid hO2
      have HG2 := hid hg2
      have HY := hid hy
      obtain ⟨sv, HSV⟩ : ∃ sv, Hid (sliced a fr en cap 1 = sv) := ⟨_, rfl⟩
      rw [HSV.out] at hsl HXB
      have hfin : Hid (WordsOwn W2 w1.heap.size v2 ((ps.take (i + 1)).map (fun x => (kread k x).1)) ∧ Below w1.heap.size w1 W2) := by
        refine ⟨?_, ?_⟩
        · rw [List.take_add_one, HY.out, List.map_append]
          have := HO2.out
          have hz : (kread k y).1 = z1 := by rw [← HZW.out]
          simpa [hz] using this
        · exact HI.out.2.grown HG2.out HI.out.2.size (fun q e => by
            rcases World.ownsRow.lt HI.out.1 q e with ⟨h5, h6⟩
            exact h5)
      clear c1 ha hp1 hp3 hV hxb hr2 hO2 hg2 hy hfl
      by_cases hi0 : i = 0
      · have hfr : fr = 0 := by rw [HFR.out, hi0]; rfl
        subst hfr
        simp only [Int.natCast_zero] at hsl
        have hng : ¬ ((i : Int) > 0) := by omega
        clear hi0
        go_wp2_with (first | (go_at_call 39; refine (ref08_Read HK.out HXB.out).mono ?_; rintro e w' ⟨rfl, rfl⟩; rw [← HZW.out]) | (at_builtin; refine wpList_append_eq rfl _ _ _ rfl _ _ rfl rfl HR2.out ?_))
        go_roundw
        case rel => exact ⟨i + 1, by go_num, hlt, hfin⟩
        case measure => simp [intOf]; omega
      · obtain ⟨j, HJ⟩ : ∃ j, Hid (i = j + 1) := ⟨i - 1, by rw [Hid]; omega⟩
        obtain ⟨x', hx'⟩ : ∃ y, ps[j]? = some y := ⟨_, List.getElem?_eq_getElem (by have := HJ.out; rw [← HM.out]; omega)⟩
        obtain ⟨b', o', ha', c1'⟩ := HEN.out j x' hx'
        rw [← HJ.out, ← HFR.out] at c1'
        have g2 := below_keeps HI.out.2 _ _ c1'
        have hix2 := index_run1 Tryz.underlying45 size_int ha' j (show j < m by have := HJ.out; omega) (cap := oc)
        have hij : (i : Int) - 1 = j := by have := HJ.out; omega
        have hgt : ((i : Int) > 0) := by omega
        have hji : j < i := by have := HJ.out; omega
        clear hi0 ha' c1' hx'
        go_wp2_with (first | (go_at_call 39; refine (ref08_Read HK.out HXB.out).mono ?_; rintro e w' ⟨rfl, rfl⟩; rw [← HZW.out]) | (at_builtin; refine wpList_append_eq rfl _ _ _ rfl _ _ rfl rfl HR2.out ?_))
        go_roundw
        case rel => exact ⟨i + 1, by go_num, hlt, hfin⟩
        case measure => simp [intOf]; omega
    · obtain rfl : i = m := by omega
      have hfin : Hid (WordsOwn wr w.heap.size (.slice va i vc) (ps.map (fun x => (kread k x).1)) ∧ Below w.heap.size w wr) := by
        have h1 := HI.out.1
        rw [List.take_of_length_le (by rw [← HM.out]; exact Nat.le_refl _)] at h1
        exact ⟨h1.mono HB1.out.size, HBW.out⟩
      go_wp2_with fail
      rw [HQ.out]
      exact ⟨_, rfl, hfin.out⟩

end Go.Proofs.YtbhiddafbpingaaGreat

namespace Go.Proofs.YtbhiddafbpingaaGreat
open Go.RowKit

/-- A []string of the call's own. -/
def StrsOwn (w : World) (base : Nat) (v : Value) (l : List (List UInt8)) : Prop := w.ownsRow base 9 1 v l.length (l.map strV)
theorem info_string : (Tryz.prog.info? 9).map (fun i => (i.zero, i.size, i.bytes)) = some (some (.string ⟨#[]⟩), 1, 16) := by kernel_rfl
theorem under_strl : Tryz.prog.underlying 39 = some (.slice 9) := Tryz.underlying39
theorem StrsOwn.form {w : World} {base : Nat} {v : Value} {l : List (List UInt8)} (h : StrsOwn w base v l) : ∃ a c, v = .slice a l.length c := by
  rcases h.2 with ⟨h1, h2⟩ | ⟨g, cap, cur, hv, -⟩
  · exact ⟨none, 0, by rw [h1, h2]⟩
  · exact ⟨_, _, hv⟩
theorem StrsOwn.strs {w : World} {base : Nat} {v : Value} {l : List (List UInt8)} (h : StrsOwn w base v l) (hn : l.length ≤ 140737488355328) (hl : ∀ t ∈ l, t.length ≤ 140737488355328) : StrsAt w v l :=
  ⟨row_seg h hn, hl⟩
/-- one more string, laid in a block of its own ahead of the append -/
theorem StrsOwn.one {W : World} {base : Nat} {v : Value} {l : List (List UInt8)} (h : StrsOwn W base v l) (t : List UInt8) (hn : l.length + 1 ≤ 1099511627777) (hB : base ≤ W.heap.size) :
    ∃ v' w', (Builtin.append_ #[39, 39] 39 #[v, .slice (some ⟨W.heap.size, 0, none⟩) 1 1]).run Tryz.prog (W.alloc (.cells #[strV t] 9)) = .ok v' w' ∧ StrsOwn w' base v' (l ++ [t]) ∧ W.grownBy w' v.ownBlock := by
  have hA : Below W.heap.size W (W.alloc (.cells #[strV t] 9)) := (Below.refl _ _).alloc (Nat.le_refl _) _
  have hx : Seg (W.alloc (.cells #[strV t] 9)) (.slice (some ⟨W.heap.size, 0, none⟩) 1 1) 1 1 [strV t] := seg_blk (Blk.new W [strV t] _) 1 1 rfl (by omega)
  have h' : (W.alloc (.cells #[strV t] 9)).ownsRow base 9 1 v l.length (l.map strV) := row_keep h fun b _ _ he => hA.block b (Array.getElem?_eq_some_iff.1 he).1
  obtain ⟨v', w', h1, h2, h3, -⟩ := seg_append (P := Tryz.prog) _ base 39 39 9 (.string ⟨#[]⟩) 1 16 under_strl info_string rfl (by decide) v _ l.length 1 _ _ h' hx (by intro u hu; simp at hu; subst hu; rfl) (by omega) (by omega) (by simp; omega)
  refine ⟨v', w', h1, ?_, ?_⟩
  · unfold StrsOwn
    rw [List.length_append, List.map_append]
    exact h2
  · exact ⟨h3.os, h3.tape, h3.output, Nat.le_trans (by simp) h3.size, fun k hk hr => (h3.block k (by simp; omega) hr).trans (Below.heap_alloc W _ k hk)⟩

end Go.Proofs.YtbhiddafbpingaaGreat

namespace Go.Proofs.YtbhiddafbpingaaGreat
open Go.RowKit Go.Shelf

abbrev noneS : Value := .slice none 0 0
/-- the words s1, the texts s2, the messages s3, the joined bytes j of the records xs of a field f, in memory from block B on -/
def OfInv (s : List Mes) (d : Nat) (f : Fld) (l : List UInt8) (xs : List VW) (B : Nat) (w : World) (j s1 s2 s3 : Value) : Prop :=
  (knumber f.kind = true → s2 = noneS ∧ s3 = noneS ∧ j = noneS ∧ WordsOwn w B s1 ((counts f xs).flatMap (pieceW f l))) ∧
  (f.kind = 17 → s1 = noneS ∧ s2 = noneS ∧
    (f.rep = true → j = noneS ∧ RowsOwn (SubP d) 41 2 0 B w s3 (xs.flatMap fun x => tsub s d f.of (vbytes l x))) ∧
    (f.rep = false → s3 = noneS ∧ Own w B j (xs.flatMap (vbytes l)))) ∧
  (knumber f.kind = false → f.kind ≠ 17 → s1 = noneS ∧ s3 = noneS ∧ j = noneS ∧ StrsOwn w B s2 ((counts f xs).flatMap (pieceB f l)))

theorem num17 : knumber 17 = false := by decide
theorem own_form {w : World} {base : Nat} {v : Value} {l : List UInt8} (h : Own w base v l) : ∃ a c, v = .slice a l.length c := by
  rcases h.2 with ⟨h1, h2⟩ | ⟨g, cap, cur, hv, -⟩
  · exact ⟨none, 0, by rw [h1, h2]⟩
  · exact ⟨_, _, hv⟩
theorem OfInv.form {s : List Mes} {d : Nat} {f : Fld} {l : List UInt8} {xs : List VW} {B : Nat} {w : World} {j s1 s2 s3 : Value} (h : OfInv s d f l xs B w j s1 s2 s3) :
    ∃ a0 n0 c0 a1 n1 c1 a2 n2 c2 a3 n3 c3, j = .slice a0 n0 c0 ∧ s1 = .slice a1 n1 c1 ∧ s2 = .slice a2 n2 c2 ∧ s3 = .slice a3 n3 c3 := by
  obtain ⟨h1, h2, h3⟩ := h
  by_cases hk : knumber f.kind = true
  · obtain ⟨rfl, rfl, rfl, h4⟩ := h1 hk
    obtain ⟨a, c, rfl⟩ := h4.form
    exact ⟨_, _, _, _, _, _, _, _, _, _, _, _, rfl, rfl, rfl, rfl⟩
  · by_cases h17 : f.kind = 17
    · obtain ⟨rfl, rfl, h4, h5⟩ := h2 h17
      by_cases hr : f.rep = true
      · obtain ⟨rfl, h6⟩ := h4 hr
        obtain ⟨a, c, rfl⟩ := h6.form
        exact ⟨_, _, _, _, _, _, _, _, _, _, _, _, rfl, rfl, rfl, rfl⟩
      · obtain ⟨rfl, h6⟩ := h5 (by simpa using hr)
        obtain ⟨a, c, rfl⟩ := own_form h6
        exact ⟨_, _, _, _, _, _, _, _, _, _, _, _, rfl, rfl, rfl, rfl⟩
    · obtain ⟨rfl, rfl, rfl, h4⟩ := h3 (by simpa using hk) h17
      obtain ⟨a, c, rfl⟩ := h4.form
      exact ⟨_, _, _, _, _, _, _, _, _, _, _, _, rfl, rfl, rfl, rfl⟩
theorem OfInv.start (s : List Mes) (d : Nat) (f : Fld) (l : List UInt8) (B : Nat) (w : World) : OfInv s d f l [] B w noneS noneS noneS noneS := by
  have hc : counts f ([] : List VW) = [] := by unfold counts; split <;> rfl
  refine ⟨fun _ => ⟨rfl, rfl, rfl, ?_⟩, fun _ => ⟨rfl, rfl, fun _ => ⟨rfl, RowsOwn.nil _ _ _ _ _ _⟩, fun _ => ⟨rfl, own_nil _ _⟩⟩, fun _ _ => ⟨rfl, rfl, rfl, ?_⟩⟩
  · rw [hc]; exact World.ownsRow_nil _ _ _ _
  · rw [hc]; exact World.ownsRow_nil _ _ _ _
/-- what lies below B may change -/
theorem OfInv.keep {s : List Mes} {d : Nat} {f : Fld} {l : List UInt8} {xs : List VW} {B : Nat} {w w' : World} {j s1 s2 s3 : Value} (h : OfInv s d f l xs B w j s1 s2 s3)
    (hk : ∀ b, B ≤ b → b < w.heap.size → w'.heap[b]? = w.heap[b]?) (hs : w.heap.size ≤ w'.heap.size) : OfInv s d f l xs B w' j s1 s2 s3 := by
  have hr : ∀ {e : TypeId} {size n : Nat} {v : Value} {ys : List Value}, w.ownsRow B e size v n ys → w'.ownsRow B e size v n ys := fun h => row_keep h fun b _ hb he => hk b hb (Array.getElem?_eq_some_iff.1 he).1
  refine ⟨fun h1 => ?_, fun h1 => ?_, fun h1 h2 => ?_⟩
  · obtain ⟨g1, g2, g3, g4⟩ := h.1 h1
    exact ⟨g1, g2, g3, hr g4⟩
  · obtain ⟨g1, g2, g3, g4⟩ := h.2.1 h1
    exact ⟨g1, g2, fun hr => ⟨(g3 hr).1, (g3 hr).2.later (fun b hlt hc => hk b (by omega) hlt) hs⟩, fun hr' => ⟨(g4 hr').1, hr (g4 hr').2⟩⟩
  · obtain ⟨g1, g2, g3, g4⟩ := h.2.2 h1 h2
    exact ⟨g1, g2, g3, hr g4⟩
theorem counts_flat {α β : Type} (f : Fld) (xs : List α) (x : α) (g : α → List β) : (counts f (xs ++ [x])).flatMap g = (if f.rep = true then (counts f xs).flatMap g else []) ++ g x := by
  rw [counts_snoc, List.flatMap_append]
  by_cases h : f.rep = true
  · rw [if_pos h, if_pos h]; unfold counts; rw [if_pos h]; simp
  · rw [if_neg h, if_neg h]; simp
/-- one more record: of a number -/
theorem OfInv.num {s : List Mes} {d : Nat} {f : Fld} {l : List UInt8} {xs : List VW} {B : Nat} {w : World} {v : Value} {x : VW} (hk : knumber f.kind = true) (ws : List Nat) (hw : (if f.rep = true then (counts f xs).flatMap (pieceW f l) else []) ++ pieceW f l x = ws) (h : WordsOwn w B v ws) :
    OfInv s d f l (xs ++ [x]) B w noneS v noneS noneS := by
  refine ⟨fun _ => ⟨rfl, rfl, rfl, ?_⟩, fun h1 => ?_, fun h1 => ?_⟩
  · rw [counts_flat, hw]; exact h
  · rw [h1] at hk; exact absurd hk (by decide)
  · rw [h1] at hk; cases hk
theorem OfInv.text {s : List Mes} {d : Nat} {f : Fld} {l : List UInt8} {xs : List VW} {B : Nat} {w : World} {v : Value} {x : VW} (hk : knumber f.kind = false) (h17 : f.kind ≠ 17) (hx : x.run = false) (h : StrsOwn w B v ((if f.rep = true then (counts f xs).flatMap (pieceB f l) else []) ++ [vbytes l x])) :
    OfInv s d f l (xs ++ [x]) B w noneS noneS v noneS := by
  refine ⟨fun h1 => ?_, fun h1 => absurd h1 h17, fun _ _ => ⟨rfl, rfl, rfl, ?_⟩⟩
  · rw [h1] at hk; cases hk
  · rw [counts_flat]
    unfold pieceB at h ⊢
    rw [if_neg (show ¬ (x.run = true ∨ knumber f.kind = true) by rw [hx, hk]; simp)]
    exact h
theorem OfInv.sub {s : List Mes} {d : Nat} {f : Fld} {l : List UInt8} {xs : List VW} {B : Nat} {w : World} {v : Value} {x : VW} (h17 : f.kind = 17) (hr : f.rep = true)
    (h : RowsOwn (SubP d) 41 2 0 B w v ((xs.flatMap fun x => tsub s d f.of (vbytes l x)) ++ tsub s d f.of (vbytes l x))) : OfInv s d f l (xs ++ [x]) B w noneS noneS noneS v := by
  refine ⟨fun h1 => ?_, fun _ => ⟨rfl, rfl, fun _ => ⟨rfl, ?_⟩, fun h2 => ?_⟩, fun _ h1 => absurd h17 h1⟩
  · rw [h17] at h1; cases h1
  · rw [List.flatMap_append]; simpa using h
  · rw [hr] at h2; cases h2
theorem OfInv.join {s : List Mes} {d : Nat} {f : Fld} {l : List UInt8} {xs : List VW} {B : Nat} {w : World} {v : Value} {x : VW} (h17 : f.kind = 17) (hr : f.rep = false)
    (h : Own w B v (xs.flatMap (vbytes l) ++ vbytes l x)) : OfInv s d f l (xs ++ [x]) B w v noneS noneS noneS := by
  refine ⟨fun h1 => ?_, fun _ => ⟨rfl, rfl, fun h2 => ?_, fun _ => ⟨rfl, ?_⟩⟩, fun _ h1 => absurd h17 h1⟩
  · rw [h17] at h1; cases h1
  · rw [hr] at h2; cases h2
  · rw [List.flatMap_append]; simpa using h

theorem kread_lt (k : Int) (l : List UInt8) : (kread k l).1 < 2 ^ 64 := by
  unfold kread
  split
  · refine kcanon_lt k ?_
    split
    · rcases vread_cases l with ⟨x, n, e, -, -, -, hx⟩ | ⟨c, e, -⟩
      · rw [e]; exact hx
      · rw [e]; show 0 < _; decide
    · exact wordOf_lt l
  · show 0 < _; decide
theorem pieceW_lt {f : Fld} {l : List UInt8} {x : VW} {y : Nat} (h : y ∈ pieceW f l x) : y < 2 ^ 64 := by
  unfold pieceW at h
  split at h
  · unfold runWords at h
    split at h
    · unfold kwords at h
      obtain ⟨z, -, rfl⟩ := List.mem_map.1 h
      exact kread_lt _ _
    · simp at h
  · split at h
    · simp at h; subst h; exact kread_lt _ _
    · simp at h
/-- the bounds on all pieces -/
theorem words_bound {f : Fld} {l : List UInt8} {xs : List VW} (ht : ∀ x ∈ xs, Thin x) : ((counts f xs).flatMap (pieceW f l)).length ≤ vsum xs := by
  have hc := counts_sum f xs
  have := flat_sum (pieceW f l) List.length rfl (fun a b => List.length_append) (counts f xs) fun x hx => piece_words (ht x (counts_sub f xs hx))
  omega
theorem texts_bound {f : Fld} {l : List UInt8} {xs : List VW} (ht : ∀ x ∈ xs, Thin x) : ((counts f xs).flatMap (pieceB f l)).length ≤ vsum xs := by
  have hc := counts_sum f xs
  have := flat_sum (pieceB f l) List.length rfl (fun a b => List.length_append) (counts f xs) fun x hx => by
    have h1 := ht x (counts_sub f xs hx)
    unfold Thin at h1
    have := @pieceB_len f l x
    omega
  omega
theorem join_bound {l : List UInt8} {xs : List VW} (ht : ∀ x ∈ xs, Thin x) : (xs.flatMap (vbytes l)).length ≤ vsum xs :=
  flat_sum (vbytes l) List.length rfl (fun a b => List.length_append) xs fun x hx => by
    have h1 := ht x hx
    unfold Thin at h1
    have := vbytes_len l x
    omega
theorem tsub_len (s : List Mes) (d : Nat) (o : Int) (b : List UInt8) : (tsub s d o b).length ≤ 1 := by cases d <;> simp [tsub]
theorem subs_bound {s : List Mes} {d : Nat} {o : Int} {l : List UInt8} {xs : List VW} (ht : ∀ x ∈ xs, Thin x) : (xs.flatMap fun x => tsub s d o (vbytes l x)).length ≤ vsum xs :=
  flat_sum (fun x => tsub s d o (vbytes l x)) List.length rfl (fun a b => List.length_append) xs fun x hx => by
    have h1 := ht x hx
    unfold Thin at h1
    have := tsub_len s d o (vbytes l x)
    omega
theorem all_thin (fs : List Fld) (l : List UInt8) : ∀ x ∈ (vall fs l).1, Thin x := (vall_sum fs l l.length 0 (Nat.zero_le _)).2
theorem all_vsum (fs : List Fld) (l : List UInt8) : vsum (vall fs l).1 ≤ l.length := by have := (vall_sum fs l l.length 0 (Nat.zero_le _)).1; unfold vall; omega
theorem vsum_filter (p : VW → Bool) : ∀ (xs : List VW), vsum (xs.filter p) ≤ vsum xs
  | [] => by simp [vsum]
  | x :: r => by
    have := vsum_filter p r
    rw [List.filter_cons]
    unfold vsum at *
    split
    · rw [List.map_cons, List.sum_cons, List.map_cons, List.sum_cons]; omega
    · rw [List.map_cons, List.sum_cons]; omega
/-- of the first k views those of a field -/
theorem part_views (fs : List Fld) (l : List UInt8) (k : Nat) (q : Int) : (∀ x ∈ viewsOf ((vall fs l).1.take k) q, Thin x) ∧ vsum (viewsOf ((vall fs l).1.take k) q) ≤ l.length := by
  refine ⟨fun x hx => all_thin fs l x (List.mem_of_mem_take (viewsOf_mem hx).1), ?_⟩
  have h1 := vsum_filter (fun x => decide (x.k = q)) ((vall fs l).1.take k)
  have h2 := all_vsum fs l
  have h3 : vsum ((vall fs l).1.take k) ≤ vsum (vall fs l).1 := by
    conv => rhs; rw [← List.take_append_drop k (vall fs l).1, vsum_app]
    omega
  unfold viewsOf
  omega

/-- the value of a field, when all its records are gone through, where it is not one message -/
theorem OfInv.done {s : List Mes} {d : Nat} {f : Fld} {l : List UInt8} {xs : List VW} {B : Nat} {w : World} {j s1 s2 s3 : Value} (h : OfInv s d f l xs B w j s1 s2 s3)
    (hrun : ∀ x ∈ xs, x.run = true → knumber f.kind = true) (ht : ∀ x ∈ xs, Thin x) (hv : vsum xs ≤ 1099511627776) (hl : l.length ≤ 1099511627776) (hn : -9223372036854775808 ≤ f.number ∧ f.number ≤ 9223372036854775807)
    (hc : f.kind = 17 → f.rep = false → xs = []) : Apart 0 B w fun w2 => ValP' d w2 [.int .i64 f.number, s1, s2, s3] (fieldV (tsub s d) f l xs) := by
  intro w2 hw2
  have hr : ∀ {e : TypeId} {size n : Nat} {v : Value} {ys : List Value}, w.ownsRow B e size v n ys → w2.ownsRow B e size v n ys := fun h => row_keep h fun b _ hb he => hw2 b (Array.getElem?_eq_some_iff.1 he).1 (.inr hb)
  have hnil1 : WordsAt w2 noneS [] := ⟨row_seg (World.ownsRow_nil w2 0 27 1) (Nat.zero_le _), by simp⟩
  have hnil2 : StrsAt w2 noneS [] := ⟨row_seg (World.ownsRow_nil w2 0 9 1) (Nat.zero_le _), by simp⟩
  have hnil3 : SubsAt (MsgAt d) w2 noneS [] := (RowsOwn.nil (SubP d) 41 2 0 0 w2).at (by simp) fun _ _ _ => rfl
  have hw1 := words_bound (f := f) (l := l) ht
  have hw3 := texts_bound (f := f) (l := l) ht
  have hW : knumber f.kind = false → (counts f xs).flatMap (pieceW f l) = [] := by
    intro hk
    refine flat_nil _ _ fun x hx => ?_
    unfold pieceW
    have : ¬ x.run = true := fun h => by have := hrun x (counts_sub f xs hx) h; rw [hk] at this; cases this
    rw [if_neg this, if_neg (by rw [hk]; decide)]
  by_cases hk : knumber f.kind = true
  · have h17 : f.kind ≠ 17 := by intro e; rw [e] at hk; exact absurd hk (by decide)
    obtain ⟨rfl, rfl, rfl, h4⟩ := h.1 hk
    refine ⟨s1, noneS, noneS, rfl, hn, ?_, ?_, ?_⟩
    · exact ⟨row_seg (hr h4) (Nat.le_trans hw1 (by omega)), fun y hy => by
        obtain ⟨x, -, hx⟩ := List.mem_flatMap.1 (show y ∈ (counts f xs).flatMap (pieceW f l) from hy)
        exact pieceW_lt hx⟩
    · have : (fieldV (tsub s d) f l xs).texts = [] := by
        unfold fieldV
        simp only
        rw [if_neg h17]
        refine flat_nil _ _ fun x _ => ?_
        unfold pieceB
        rw [if_pos (.inr hk)]
      rw [this]; exact hnil2
    · have : (fieldV (tsub s d) f l xs).subs = [] := by unfold fieldV; simp only; rw [if_neg h17]
      rw [this]; exact hnil3
  · have hk' : knumber f.kind = false := by simpa using hk
    have hww : (fieldV (tsub s d) f l xs).words = [] := hW hk'
    by_cases h17 : f.kind = 17
    · obtain ⟨rfl, rfl, h4, h5⟩ := h.2.1 h17
      have htt : (fieldV (tsub s d) f l xs).texts = [] := by unfold fieldV; simp only; rw [if_pos h17]
      refine ⟨noneS, noneS, s3, rfl, hn, by rw [hww]; exact hnil1, by rw [htt]; exact hnil2, ?_⟩
      by_cases hrp : f.rep = true
      · have h6 := (h4 hrp).2
        have hss : (fieldV (tsub s d) f l xs).subs = xs.flatMap fun x => tsub s d f.of (vbytes l x) := by unfold fieldV; simp only; rw [if_pos h17, if_pos hrp]
        rw [hss]
        have hb := subs_bound (s := s) (d := d) (o := f.of) (l := l) ht
        exact h6.at (by omega) hw2
      · have hx := hc h17 (by simpa using hrp)
        obtain ⟨rfl, -⟩ := h5 (by simpa using hrp)
        have hss : (fieldV (tsub s d) f l xs).subs = [] := by unfold fieldV; simp only; rw [if_pos h17, if_neg hrp, if_pos hx]
        rw [hss]; exact hnil3
    · obtain ⟨rfl, rfl, rfl, h4⟩ := h.2.2 hk' h17
      refine ⟨noneS, s2, noneS, rfl, hn, by rw [hww]; exact hnil1, ?_, ?_⟩
      · have htt : (fieldV (tsub s d) f l xs).texts = (counts f xs).flatMap (pieceB f l) := by unfold fieldV; simp only; rw [if_neg h17]
        rw [htt]
        refine ⟨row_seg (hr h4) (by omega), fun t htm => ?_⟩
        obtain ⟨x, -, hx⟩ := List.mem_flatMap.1 htm
        unfold pieceB at hx
        split at hx
        · simp at hx
        · simp at hx
          subst hx
          have := vbytes_len l x
          have : (vbytes l x).length ≤ l.length := by unfold vbytes part; rw [List.length_take, List.length_drop]; omega
          omega
      · have : (fieldV (tsub s d) f l xs).subs = [] := by unfold fieldV; simp only; rw [if_neg h17]
        rw [this]; exact hnil3
/-- .. where it is one message -/
theorem OfInv.done1 {s : List Mes} {d : Nat} {f : Fld} {l : List UInt8} {xs : List VW} {B b : Nat} {w : World} {u1 u2 : Value} {y : M d} (h17 : f.kind = 17) (hr : f.rep = false) (hx : xs ≠ []) (hrun : ∀ x ∈ xs, x.run = false)
    (hn : -9223372036854775808 ≤ f.number ∧ f.number ≤ 9223372036854775807) (hy : tsub s d f.of (xs.flatMap (vbytes l)) = [y]) (hB : B ≤ b) (hb : Blk w b [u1, u2] 41)
    (hm : Apart 0 B w fun w2 => MsgAt d w2 (.agg #[u1, u2]) y) : Apart 0 B w fun w2 => ValP' d w2 [.int .i64 f.number, noneS, noneS, .slice (some ⟨b, 0, none⟩) 1 1] (fieldV (tsub s d) f l xs) := by
  intro w2 hw2
  have hww : (fieldV (tsub s d) f l xs).words = [] := by
    refine flat_nil _ _ fun x hx => ?_
    unfold pieceW
    rw [if_neg (by rw [hrun x (counts_sub f xs hx)]; decide), if_neg (by rw [h17]; decide)]
  have htt : (fieldV (tsub s d) f l xs).texts = [] := by unfold fieldV; simp only; rw [if_pos h17]
  have hss : (fieldV (tsub s d) f l xs).subs = [y] := by unfold fieldV; simp only; rw [if_pos h17, if_neg (by simp [hr]), if_neg hx, hy]
  have hb2 : Blk w2 b [u1, u2] 41 := (hw2 b hb.lt (.inr hB)).trans hb
  refine ⟨noneS, noneS, .slice (some ⟨b, 0, none⟩) 1 1, rfl, hn, ?_, ?_, ?_⟩
  · rw [hww]; exact ⟨row_seg (World.ownsRow_nil w2 0 27 1) (Nat.zero_le _), by simp⟩
  · rw [htt]; exact ⟨row_seg (World.ownsRow_nil w2 0 9 1) (Nat.zero_le _), by simp⟩
  · rw [hss]
    refine ⟨[[u1, u2]], rfl, by simp, seg_blk hb2 2 1 rfl (by omega), fun i r x hr hx => ?_⟩
    cases i with
    | zero => simp at hr hx; subst hr; subst hx; exact hm w2 hw2
    | succ i => simp at hr

end Go.Proofs.YtbhiddafbpingaaGreat
