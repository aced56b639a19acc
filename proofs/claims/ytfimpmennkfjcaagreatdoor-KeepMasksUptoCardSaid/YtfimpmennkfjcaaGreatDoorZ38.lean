/- mask.steps: the walk. darningref12: Names, Shared, Same; path: shared, Under. Texts are at most 2^39 bytes. path: Under, Parent, Join. Texts are at most 2^39 bytes. -/
import Derived.Test.YtfimpmennkfjcaaGreatDoorZ36
import Derived.Test.YtfimpmennkfjcaaGreatDoorZ37
import Derived.BigQuiet
import Derived.Lib.LastIndexByte
namespace Go.Proofs.YtfimpmennkfjcaaGreatDoor
open Go.RowKit
theorem mapIs_later {K : Type} {kv : K → Value} {w w' : World} {r : Nat} {es : List (K × Value)} (h : MapIs w r kv es) (hb : Below w.heap.size w w') : MapIs w' r kv es := by
  unfold MapIs at *
  have hr : r < w.heap.size := (Array.getElem?_eq_some_iff.1 h).1
  rw [hb.block r hr]; exact h
theorem below_putMap {K : Type} {kv : K → Value} {B : Nat} {w w' : World} {r : Nat} {es : List (K × Value)} (h : Below B w w') (hr : B ≤ r) : Below B w (putMap w' r kv es) :=
  ⟨h.os, h.tape, h.output, by rw [putMap_size]; exact h.size, fun b hb => (putMap_other (by omega)).trans (h.block b hb)⟩
theorem stepsOf_take {s : List Mes} {k : Nat} (h : k < s.length) : stepsOf (s.take (k + 1)) 0 = stepsOf (s.take k) 0 ++ stepsFrom k (s.getD k .zero).fields := by
  rw [List.take_succ_eq_append_getElem h, stepsOf_append, List.length_take, Nat.min_eq_left (by omega), Nat.zero_add, List.getD_eq_getElem?_getD, List.getElem?_eq_getElem h]
  simp [stepsOf]
theorem stepsFrom_take {fs : List Fld} {k j : Nat} (h : j < fs.length) : stepsFrom k (fs.take (j + 1)) = stepsFrom k (fs.take j) ++ [(((k : Int), (fs.getD j .zero).number), (fs.getD j .zero).val)] := by
  unfold stepsFrom
  rw [List.take_succ_eq_append_getElem h, List.map_append, List.getD_eq_getElem?_getD, List.getElem?_eq_getElem h]
  rfl
/-- the next key is new -/
theorem steps_new {s : List Mes} (hs : sright s = true) {k j : Nat} (hk : k < s.length) (hj : j < (s.getD k .zero).fields.length) :
    getOf ((k : Int), ((s.getD k .zero).fields.getD j .zero).number) (stepsOf (s.take k) 0 ++ stepsFrom k ((s.getD k .zero).fields.take j)) = none := by
  refine getOf_miss fun e he hh => ?_
  rcases List.mem_append.1 he with h | h
  · have h1 := stepsOf_key _ _ e h
    have h2 := congrArg Prod.fst hh
    simp [List.length_take] at h1 h2
    omega
  · obtain ⟨f, hf, rfl⟩ := List.mem_map.1 h
    have h2 : f.number = ((s.getD k .zero).fields.getD j .zero).number := congrArg Prod.snd hh
    have hp := sright_apart hs _ (getD_memM s k .zero hk)
    rw [List.pairwise_iff_getElem] at hp
    obtain ⟨i, hi, e⟩ := List.getElem_of_mem hf
    have hij : i < j := by rw [List.length_take] at hi; omega
    have h3 := (hp i j (by omega) hj hij).1
    apply h3
    rw [List.getElem_take] at e
    rw [e, h2, List.getD_eq_getElem?_getD, List.getElem?_eq_getElem hj]; rfl
def StepsPost (w : World) (s : List Mes) (e : Ending) (w' : World) : Prop := ∃ r, e = .returned (.map (some r)) ∧ MapIs w' r stepK (stepsOf s 0) ∧ Below w.heap.size w w'
set_option maxRecDepth 100000 in
set_option maxHeartbeats 4000000 in
theorem mask_steps {w : World} {sv : Value} {s : List Mes} (hS : SchemaAt w sv s) (hs : sright s = true) :
    Calls Tryz.prog 90 #[sv] w (StepsPost w s) := by
  have HSR := hid hs
  obtain ⟨hm, sa, sc, rfl, hsat⟩ := hS.open
  obtain ⟨m, HM⟩ : ∃ m, Hid (m = s.length) := ⟨_, rfl⟩
  rw [← HM.out] at hm hsat ⊢
  have HSAT := hid hsat
  have hmm := @run_makeMap Tryz.prog
  have HM0 : Hid (MapIs (w.alloc (.map #[] 0)) w.heap.size stepK [] ∧ Below w.heap.size w (w.alloc (.map #[] 0))) := ⟨heap_alloc_new w _, (Below.refl _ _).alloc (Nat.le_refl _) _⟩
  clear hS hs hsat
  go_enter Tryz.func90, Tryz.ntmps90
  go_wp2_with fail
  clear hmm
  go_loopw [11] (fun v11 wr => ∃ k : Nat, v11 = .int .i64 k ∧ k ≤ m ∧ Hid (MapIs wr w.heap.size stepK (stepsOf (s.take k) 0) ∧ Below w.heap.size w wr)) (fun v11 _ => m - (intOf v11).toNat)
  case atStart => exact ⟨0, rfl, by omega, HM0.out⟩
  case round =>
    obtain ⟨k, rfl, hk, HI⟩ := hrel
    by_cases hlt : k < m
    · obtain ⟨b2, o2, fv, ha2, hnl, g1, g2, hF⟩ := HSAT.out k hlt
      have hix2 := index_run Tryz.underlying23 size_mes ha2 k hlt (cap := sc)
      have hkp := below_keeps HI.out.2
      replace g1 := hkp _ _ g1
      replace g2 := hkp _ _ g2
      obtain ⟨fs, HFS⟩ : ∃ fs, Hid (fs = (s.getD k .zero).fields) := ⟨_, rfl⟩
      rw [← HFS.out] at hF
      obtain ⟨nm, HNM⟩ : ∃ nm, Hid (nm = (s.getD k .zero).name) := ⟨_, rfl⟩
      rw [← HNM.out] at g1
      obtain ⟨hfl, fa, fc, rfl, hfat⟩ := hF.open
      obtain ⟨fn, HFN⟩ : ∃ fn, Hid (fn = fs.length) := ⟨_, rfl⟩
      rw [← HFN.out] at hfl hfat g2
      have HFAT := hid hfat
      obtain ⟨wo, rfl⟩ : ∃ wo : World, wo = wr := ⟨_, rfl⟩
      clear ha2 hnl hF hkp hfat
      go_wp2_with fail
      go_loopw [19] (fun v19 wr => ∃ j : Nat, v19 = .int .i64 j ∧ j ≤ fn ∧ Hid (MapIs wr w.heap.size stepK (stepsOf (s.take k) 0 ++ stepsFrom k (fs.take j)) ∧ Below w.heap.size w wr)) (fun v19 _ => fn - (intOf v19).toNat)
      case atStart =>
        refine ⟨0, rfl, by omega, ?_, ?_⟩
        · rw [List.take_zero]; simp only [stepsFrom, List.map_nil, List.append_nil]
          exact mapIs_later HI.out.1 (by (repeat (first | with_reducible exact Below.refl _ _ | with_reducible refine Below.setCell ?_ (by first | omega | (simp; omega) | (simp; done)) _ | with_reducible refine Below.alloc ?_ (by first | omega | (simp; omega) | (simp; done)) _ | with_reducible refine below_drewN ?_ _ | with_reducible refine Below.drew ?_)))
        · refine HI.out.2.trans (Below.mono ?_ HI.out.2.size)
          (repeat (first | with_reducible exact Below.refl _ _ | with_reducible refine Below.setCell ?_ (by first | omega | (simp; omega) | (simp; done)) _ | with_reducible refine Below.alloc ?_ (by first | omega | (simp; omega) | (simp; done)) _ | with_reducible refine below_drewN ?_ _ | with_reducible refine Below.drew ?_))
      case round =>
        obtain ⟨j, rfl, hj, HJ⟩ := hrel
        by_cases hlt2 : j < fn
        · obtain ⟨b3, o3, ha3, hok, f0, f1, f2, f3, f4, f5⟩ := HFAT.out j hlt2
          have hix3 := index_run Tryz.underlying65 size_fld ha3 j hlt2 (cap := fc)
          have hkp := below_keeps HJ.out.2
          replace f0 := hkp _ _ f0
          replace f1 := hkp _ _ f1
          replace f2 := hkp _ _ f2
          replace f3 := hkp _ _ f3
          replace f4 := hkp _ _ f4
          replace f5 := hkp _ _ f5
          obtain ⟨f, HF⟩ : ∃ f, Hid (f = fs.getD j .zero) := ⟨_, rfl⟩
          have HST : Hid (stepsFrom k (fs.take (j + 1)) = stepsFrom k (fs.take j) ++ [(((k : Int), f.number), f.val)]) := by
            rw [Hid, stepsFrom_take (by rw [← HFN.out]; exact hlt2), HF.out]
          have hnew : getOf ((k : Int), f.number) (stepsOf (s.take k) 0 ++ stepsFrom k (fs.take j)) = none := by
            have := steps_new HSR.out (k := k) (j := j) (by rw [← HM.out]; exact hlt) (by rw [← HFS.out, ← HFN.out]; exact hlt2)
            rw [← HFS.out, ← HF.out] at this
            exact this
          rw [← HF.out] at f0 f1 f2 f3 f4 f5
          obtain ⟨es, HES⟩ : ∃ es, Hid (es = stepsOf (s.take k) 0 ++ stepsFrom k (fs.take j)) := ⟨_, rfl⟩
          rw [← HES.out] at hnew
          have HEN : Hid (stepsOf (s.take k) 0 ++ stepsFrom k (fs.take (j + 1)) = es ++ [(((k : Int), f.number), f.val)]) := by
            rw [Hid, HST.out, HES.out, List.append_assoc]
          have hMI : MapIs wr w.heap.size stepK es := by rw [HES.out]; exact HJ.out.1
          obtain ⟨fname, fnum, fkind, frep, fpack, fof⟩ := f
          have hA : Below wr.heap.size wr (wr.alloc (.cells #[.string fname, .int .i64 fnum, .int .i64 fkind, .bool frep, .bool fpack, .int .i64 fof] 64)) := (Below.refl _ _).alloc (Nat.le_refl _) _
          have hMA := mapIs_later hMI hA
          have hins := map_insert (P := Tryz.prog) step_ok Tryz.underlying151 hMA ((k : Int), fnum) (Fld.val ⟨fname, fnum, fkind, frep, fpack, fof⟩) hnew
          unfold stepK Fld.val at hins
          obtain ⟨W, HW⟩ : ∃ W, Hid (W = putMap (wr.alloc (.cells #[.string fname, .int .i64 fnum, .int .i64 fkind, .bool frep, .bool fpack, .int .i64 fof] 64)) w.heap.size stepK (es ++ [(((k : Int), fnum), Fld.val ⟨fname, fnum, fkind, frep, fpack, fof⟩)])) := ⟨_, rfl⟩
          have HREL : Hid (MapIs W w.heap.size stepK (stepsOf (s.take k) 0 ++ stepsFrom k (fs.take (j + 1))) ∧ Below w.heap.size w W) := by
            rw [Hid, HEN.out, HW.out]
            have hsz : w.heap.size < (wr.alloc (.cells #[.string fname, .int .i64 fnum, .int .i64 fkind, .bool frep, .bool fpack, .int .i64 fof] 64)).heap.size := (Array.getElem?_eq_some_iff.1 hMA).1
            exact ⟨putMap_is hsz, below_putMap (HJ.out.2.alloc HJ.out.2.size _) (Nat.le_refl _)⟩
          have HINS : Hid ((Instr.mapUpdate 151 (.map (some w.heap.size)) (.agg #[.int .i64 (k : Int), .int .i64 fnum]) (.agg #[.string fname, .int .i64 fnum, .int .i64 fkind, .bool frep, .bool fpack, .int .i64 fof])).run Tryz.prog (wr.alloc (.cells #[.string fname, .int .i64 fnum, .int .i64 fkind, .bool frep, .bool fpack, .int .i64 fof] 64)) = .ok () W) := by
            rw [Hid, HW.out]; exact hins
          have hins2 := HINS.out
          simp only at f0 f1 f2 f3 f4 f5
          clear hins hMA hA hMI hnew hok ha3 hkp
          go_wp2_with fail
          go_roundw
          case rel => exact ⟨j + 1, by go_num, hlt2, HREL.out⟩
          case measure => simp [intOf]; omega
        · obtain rfl : j = fn := by omega
          have HREL : Hid (MapIs wr w.heap.size stepK (stepsOf (s.take (k + 1)) 0) ∧ Below w.heap.size w wr) := by
            have h1 := HJ.out.1
            rw [show fs.take j = fs from List.take_of_length_le (by rw [HFN.out]; exact Nat.le_refl _), HFS.out] at h1
            rw [Hid, stepsOf_take (by rw [← HM.out]; exact hlt)]
            exact And.intro h1 HJ.out.2
          clear hlt2
          go_wp2_with fail
          go_roundw
          case rel => exact ⟨k + 1, by go_num, hlt, HREL.out⟩
          case measure => simp [intOf]; omega
    · obtain rfl : k = m := by omega
      have HFIN : Hid (MapIs wr w.heap.size stepK (stepsOf s 0)) := by
        have h1 := HI.out.1
        rw [List.take_of_length_le (by rw [← HM.out]; exact Nat.le_refl _)] at h1
        exact h1
      go_wp2_with fail
      go_ret
      exact ⟨_, rfl, HFIN.out, HI.out.2⟩
end Go.Proofs.YtfimpmennkfjcaaGreatDoor
namespace Go.Proofs.YtfimpmennkfjcaaGreatDoor
open Go.RowKit
end Go.Proofs.YtfimpmennkfjcaaGreatDoor
namespace Go.Proofs.YtfimpmennkfjcaaGreatDoor
open Go.RowKit
theorem split_use {w : World} {p : List UInt8} {y : Bool} (hy : pathOk p = y) : ∀ e w', SplitPost w p e w' → ∃ (v' : Value) (c : Int), e = .returned (.tuple #[v', .int .u8 c]) ∧ Hid (c = if y = true then 0 else 12) ∧ StrsOwn w' w.heap.size v' (if y = true then sdot p else []) ∧ Below w.heap.size w w' := by
  rintro e w' ⟨v', h1, h2, h3⟩
  subst hy
  refine ⟨v', _, h1, ?_, h2, h3⟩
  cases pathOk p <;> rfl
theorem sdot_strs {w : World} {base : Nat} {v : Value} {p : List UInt8} (h : StrsOwn w base v (sdot p)) (hp : p.length ≤ 549755813888) : StrsAt w v (sdot p) :=
  h.strs (by have := sdot_len p; omega) fun t ht => by have := sdot_mem_len p t ht; omega
theorem names_no46 {l : List (List UInt8)} (h : namesOk l = true) : ∀ x ∈ l, (46 : UInt8) ∉ x := by
  intro x hx hm
  unfold namesOk at h
  have h1 := List.all_eq_true.1 h x hx
  unfold nameOk at h1
  rw [Bool.and_eq_true] at h1
  obtain ⟨k, hk⟩ := List.mem_iff_getElem?.1 hm
  obtain ⟨hkl, hk2⟩ := List.getElem?_eq_some_iff.1 hk
  have h2 := List.all_eq_true.1 h1.1 k (List.mem_range.2 (by rw [str_size]; exact hkl))
  have hb : byteAt ⟨x.toArray⟩ k = 46 := by simp [byteAt, hkl, hk2]
  rw [hb] at h2
  unfold charOk letterOk at h2
  simp at h2
def joinOk (l : List (List UInt8)) : Bool := namesOk l && decide (1 ≤ l.length ∧ l.length ≤ 65)
theorem joinOk_iff (l : List (List UInt8)) : (pathOk (sjoin l) && decide (sdot (sjoin l) = l)) = joinOk l := by
  by_cases h : joinOk l = true
  · rw [h]
    unfold joinOk at h
    rw [Bool.and_eq_true] at h
    have h2 := of_decide_eq_true h.2
    have h3 : sdot (sjoin l) = l := sdot_sjoin (fun e => by rw [e] at h2; simp at h2) (names_no46 h.1)
    rw [pathOk, h3, h.1]
    simp [h2.2]
  · have hf : joinOk l = false := by simpa using h
    rw [hf]
    by_cases h3 : sdot (sjoin l) = l
    · have : pathOk (sjoin l) = false := by
        cases hp : pathOk (sjoin l) with
        | false => rfl
        | true =>
          exfalso
          apply h
          unfold pathOk at hp
          rw [h3, Bool.and_eq_true] at hp
          unfold joinOk
          rw [hp.2, Bool.true_and]
          refine decide_eq_true ⟨?_, of_decide_eq_true hp.1⟩
          obtain ⟨x, r, e⟩ := sdot_cons (sjoin l)
          rw [h3] at e
          rw [e]; simp
      rw [this, Bool.false_and]
    · rw [decide_eq_false h3, Bool.and_false]
theorem map_strs : ∀ l : List (List UInt8), (l.map fun t => (⟨t.toArray⟩ : ByteArray)).map (fun s : ByteArray => s.data.toList) = l
  | [] => rfl
  | x :: r => by rw [List.map_cons, List.map_cons, map_strs r]
theorem equal_strs {w : World} {v u : Value} {l m : List (List UInt8)} (h : StrsAt w v l) (hu : StrsAt w u m) :
    Calls Tryz.prog 130 #[v, u] w fun e w' => e = .returned (.bool (decide (l = m))) ∧ Below w.heap.size w w' := by
  obtain ⟨hl, a, c, rfl, -, hat⟩ := h.open
  obtain ⟨hm, a2, c2, rfl, -, hbt⟩ := hu.open
  by_cases hn : l.length = m.length
  · by_cases h0 : l.length = 0
    · obtain rfl : l = [] := List.eq_nil_of_length_eq_zero h0
      obtain rfl : m = [] := List.eq_nil_of_length_eq_zero (by omega)
      refine (Tryz.slices_Equal_string_empty a a2 c 0 c2 w (by omega)).mono ?_
      rintro e w' ⟨h1, rfl⟩
      exact ⟨by rw [h1]; simp, Below.refl _ _⟩
    · obtain ⟨-, b, o, rfl, -⟩ := hat 0 _ (List.getElem?_eq_getElem (by omega))
      obtain ⟨-, b2, o2, rfl, -⟩ := hbt 0 _ (List.getElem?_eq_getElem (by omega))
      have hc : ∀ (l : List (List UInt8)) (b o : Nat), (∀ k t, l[k]? = some t → t.length ≤ 140737488355328 ∧ ∃ b' o', (some ⟨b, o, none⟩ : Option Addr) = some ⟨b', o', none⟩ ∧ w.cell? ⟨b', o' + k, none⟩ = some (strV t)) →
          ∀ j, j < (l.map fun t => (⟨t.toArray⟩ : ByteArray)).length → w.cell? ⟨b, o + j, none⟩ = some (.string ((l.map fun t => (⟨t.toArray⟩ : ByteArray)).getD j ByteArray.empty)) := by
        intro l b o hat j hj
        rw [List.length_map] at hj
        obtain ⟨-, b', o', e, hcell⟩ := hat j _ (List.getElem?_eq_getElem hj)
        cases e
        rw [hcell]
        simp [strV, hj]
      refine (Tryz.slices_Equal_string b o l.length c b2 o2 m.length c2 (l.map fun t => ⟨t.toArray⟩) (m.map fun t => ⟨t.toArray⟩) w (by simp) (by simp) (by omega) (by omega) (hc l b o hat) (hc m b2 o2 hbt)).mono ?_
      rintro e w' ⟨h1, q, rfl⟩
      refine ⟨?_, below_drewN (Below.refl _ _) _⟩
      rw [h1, List.take_of_length_le (by simp), List.take_of_length_le (by simp)]
      have : ((l.map fun t => (⟨t.toArray⟩ : ByteArray)) = m.map fun t => ⟨t.toArray⟩) ↔ l = m := by
        constructor
        · intro e
          have := congrArg (List.map fun s : ByteArray => s.data.toList) e
          rwa [map_strs, map_strs] at this
        · rintro rfl; rfl
      rw [decide_eq_decide.2 this]
  · refine (Tryz.slices_Equal_string_lens a a2 l.length c m.length c2 w hn).mono ?_
    rintro e w' ⟨h1, rfl⟩
    exact ⟨by rw [h1, decide_eq_false (fun e => hn (by rw [e]))], Below.refl _ _⟩
theorem join_strs {w : World} {v : Value} {l : List (List UInt8)} (h : StrsAt w v l) (hw : twt l ≤ 549755813888) :
    Calls Tryz.prog 129 #[v, .string ⟨#[46]⟩] w fun e w' => e = .returned (strV (sjoin l)) ∧ Below w.heap.size w w' := by
  obtain ⟨hl, a, c, rfl, -, hat⟩ := h.open
  have hcap : l.length ≤ c := by
    obtain ⟨⟨_, _, a', c', e, h3, _⟩, _⟩ := h
    cases e; exact h3
  by_cases h0 : l.length = 0
  · obtain rfl : l = [] := List.eq_nil_of_length_eq_zero h0
    refine (Tryz.strings_Join_none a c ⟨#[46]⟩ w).mono ?_
    rintro e w' ⟨h1, rfl⟩
    exact ⟨h1, Below.refl _ _⟩
  · obtain ⟨-, b, o, rfl, hc0⟩ := hat 0 _ (List.getElem?_eq_getElem (by omega))
    have hmap : (l.map fun t => (⟨t.toArray⟩ : ByteArray)).map (·.data.toList) = l := map_strs l
    have hj := Tryz.strings_Join b o c (l.map fun t => ⟨t.toArray⟩) ⟨#[46]⟩ w (fun j x hx => by
      simp only [List.getElem?_map, Option.map_eq_some_iff] at hx
      obtain ⟨t, ht, rfl⟩ := hx
      obtain ⟨-, b', o', e, hcell⟩ := hat j t ht
      cases e
      exact hcell) (World.block_lt_of_cell? w _ hc0) (by simpa using hl) (by simpa using hcap) (by
        rw [hmap]
        show (Lib.join l [46]).length ≤ _
        rw [sjoin_lib]
        have := sjoin_len l
        omega)
    rw [hmap, List.length_map] at hj
    refine hj.mono ?_
    rintro e w' ⟨h1, h2⟩
    refine ⟨?_, h2⟩
    rw [h1]
    show Ending.returned (.string ⟨(Lib.join l [46]).toArray⟩) = _
    rw [sjoin_lib]; rfl
set_option maxRecDepth 100000 in
set_option maxHeartbeats 4000000 in
theorem path_Join {w : World} {v : Value} {l : List (List UInt8)} (h : StrsAt w v l) (hw : twt l ≤ 549755813888) :
    Calls Tryz.prog 91 #[v] w fun e w' => e = .returned (.tuple #[strV (if joinOk l = true then sjoin l else []), .int .u8 ((if joinOk l = true then 0 else 12 : Nat) : Int)]) ∧ Below w.heap.size w w' := by
  have HJ := hid (join_strs h hw)
  have HST := hid h
  obtain ⟨hl, a, c, rfl, -, -⟩ := h.open
  obtain ⟨n, HN⟩ : ∃ n, Hid (n = l.length) := ⟨_, rfl⟩
  rw [← HN.out] at hl HJ HST ⊢
  have hjl : (sjoin l).length ≤ 549755813888 := Nat.le_trans (sjoin_len l) hw
  have HSP : Hid (∀ W, Calls Tryz.prog 76 #[strV (sjoin l)] W (SplitPost W (sjoin l))) := fun W => path_Split (w := W) (sjoin l) (by omega)
  have HJL := hid hjl
  obtain ⟨js, HJS⟩ : ∃ s : ByteArray, Hid (s = ⟨(sjoin l).toArray⟩) := ⟨_, rfl⟩
  have HV : Hid (strV (sjoin l) = .string js) := by rw [HJS.out]; rfl
  rw [HV.out] at HJ HSP
  obtain ⟨r1, HR1⟩ : ∃ r : Value, Hid (r = strV (if joinOk l = true then sjoin l else [])) := ⟨_, rfl⟩
  obtain ⟨r2, HR2⟩ : ∃ r : Nat, Hid (r = if joinOk l = true then 0 else 12) := ⟨_, rfl⟩
  rw [← HR1.out, ← HR2.out]
  obtain ⟨y, HY⟩ : ∃ y, Hid (pathOk (sjoin l) = y) := ⟨_, rfl⟩
  obtain ⟨z, HZ⟩ : ∃ z, Hid (decide (sdot (sjoin l) = l) = z) := ⟨_, rfl⟩
  have HYZ : Hid (joinOk l = (y && z)) := by rw [Hid, ← joinOk_iff, HY.out, HZ.out]
  have HBAD : Hid (joinOk l = false → r1 = .string ⟨#[]⟩ ∧ r2 = 12) := by
    intro hb
    rw [HR1.out, HR2.out, hb]
    exact ⟨rfl, rfl⟩
  clear h hw hjl
  go_enter Tryz.func91, Tryz.ntmps91
  go_wp2_with fail
  refine HJ.out.mono ?_
  rintro e w1 ⟨rfl, hb1⟩
  have HB1 := hid hb1
  clear hb1
  go_wp2_with fail
  refine (HSP.out _).mono ?_
  intro e w2 h2
  obtain ⟨v2, c2, rfl, HC2, hO2, hb2⟩ := split_use HY.out e w2 h2
  have HO2 := hid hO2
  have HB2 := hid (HB1.out.trans (hb2.mono HB1.out.size))
  have HST2 := hid (HST.out.keep (below_keeps HB2.out))
  clear h2 hO2 hb2
  cases y with
  | false =>
    obtain rfl : c2 = 12 := HC2.out
    have HE := hid (HBAD.out (by rw [HYZ.out]; rfl))
    go_wp2_with fail
    go_ret2
    exact ⟨by rw [HE.out.1, HE.out.2]; first | done | rfl, HB2.out⟩
  | true =>
    obtain rfl : c2 = 0 := HC2.out
    have HO3 : Hid (StrsOwn w2 w1.heap.size v2 (sdot (sjoin l))) := HO2.out
    have HEQ := hid (equal_strs (sdot_strs HO3.out HJL.out) HST2.out)
    rw [HZ.out] at HEQ
    go_wp2_with fail
    refine HEQ.out.mono ?_
    rintro e w3 ⟨rfl, hb3⟩
    have HB3 := hid (HB2.out.trans (hb3.mono HB2.out.size))
    clear hb3
    cases z with
    | false =>
      have HE := hid (HBAD.out (by rw [HYZ.out]; rfl))
      go_wp2_with fail
      go_ret2
      exact ⟨by rw [HE.out.1, HE.out.2]; first | done | rfl, HB3.out⟩
    | true =>
      have HE : Hid (r1 = .string js ∧ r2 = 0) := by
        have hj : joinOk l = true := by rw [HYZ.out]; rfl
        refine ⟨by rw [HR1.out, if_pos hj, HV.out], by rw [HR2.out, if_pos hj]⟩
      go_wp2_with fail
      go_ret2
      exact ⟨by rw [HE.out.1, HE.out.2]; first | done | rfl, HB3.out⟩
end Go.Proofs.YtfimpmennkfjcaaGreatDoor
