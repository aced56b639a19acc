/- darningref07.Named: the place of the field of a name (namedAt). No condition. darningref13.Way: the way of names (wayP). The schema is right; at most 2^40 names. darningref13.Args, Resolve, Make. Paths are at most 2^39 bytes. darningref13.Path: the path of a way, and whether it is one's. The schema is right, the way at most 2^30 numbers. darninglaw13.alive: true. darninglaw12.PathSplits returns true. The list's weight is at most 2^38. -/
import Derived.Test.YtpjikakbdahmfaaGreatDoorZ06
import Derived.Test.YtpjikakbdahmfaaGreatDoorZ12
import Derived.Test.YtpjikakbdahmfaaGreatDoorZ13
import Derived.Test.YtpjikakbdahmfaaGreatDoorZ14
import Derived.StillTailTactics
import Derived.Deep.RegionHeld3
import Derived.Deep.DeepCutAuto
namespace Go.Proofs.YtpjikakbdahmfaaGreatDoor
open Go.RowKit

set_option maxRecDepth 100000 in
set_option maxHeartbeats 4000000 in
theorem ref07_Named {w : World} {v : Value} {fs : List Fld} (h : FieldsAt w v fs) (nm t : ByteArray) :
    Calls Tryz.prog 61 #[.agg #[.string nm, v], .string t] w fun e w' => e = .returned (.int .i64 (namedAt fs t)) ∧ Below w.heap.size w w' := by
  obtain ⟨hlen, a, cap, rfl, hat⟩ := h.open
  obtain ⟨n, HN⟩ : ∃ n, Hid (n = fs.length) := ⟨_, rfl⟩
  rw [← HN.out] at hat hlen ⊢
  have HAT := hid hat
  clear hat
  go_enter Tryz.func61, Tryz.ntmps61
  go_wp2
  go_loop [5] (fun v5 => ∃ k : Nat, k ≤ n ∧ v5 = .int .i64 k ∧ Hid (firstAt (fun f => decide (f.name = t)) (fs.drop k) k = namedAt fs t)) (fun v5 => n - (intOf v5).toNat)
  case atStart => exact ⟨0, by omega, rfl, hid rfl⟩
  case round =>
    obtain ⟨k, hk, rfl, HK⟩ := hrel
    by_cases hlt : k < n
    · have hat := HAT.out
      obtain ⟨b, o, ha, -, g0, -, -, -, -, -⟩ := hat k hlt
      clear hat
      have hbl : b < w.heap.size := World.block_lt_of_cell? w _ g0
      have hix := index_run Tryz.underlying70 size_fld ha k hlt (cap := cap)
      have HA := hid ha
      have hst := hid (firstAt_at (fun f => decide (f.name = t)) fs k (by rw [← HN.out]; exact hlt))
      obtain ⟨y, HY⟩ : ∃ y, Hid (y = (fs.getD k .zero).name) := ⟨_, rfl⟩
      rw [← HY.out] at g0
      clear ha
      by_cases hxy : y = t
      · have hb : (y.toList == t.toList) = true := by simpa using congrArg ByteArray.toList hxy
        have hb2 : decide (y.toList = t.toList) = true := decide_eq_true (congrArg ByteArray.toList hxy)
        have hb3 : decide (y = t) = true := decide_eq_true hxy
        have HE := hid hxy
        clear hxy
        go_wp2
        go_ret
        have e : namedAt fs t = k := by rw [← HK.out, hst.out, if_pos (show decide ((fs.getD k .zero).name = t) = true from decide_eq_true (by rw [← HY.out]; exact HE.out))]
        exact ⟨by rw [e]; rfl, by (repeat (first | with_reducible exact Below.refl _ _ | with_reducible refine Below.setCell ?_ (by first | omega | (simp; omega) | (simp; done)) _ | with_reducible refine Below.alloc ?_ (by first | omega | (simp; omega) | (simp; done)) _ | with_reducible refine below_drewN ?_ _ | with_reducible refine Below.drew ?_))⟩
      · have hne : y.toList ≠ t.toList := fun e => hxy ((toList_inj _ _).1 e)
        have hb : (y.toList == t.toList) = false := by simpa using hne
        have hb2 : decide (y.toList = t.toList) = false := decide_eq_false hne
        have hb3 : decide (y = t) = false := decide_eq_false hxy
        have HE := hid hxy
        clear hxy hne
        go_wp2
        go_round
        case rel => exact ⟨k + 1, by omega, by go_num, by rw [← HK.out, hst.out, if_neg (show ¬ decide ((fs.getD k .zero).name = t) = true from fun e => HE.out (by rw [HY.out]; exact of_decide_eq_true e))]; exact hid rfl⟩
        case measure => simp [intOf]; omega
    · go_wp2
      go_ret
      have e : namedAt fs t = -1 := by
        rw [← HK.out, List.drop_of_length_le (by rw [← HN.out]; omega)]; rfl
      exact ⟨by rw [e]; rfl, by (repeat (first | with_reducible exact Below.refl _ _ | with_reducible refine Below.setCell ?_ (by first | omega | (simp; omega) | (simp; done)) _ | with_reducible refine Below.alloc ?_ (by first | omega | (simp; omega) | (simp; done)) _ | with_reducible refine below_drewN ?_ _ | with_reducible refine Below.drew ?_))⟩

end Go.Proofs.YtpjikakbdahmfaaGreatDoor

namespace Go.Proofs.YtpjikakbdahmfaaGreatDoor
open Go.RowKit

theorem ints_lit (W : World) (y : Int) (base : Nat) (hb : base ≤ W.heap.size) : IntsOwn (W.alloc (.cells #[.int .i64 y] 3)) base (.slice (some ⟨W.heap.size, 0, none⟩) 1 1) [y] :=
  ⟨by simp, .inr ⟨W.heap.size, 1, #[.int .i64 y], rfl, hb, heap_alloc_new W _, Nat.le_refl _, by unfold maxLen; omega, by simp, rfl⟩⟩
theorem size_strp1 (w : World) : (sizeOf 9).run Tryz.prog w = .ok 1 w := by kernel_rfl
theorem strs_tail {w : World} {a : Option Addr} {n cap : Nat} {t : List UInt8} {r : List (List UInt8)} (h : StrsAt w (.slice a n cap) (t :: r)) (hn : n = r.length + 1) :
    ∃ a' cap', (∀ W, (Instr.slice 24 (.slice a n cap) (some (.int .i64 1)) none none).run Tryz.prog W = .ok (.slice a' (n - 1) cap') W) ∧ StrsAt w (.slice a' (n - 1) cap') r := by
  obtain ⟨h1, h2⟩ := h
  rw [show (t :: r).length = n by simp [hn]] at h1
  obtain ⟨a', cap', hr, hs⟩ := Seg.l1 (P := Tryz.prog) Tryz.underlying24 size_strp1 h1 1 (by omega)
  refine ⟨a', cap', hr, ?_, fun x hx => h2 x (by simp [hx])⟩
  rw [show r.length = n - 1 by omega]
  simpa using hs

/-- the field of a name, in a right schema: where it lies -/
theorem fieldNamed_eq (s : List Mes) (root : Nat) (t : List UInt8) (k : Int) (hk : k = namedAt (s.getD root .zero).fields ⟨t.toArray⟩) :
    fieldNamed s root t = if 0 ≤ k then some ((s.getD root .zero).fields.getD k.toNat .zero) else none := by
  subst hk
  rw [fieldNamed, Int.toNat_natCast]

set_option maxRecDepth 100000 in
set_option maxHeartbeats 8000000 in
theorem way_step {s : List Mes} (hs : sright s = true) (r : List (List UInt8)) (t : List UInt8) {w : World} {sv nv : Value} (hS : SchemaAt w sv s) (hN : StrsAt w nv (t :: r)) (hl : r.length ≤ 1099511627776) (root : Nat) (hroot : root < s.length)
    (hi : ∀ t2 r2, r = t2 :: r2 → ∀ (W : World) (v : Value) (q : Nat), SchemaAt W sv s → StrsAt W v r → q < s.length → Calls Tryz.prog 34 #[sv, .int .i64 (q : Int), v] W (LeadPost W (wayP s r q))) :
    Calls Tryz.prog 34 #[sv, .int .i64 (root : Int), nv] w (LeadPost w (wayP s (t :: r) root)) := by
  have HS := hid hS
  have HSR := hid hs
  have HIH := hid hi
  have HNN := hid hN
  obtain ⟨hm, sa, sc, rfl, hsat⟩ := hS.open
  obtain ⟨m, HM⟩ : ∃ m, Hid (m = s.length) := ⟨_, rfl⟩
  rw [← HM.out] at hm HS HIH hroot hsat ⊢
  obtain ⟨-, na, nc, rfl, -, hnat⟩ := hN.open
  obtain ⟨n, HN⟩ : ∃ n, Hid (n = r.length + 1) := ⟨_, rfl⟩
  have hn1 : (t :: r).length = n := HN.out.symm
  rw [hn1] at HNN ⊢
  have hln : n ≤ 1099511627777 := by rw [HN.out]; omega
  have hn0 : 0 < n := by rw [HN.out]; omega
  obtain ⟨htl, b, o, ha, g0⟩ := hnat 0 t rfl
  have hix := index_0 Tryz.underlying24 size_strp1 ha hn0 (cap := nc)
  rw [Nat.add_zero] at g0
  unfold strV at g0
  obtain ⟨TT, HTT⟩ : ∃ TT, Hid (TT = (⟨t.toArray⟩ : ByteArray)) := ⟨_, rfl⟩
  rw [← HTT.out] at g0
  obtain ⟨b2, o2, fv, ha2, hnl, g1, g2, hF⟩ := hsat root hroot
  have hix2 := index_run Tryz.underlying23 size_mes ha2 root hroot (cap := sc)
  obtain ⟨fs, HFS⟩ : ∃ fs, Hid (fs = (s.getD root .zero).fields) := ⟨_, rfl⟩
  rw [← HFS.out] at hF
  obtain ⟨nm, HNM⟩ : ∃ nm, Hid (nm = (s.getD root .zero).name) := ⟨_, rfl⟩
  rw [← HNM.out] at g1
  have HNA := hid (ref07_Named (hF.keep (w' := w.drew) fun _ _ h => h) nm TT)
  obtain ⟨hfl, fa, fc, rfl, hfat⟩ := hF.open
  obtain ⟨fn, HFN⟩ : ∃ fn, Hid (fn = fs.length) := ⟨_, rfl⟩
  rw [← HFN.out] at hfl hfat g2 HNA
  obtain ⟨kx, HKX⟩ : ∃ kx, Hid (kx = namedAt fs TT) := ⟨_, rfl⟩
  rw [← HKX.out] at HNA
  have HFNM : Hid (fieldNamed s (root : Int) t = if 0 ≤ kx then some (fs.getD kx.toNat .zero) else none) := by
    rw [Hid, fieldNamed_eq s root t kx (by rw [← HFS.out, ← HTT.out]; exact HKX.out), ← HFS.out]
  obtain ⟨Q, HQ⟩ : ∃ Q : Ending → World → Prop, Hid (Q = LeadPost w (wayP s (t :: r) root)) := ⟨_, rfl⟩
  rw [← HQ.out]
  have HBAD : Hid (∀ w', Below w.heap.size w w' → wayP s (t :: r) root = none → Q (.returned (.tuple #[.slice none 0 0, .bool false])) w') := by
    intro w' hb h
    rw [HQ.out, h]
    exact ⟨_, rfl, World.ownsRow_nil _ _ _ _, hb⟩
  have HGOOD : Hid (∀ w' v l, Below w.heap.size w w' → wayP s (t :: r) root = some l → IntsOwn w' w.heap.size v l → Q (.returned (.tuple #[v, .bool true])) w') := by
    intro w' v l hb h ho
    rw [HQ.out, h]
    exact ⟨_, rfl, ho, hb⟩
  have HFAT := hid hfat
  have HG := hid (And.intro g1 g2)
  clear hS hs hi hN hsat hnat ha ha2 hnl hF hfat htl hn1 hl
  go_enter Tryz.func34, Tryz.ntmps34
  go_wp2_with fail
  go_still_tail 7, (by kernel_rfl)
  change wpList _ _ _ _ _ w.drew
  go_wp2_with fail
  refine HNA.out.mono ?_
  rintro e w1 ⟨rfl, hb1'⟩
  have hb1 : Below w.heap.size w w1 := (Below.refl w.heap.size w).drew.trans hb1'
  have HB1 := hid hb1
  have hkp := below_keeps hb1
  replace g1 := hkp _ _ g1
  replace g2 := hkp _ _ g2
  clear hb1 hb1' g0
  by_cases hk0 : 0 ≤ kx
  · obtain ⟨kk, hkk, hkf⟩ : ∃ kk : Nat, kx = kk ∧ kk < fn := by
      rcases firstAt_bd (fun f : Fld => decide (f.name = TT)) fs 0 with h | ⟨j, h, h1, h2⟩
      · have := HKX.out; unfold namedAt at this; omega
      · exact ⟨j, by have := HKX.out; unfold namedAt at this; omega, by rw [HFN.out]; omega⟩
    subst hkk
    rw [if_pos hk0, Int.toNat_natCast] at HFNM
    obtain ⟨b3, o3, ha3, hok, f0, f1, f2, f3, f4, f5⟩ := HFAT.out kk hkf
    have hix3 := index_run Tryz.underlying70 size_fld ha3 kk hkf (cap := fc)
    obtain ⟨f, HF⟩ : ∃ f, Hid (f = fs.getD kk .zero) := ⟨_, rfl⟩
    rw [← HF.out] at hok f0 f1 f2 f3 f4 f5 HFNM
    have HFMEM : Hid (f ∈ (s.getD root .zero).fields) := by
      rw [Hid, ← HFS.out, HF.out]
      have : kk < fs.length := by rw [← HFN.out]; exact hkf
      rw [List.getD_eq_getElem?_getD, List.getElem?_eq_getElem this]
      exact List.getElem_mem this
    have HOK := hid hok
    obtain ⟨fname, fnum, fkind, frep, fpack, fof⟩ := f
    simp only at f0 f1 f2 f3 f4 f5
    replace f0 := hkp _ _ f0
    replace f1 := hkp _ _ f1
    replace f2 := hkp _ _ f2
    replace f3 := hkp _ _ f3
    replace f4 := hkp _ _ f4
    replace f5 := hkp _ _ f5
    have HW : Hid (wayP s (t :: r) root = if r = [] then some [fnum] else if frep = true ∨ fkind ≠ 17 then none else (wayP s r fof).map (fnum :: ·)) := by
      rw [Hid, wayP, HFNM.out]
    have hdk : decide ((kk : Int) < 0) = false := decide_eq_false (by omega)
    clear hk0 ha3 hok hkp
    by_cases hlast : n = 1
    · have hrn : r = [] := List.eq_nil_of_length_eq_zero (by have := HN.out; omega)
      have HW1 : Hid (wayP s (t :: r) root = some [fnum]) := by rw [Hid, HW.out, if_pos hrn]
      subst hlast
      clear hrn
      go_wp2_with fail
      refine HGOOD.out _ _ [fnum] ?_ HW1.out ?_
      · refine HB1.out.trans ?_
        have := HB1.out.size
        (repeat (first | with_reducible exact Below.refl _ _ | with_reducible refine Below.setCell ?_ (by first | omega | (simp; omega) | (simp; done)) _ | with_reducible refine Below.alloc ?_ (by first | omega | (simp; omega) | (simp; done)) _ | with_reducible refine below_drewN ?_ _ | with_reducible refine Below.drew ?_))
      · have := HB1.out.size
        have h1 := ints_lit (w1.alloc (.cells #[.string fname, .int .i64 fnum, .int .i64 fkind, .bool frep, .bool fpack, .int .i64 fof] 50)) fnum w.heap.size (by simp; omega)
        simpa using h1
    · have HRN : Hid (r ≠ []) := fun e => hlast (by rw [HN.out, e]; rfl)
      have e1 : ((n : Int) == 1) = false := by simp; omega
      have e2 : (n == 1) = false := by simp; omega
      have e3 : decide ((n : Int) = 1) = false := decide_eq_false (by omega)
      cases frep with
      | true =>
        have HW1 : Hid (wayP s (t :: r) root = none) := by rw [Hid, HW.out, if_neg HRN.out, if_pos (.inl rfl)]
        clear hlast
        go_wp2_with fail
        refine HBAD.out _ ?_ HW1.out
        refine HB1.out.trans ?_
        have := HB1.out.size
        (repeat (first | with_reducible exact Below.refl _ _ | with_reducible refine Below.setCell ?_ (by first | omega | (simp; omega) | (simp; done)) _ | with_reducible refine Below.alloc ?_ (by first | omega | (simp; omega) | (simp; done)) _ | with_reducible refine below_drewN ?_ _ | with_reducible refine Below.drew ?_))
      | false =>
        by_cases h17 : fkind = 17
        · have HW1 : Hid (wayP s (t :: r) root = (wayP s r fof).map (fnum :: ·)) := by rw [Hid, HW.out, if_neg HRN.out, if_neg (by simp [h17])]
          obtain ⟨hof0, hof1⟩ := (sright_field HSR.out root (by rw [← HM.out]; exact hroot) _ HFMEM.out).2.1 h17
          simp only at hof0 hof1
          obtain ⟨q, rfl⟩ : ∃ q : Nat, fof = q := ⟨fof.toNat, by omega⟩
          have hqm : q < m := by rw [HM.out]; omega
          subst h17
          obtain ⟨ta, tc, htr, hts⟩ := strs_tail HNN.out HN.out
          obtain ⟨t2, r2, hr2⟩ : ∃ t2 r2, r = t2 :: r2 := List.exists_cons_of_ne_nil HRN.out
          obtain ⟨W2, HW2⟩ : ∃ W2, Hid (W2 = w1.alloc (.cells #[.string fname, .int .i64 fnum, .int .i64 17, .bool false, .bool fpack, .int .i64 (q : Int)] 50)) := ⟨_, rfl⟩
          have hb2 : Below w.heap.size w W2 := by rw [HW2.out]; refine HB1.out.trans ?_; have := HB1.out.size; (repeat (first | with_reducible exact Below.refl _ _ | with_reducible refine Below.setCell ?_ (by first | omega | (simp; omega) | (simp; done)) _ | with_reducible refine Below.alloc ?_ (by first | omega | (simp; omega) | (simp; done)) _ | with_reducible refine below_drewN ?_ _ | with_reducible refine Below.drew ?_))
          have hb2d : Below w.heap.size w W2.drew := hb2.drew
          have HCL := hid (HIH.out t2 r2 hr2 W2.drew (.slice ta (n - 1) tc) q (HS.out.below hb2d) (hts.keep (below_keeps hb2d)) hqm)
          have HB2 := hid hb2
          have hbx : Blk W2 w1.heap.size [.string fname, .int .i64 fnum, .int .i64 17, .bool false, .bool fpack, .int .i64 (q : Int)] 50 := by rw [HW2.out]; exact Blk.new w1 [.string fname, .int .i64 fnum, .int .i64 17, .bool false, .bool fpack, .int .i64 (q : Int)] _
          have HBX := hid hbx
          have c1 := hbx.cell 1 _ rfl
          have c5 := hbx.cell 5 _ rfl
          have k1 : ((17 : Int) != 17) = false := by decide
          clear hof0 hof1 hlast hts hr2 hb2 hb2d hbx c1 c5
          go_upto_region 9 with fail
          rw [← HW2.out]
          have c1 := HBX.out.cell 1 _ rfl
          have c5 := HBX.out.cell 5 _ rfl
          clear f0 f1 f2 f3 f4 f5 g1 g2
          have k5 : W2.drew.cell? ⟨w1.heap.size, 5, none⟩ = some (.int .i64 (q : Int)) := c5
          have hlt := HBX.out.lt
          go_region_held3 (fun w' => w'.cell? ⟨w1.heap.size, 5, none⟩ = some (.int .i64 (q : Int))) (first | (with_reducible exact k5) | go_keep) (first | (go_at_call 34; (with_reducible refine HCL.out.mono ?_); rintro e w4 ⟨v4, rfl, hO4, hb4⟩; have k5 := below_keeps hb4 _ _ k5))
          have hb4' : Below W2.heap.size W2 w4 := (Below.refl W2.heap.size W2).drew.trans hb4
          have HB4 : Hid (Below w.heap.size w w4) := below_step HB2.out hb4' HB2.out.size
          have c1 := below_keeps hb4' _ _ c1
          obtain ⟨a4, cc4, rfl⟩ := hO4.form
          obtain ⟨o4, HO⟩ : ∃ o4, Hid (o4 = wayP s r (q : Int)) := ⟨_, rfl⟩
          rw [← HO.out] at hO4 HW1 ⊢
          have HO4 := hid hO4
          have HSZ := hid HB4.out.size
          clear hb4 hb4' hO4
          cases o4 with
          | none =>
            have HW3 : Hid (wayP s (t :: r) root = none) := by rw [Hid, HW1.out]; rfl
            go_wp2_with fail
            exact HBAD.out _ HB4.out HW3.out
          | some l4 =>
            have HW3 : Hid (wayP s (t :: r) root = some (fnum :: l4)) := by rw [Hid, HW1.out]; rfl
            have hl4 := wayP_len s r _ l4 HO.out.symm
            have hl4n : l4.length ≤ 1099511627776 := by have := HN.out; omega
            have hok4 := wayP_ok (fun mm hmm f hf => schema_ok HS.out mm hmm f hf) r _ l4 HO.out.symm
            have hI4 : IntsAt w4 (.slice a4 l4.length cc4) l4 := HO4.out.ints (by show l4.length ≤ _; omega) hok4
            have hA5 : Below w4.heap.size w4 (w4.alloc (.cells #[.int .i64 fnum] 3)) := (Below.refl _ _).alloc (Nat.le_refl _) _
            obtain ⟨v6, w6, hr6, hO6, hg6, -⟩ := ints_append (ints_lit w4 fnum w.heap.size HSZ.out) (hI4.below hA5) (by simp; omega) (by simp; have := HSZ.out; omega)
            have HB6 : Hid (Below w.heap.size w w6) := (HB4.out.alloc HB4.out.size _).grown hg6 (by simp; have := HSZ.out; omega) (by intro q e; simp [Value.ownBlock] at e; subst e; exact HSZ.out)
            have HO6 := hid hO6
            simp only [Option.getD_some]
            clear hl4 hl4n hok4 hI4 hA5 hg6 hO6
            go_wp2_with (at_builtin; refine wpList_append_eq rfl _ _ _ rfl _ _ rfl rfl hr6 ?_)
            exact HGOOD.out _ _ _ HB6.out HW3.out HO6.out
        · have HW1 : Hid (wayP s (t :: r) root = none) := by rw [Hid, HW.out, if_neg HRN.out, if_pos (.inr h17)]
          have k1 : (fkind != 17) = true := by simpa using h17
          have k2 : (fkind == 17) = false := by simpa using h17
          have k3 : decide (fkind = 17) = false := decide_eq_false h17
          clear hlast h17
          go_wp2_with fail
          refine HBAD.out _ ?_ HW1.out
          refine HB1.out.trans ?_
          have := HB1.out.size
          (repeat (first | with_reducible exact Below.refl _ _ | with_reducible refine Below.setCell ?_ (by first | omega | (simp; omega) | (simp; done)) _ | with_reducible refine Below.alloc ?_ (by first | omega | (simp; omega) | (simp; done)) _ | with_reducible refine below_drewN ?_ _ | with_reducible refine Below.drew ?_))
  · rw [if_neg hk0] at HFNM
    have HX : Hid (wayP s (t :: r) root = none) := by rw [Hid, wayP, HFNM.out]
    have hdk : decide (kx < 0) = true := decide_eq_true (by omega)
    clear hk0
    go_wp2_with fail
    exact HBAD.out _ HB1.out HX.out

theorem ref13_Way {s : List Mes} (hs : sright s = true) : ∀ (r : List (List UInt8)) (t : List UInt8) (w : World) (sv nv : Value) (root : Nat), SchemaAt w sv s → StrsAt w nv (t :: r) → r.length ≤ 1099511627776 → root < s.length →
    Calls Tryz.prog 34 #[sv, .int .i64 (root : Int), nv] w (LeadPost w (wayP s (t :: r) root))
  | [], t, w, sv, nv, root, hS, hN, hl, hr => way_step hs [] t hS hN hl root hr fun t2 r2 h => by cases h
  | t2 :: r2, t, w, sv, nv, root, hS, hN, hl, hr => way_step hs (t2 :: r2) t hS hN hl root hr fun t3 r3 h W v q hS' hN' hq => by
    cases h
    exact ref13_Way hs r2 t2 W sv v q hS' hN' (by simp at hl; omega) hq

end Go.Proofs.YtpjikakbdahmfaaGreatDoor

namespace Go.Proofs.YtpjikakbdahmfaaGreatDoor
open Go.RowKit

set_option maxRecDepth 100000 in
set_option maxHeartbeats 4000000 in
theorem ref13_args {w : World} {sv : Value} {s : List Mes} (hS : SchemaAt w sv s) (root : Int) :
    Calls Tryz.prog 32 #[sv, .int .i64 root] w fun e w' => e = .returned (.int .i64 ((if sright s = false then 9 else if root < 0 ∨ (s.length : Int) ≤ root then 2 else 0 : Nat) : Int)) ∧ Below w.heap.size w w' := by
  have HS := hid hS
  obtain ⟨hsl, sa, sc, rfl, -⟩ := hS.open
  obtain ⟨b, HBB⟩ : ∃ b, Hid (sright s = b) := ⟨_, rfl⟩
  rw [HBB.out]
  obtain ⟨sn, HSN⟩ : ∃ n, Hid (n = s.length) := ⟨_, rfl⟩
  rw [← HSN.out] at hsl HS ⊢
  clear hS
  cases b with
  | false =>
    go_enter Tryz.func32, Tryz.ntmps32
    go_wp2_with (go_at_call 59; refine (ref07_Right HS.out).mono ?_; rintro e w1 ⟨rfl, hb1⟩; rw [HBB.out])
    go_ret
    exact ⟨rfl, hb1⟩
  | true =>
    rw [if_neg (by decide)]
    by_cases h : root < 0 ∨ (sn : Int) ≤ root
    · rw [if_pos h]
      rcases h with h | h
      all_goals
        go_enter Tryz.func32, Tryz.ntmps32
        go_wp2_with (go_at_call 59; refine (ref07_Right HS.out).mono ?_; rintro e w1 ⟨rfl, hb1⟩; rw [HBB.out])
        go_ret
        exact ⟨rfl, hb1⟩
    · rw [if_neg h]
      have h1 : 0 ≤ root := by omega
      have h2 : root < sn := by omega
      go_enter Tryz.func32, Tryz.ntmps32
      go_wp2_with (go_at_call 59; refine (ref07_Right HS.out).mono ?_; rintro e w1 ⟨rfl, hb1⟩; rw [HBB.out])
      go_ret
      exact ⟨rfl, hb1⟩


theorem sdot_ne (p : List UInt8) : ∃ t r, sdot p = t :: r := sdot_cons p
def RResolvePost (w : World) (x : Nat × List Int) (e : Ending) (w' : World) : Prop := ∃ v', e = .returned (.tuple #[v', .int .i64 (x.1 : Nat)]) ∧ IntsOwn w' w.heap.size v' x.2 ∧ Below w.heap.size w w'

set_option maxRecDepth 100000 in
set_option maxHeartbeats 4000000 in
theorem ref13_Resolve {w : World} {sv : Value} {s : List Mes} (hS : SchemaAt w sv s) (root : Int) (p : List UInt8) (hp : p.length ≤ 549755813888) :
    Calls Tryz.prog 10 #[sv, .int .i64 root, strV p] w (RResolvePost w (resolveC s root p)) := by
  have HS := hid hS
  have HAR := hid (ref13_args hS root)
  obtain ⟨-, sa, sc, rfl, -⟩ := hS.open
  obtain ⟨n, HN⟩ : ∃ n, Hid (n = s.length) := ⟨_, rfl⟩
  rw [← HN.out] at HS HAR ⊢
  have HVP : Hid (strV p = .string ⟨p.toArray⟩) := rfl
  have HSP := hid fun W => ref12_Split (w := W) p hp
  obtain ⟨PS, HPS⟩ : ∃ PS, Hid (PS = (⟨p.toArray⟩ : ByteArray)) := ⟨_, rfl⟩
  rw [HVP.out, ← HPS.out] at HSP ⊢
  obtain ⟨Q, HQ⟩ : ∃ Q : Ending → World → Prop, Hid (Q = RResolvePost w (resolveC s root p)) := ⟨_, rfl⟩
  rw [← HQ.out]
  have HBAD : Hid (∀ w' (c : Nat), Below w.heap.size w w' → resolveC s root p = (c, []) → Q (.returned (.tuple #[.slice none 0 0, .int .i64 (c : Int)])) w') := by
    intro w' c hb h
    rw [HQ.out, h]
    exact ⟨_, rfl, World.ownsRow_nil _ _ _ _, hb⟩
  obtain ⟨ac, HAC⟩ : ∃ ac, Hid (ac = maskArgs s root) := ⟨_, rfl⟩
  have HAR2 : Hid (Calls Tryz.prog 32 #[.slice sa n sc, .int .i64 root] w fun e w' => e = .returned (.int .i64 (ac : Int)) ∧ Below w.heap.size w w') := by
    rw [Hid, HAC.out, maskArgs, ← HN.out]; exact HAR.out
  clear hS hp HAR
  rcases maskArgs_cases s root with h | h | ⟨h, hsr, hr0, hr1⟩
  · have HE : Hid (resolveC s root p = (9, [])) := by rw [Hid, resolveC, if_pos (by rw [h]; decide), h]
    rw [← HAC.out] at h
    subst h
    go_enter Tryz.func10, Tryz.ntmps10
    go_wp2_with fail
    refine HAR2.out.mono ?_
    rintro e w1 ⟨rfl, hb⟩
    have HB := hid hb
    clear hb
    go_wp2_with fail
    exact HBAD.out _ 9 HB.out HE.out
  · have HE : Hid (resolveC s root p = (2, [])) := by rw [Hid, resolveC, if_pos (by rw [h]; decide), h]
    rw [← HAC.out] at h
    subst h
    go_enter Tryz.func10, Tryz.ntmps10
    go_wp2_with fail
    refine HAR2.out.mono ?_
    rintro e w1 ⟨rfl, hb⟩
    have HB := hid hb
    clear hb
    go_wp2_with fail
    exact HBAD.out _ 2 HB.out HE.out
  · have HE : Hid (resolveC s root p = match resolveW s root p with | some l => (0, l) | none => (10, [])) := by (rw [Hid, resolveC, if_neg (by rw [h]; decide)]; first | done | rfl)
    have HSR := hid hsr
    rw [← HAC.out] at h
    subst h
    obtain ⟨r, rfl⟩ : ∃ r : Nat, root = r := ⟨root.toNat, by omega⟩
    have HR1 : Hid (r < s.length) := by show _ < _; omega
    clear hsr hr0 hr1
    go_enter Tryz.func10, Tryz.ntmps10
    go_wp2_with fail
    refine HAR2.out.mono ?_
    rintro e w1 ⟨rfl, hb⟩
    have HB := hid hb
    clear hb
    go_wp2_with fail
    refine (HSP.out w1).mono ?_
    rintro e w2 ⟨v2, rfl, hO, hb2⟩
    have HB2 : Hid (Below w.heap.size w w2) := below_step HB.out hb2 HB.out.size
    by_cases hok : pathOk p = true
    · rw [if_pos hok] at hO
      rw [hok]
      obtain ⟨t, rr, htr⟩ := sdot_ne p
      have hn65 : (sdot p).length ≤ 65 := by unfold pathOk at hok; simp at hok; exact hok.1
      have hall : ∀ t ∈ sdot p, t.length ≤ 140737488355328 := by
        intro t ht
        unfold pathOk at hok
        simp only [Bool.and_eq_true, decide_eq_true_eq] at hok
        have h2 := List.all_eq_true.1 hok.2 t ht
        unfold nameOk at h2
        simp [ByteArray.size] at h2
        omega
      have hst := StrsOwn.strs hO (by omega) hall
      have hw := ref13_Way HSR.out rr t w2 _ v2 r (HS.out.below HB2.out) (by rw [← htr]; exact hst) (by rw [htr] at hn65; simp at hn65; omega) HR1.out
      rw [← htr] at hw
      have HRW : Hid (resolveW s (r : Int) p = wayP s (sdot p) r) := by rw [Hid, resolveW, if_pos hok]
      obtain ⟨a2, c2, rfl⟩ := hO.form
      obtain ⟨ow, HOW⟩ : ∃ ow, Hid (ow = wayP s (sdot p) (r : Int)) := ⟨_, rfl⟩
      rw [← HOW.out] at hw HRW
      have HW := hid hw
      clear hok htr hn65 hall hst hw hO hb2
      go_wp2_with fail
      refine HW.out.mono ?_
      rintro e w3 ⟨v3, rfl, hO3, hb3⟩
      have HB3 : Hid (Below w.heap.size w w3) := below_step HB2.out hb3 HB2.out.size
      cases ow with
      | none =>
        clear hO3 hb3
        go_wp2_with fail
        exact HBAD.out _ 10 HB3.out (by rw [HE.out, HRW.out])
      | some l =>
        have HO3 : Hid (IntsOwn w3 w.heap.size v3 l) := row_mono hO3 HB2.out.size
        clear hO3 hb3
        go_wp2_with fail
        rw [HQ.out, HE.out, HRW.out]
        exact ⟨_, rfl, HO3.out, HB3.out⟩
    · have hokf : pathOk p = false := by simpa using hok
      have HRW : Hid (resolveW s (r : Int) p = none) := by rw [Hid, resolveW, if_neg hok]
      rw [hokf]
      clear hok hO hb2
      go_wp2_with fail
      exact HBAD.out _ 10 HB2.out (by rw [HE.out, HRW.out])

def RMakePost (w : World) (x : Nat × List (List Int)) (e : Ending) (w' : World) : Prop := ∃ v', e = .returned (.tuple #[v', .int .i64 (x.1 : Nat)]) ∧ WaysAt w' v' x.2 ∧ Below w.heap.size w w'

set_option maxRecDepth 100000 in
set_option maxHeartbeats 4000000 in
theorem ref13_Make {w : World} {sv pv : Value} {s : List Mes} {paths : List (List UInt8)} (hS : SchemaAt w sv s) (root : Int) (hP : StrsAt w pv paths) (hpl : ∀ p ∈ paths, p.length ≤ 549755813888) :
    Calls Tryz.prog 13 #[sv, .int .i64 root, pv] w (RMakePost w (makeC s root paths)) := by
  have HS := hid hS
  have HAR := hid (ref13_args hS root)
  obtain ⟨-, sa, sc, rfl, -⟩ := hS.open
  obtain ⟨m, HM⟩ : ∃ m, Hid (m = s.length) := ⟨_, rfl⟩
  rw [← HM.out] at HS HAR ⊢
  obtain ⟨hn, pa, pc, rfl, -, hpat⟩ := hP.open
  obtain ⟨n, HN⟩ : ∃ n, Hid (n = paths.length) := ⟨_, rfl⟩
  rw [← HN.out] at hn ⊢
  have HPL := hid hpl
  have HPAT := hid hpat
  obtain ⟨Q, HQ⟩ : ∃ Q : Ending → World → Prop, Hid (Q = RMakePost w (makeC s root paths)) := ⟨_, rfl⟩
  rw [← HQ.out]
  have HBAD : Hid (∀ w' (c : Nat), Below w.heap.size w w' → makeC s root paths = (c, []) → Q (.returned (.tuple #[.slice none 0 0, .int .i64 (c : Int)])) w') := by
    intro w' c hb h
    rw [HQ.out, h]
    exact ⟨_, rfl, ways_nil _, hb⟩
  obtain ⟨ac, HAC⟩ : ∃ ac, Hid (ac = maskArgs s root) := ⟨_, rfl⟩
  have HAR2 : Hid (Calls Tryz.prog 32 #[.slice sa m sc, .int .i64 root] w fun e w' => e = .returned (.int .i64 (ac : Int)) ∧ Below w.heap.size w w') := by
    rw [Hid, HAC.out, maskArgs, ← HM.out]; exact HAR.out
  have HCASES := hid (maskArgs_cases s root)
  clear hS hP hpl hpat HAR
  by_cases hac : ac = 0
  · have HAZ : Hid (maskArgs s root = 0) := by rw [Hid, ← HAC.out]; exact hac
    subst hac
    have HE : Hid (makeC s root paths = if 200 < n then (13, []) else match waysOf s root paths with | some l => (0, mOf l) | none => (10, [])) := by
      rw [Hid, makeC, if_neg (by rw [HAZ.out]; decide), HN.out]; first | done | rfl
    have HRC : Hid (∀ p, resolveC s root p = match resolveW s root p with | some l => (0, l) | none => (10, [])) := fun p => by rw [resolveC, if_neg (by rw [HAZ.out]; decide)]; first | done | rfl
    by_cases h200 : 200 < n
    · rw [if_pos h200] at HE
      go_enter Tryz.func13, Tryz.ntmps13
      go_wp2_with fail
      refine HAR2.out.mono ?_
      rintro e w1 ⟨rfl, hb⟩
      have HB := hid hb
      clear hb
      go_wp2_with fail
      exact HBAD.out _ 13 HB.out HE.out
    · rw [if_neg h200] at HE
      have hn200 : n ≤ 200 := by omega
      clear h200
      go_enter Tryz.func13, Tryz.ntmps13
      go_wp2_with fail
      refine HAR2.out.mono ?_
      rintro e w1 ⟨rfl, hb1⟩
      have HB1 := hid hb1
      clear hb1
      go_wp2_with fail
      go_loopw [9, 10] (fun v9 v10 wr => ∃ (i : Nat) (ws : List (List Int)), v10 = .int .i64 i ∧ i ≤ n ∧ Hid (RowsOwn WayP 30 1 0 w.heap.size wr v9 ws ∧ Below w.heap.size w wr ∧ ws.length = i ∧ waysOf s root paths = (waysOf s root (paths.drop i)).map (ws ++ ·))) (fun _ v10 _ => n - (intOf v10).toNat)
      case atStart => exact ⟨0, [], rfl, by omega, RowsOwn.nil _ _ _ _ _ _, HB1.out, rfl, by simp⟩
      case round =>
        obtain ⟨i, ws, rfl, hi, HI⟩ := hrel
        obtain ⟨oa, oc, hoe⟩ := HI.out.1.form
        rw [HI.out.2.2.1] at hoe
        subst hoe
        by_cases hlt : i < n
        · obtain ⟨p, hp⟩ : ∃ p, paths[i]? = some p := ⟨_, List.getElem?_eq_getElem (by rw [← HN.out]; exact hlt)⟩
          obtain ⟨-, b, o, ha, g0⟩ := HPAT.out i p hp
          have hix := index_run1 Tryz.underlying24 size_strp ha i hlt (cap := pc)
          have HBW := hid HI.out.2.1
          replace g0 := below_keeps HBW.out _ _ g0
          have HR := hid (ref13_Resolve (HS.out.below HBW.out) root p (HPL.out p (List.mem_of_getElem? hp)))
          have HD := hid (drop_at hp)
          rw [HRC.out] at HR
          unfold strV at g0 HR
          obtain ⟨PS, HPS⟩ : ∃ PS, Hid (PS = (⟨p.toArray⟩ : ByteArray)) := ⟨_, rfl⟩
          rw [← HPS.out] at g0 HR
          obtain ⟨ow, HOW⟩ : ∃ ow, Hid (ow = resolveW s root p) := ⟨_, rfl⟩
          rw [← HOW.out] at HR
          have HWO := hid (ways_step s root paths ws i p ow HD.out HI.out.2.2.2 HOW.out)
          have HLEN : Hid (∀ l, ow = some l → l.length ≤ 65) := fun l h => resolveW_len (HOW.out ▸ h)
          have HL64 : Hid (∀ l, ow = some l → ∀ x ∈ l, i64ok x) := fun l h => resolveW_ok HS.out (HOW.out ▸ h)
          clear hp ha
          go_wp2_with fail
          refine HR.out.mono ?_
          rintro e w5 ⟨v5, rfl, hO5, hb5⟩
          have HB5 := hid hb5
          cases ow with
          | none =>
            have HE2 : Hid (makeC s root paths = (10, [])) := by rw [Hid, HE.out, HWO.out]; rfl
            have HB : Hid (Below w.heap.size w w5) := below_step HBW.out HB5.out HBW.out.size
            clear hO5 hb5
            go_wp2_with fail
            exact HBAD.out _ 10 HB.out HE2.out
          | some l =>
            obtain ⟨a5, c5, hv5⟩ := hO5.form
            have h65 := HLEN.out l rfl
            subst hv5
            have h64 := HL64.out l rfl
            obtain ⟨a', c', w6, hr, hO6, hB6, hB7⟩ := (HI.out.1).step hb5 (by decide) (Nat.zero_le _) HI.out.2.1.size HI.out.2.2.1 (G := Tryz.prog) 25 (.slice none 0 0) 24 under_ways info_ints rfl #[.slice a5 l.length c5] rfl (by intro u hu; simp at hu; subst hu; rfl) l (hO5.apart (by show l.length ≤ _; omega) h64) (by omega) (by decide)
            have HREL : Hid (RowsOwn WayP 30 1 0 w.heap.size w6 (.slice a' (i + 1) c') (ws ++ [l]) ∧ Below w.heap.size w w6 ∧ (ws ++ [l]).length = i + 1 ∧ waysOf s root paths = (waysOf s root (paths.drop (i + 1))).map ((ws ++ [l]) ++ ·)) :=
              ⟨hO6, HI.out.2.1.trans hB7, by rw [List.length_append, HI.out.2.2.1]; rfl, HWO.out⟩
            clear hO5 hb5 h64 hO6 hB6 hB7 h65
            go_wp2_with (at_builtin; refine wpList_append_eq rfl _ _ _ rfl _ _ rfl rfl hr ?_)
            go_roundw
            case rel => exact ⟨i + 1, _, by go_num, hlt, HREL.out⟩
            case measure => simp [intOf]; omega
        · obtain rfl : i = n := by omega
          have HWS : Hid (waysOf s root paths = some ws) := by
            rw [Hid, HI.out.2.2.2, List.drop_eq_nil_of_le (by rw [← HN.out]; omega), waysOf]; simp
          have HE2 : Hid (makeC s root paths = (0, mOf ws)) := by rw [Hid, HE.out, HWS.out]
          have hWO := RowsOwn.at HI.out.1 (by rw [HI.out.2.2.1]; omega) (w' := wr) (fun _ _ _ => rfl)
          have HOF := hid (ref13_Of (show WaysAt wr (.slice oa i oc) ws from hWO) (by rw [HI.out.2.2.1]; omega))
          have HBW := hid HI.out.2.1
          clear hWO hlt
          go_wp2_with fail
          refine HOF.out.mono ?_
          rintro e w3 ⟨v3, rfl, hW3, hb3⟩
          have HW3 := hid hW3
          have HB3 : Hid (Below w.heap.size w w3) := below_step HBW.out hb3 HBW.out.size
          clear hW3 hb3
          go_wp2_with fail
          rw [HQ.out, HE2.out]
          exact ⟨_, rfl, HW3.out, HB3.out⟩
  · have HE : Hid (makeC s root paths = (ac, [])) := by rw [Hid, makeC, if_pos (by rw [← HAC.out]; exact hac), HAC.out]
    have e1 : ((ac : Int) != 0) = true := by simp; exact hac
    have e2 : ((ac : Int) == 0) = false := by simp; exact hac
    have e3 : (ac != 0) = true := by simp; exact hac
    have e4 : (ac == 0) = false := by simp; exact hac
    clear hac
    go_enter Tryz.func13, Tryz.ntmps13
    go_wp2_with fail
    refine HAR2.out.mono ?_
    rintro e w1 ⟨rfl, hb⟩
    have HB := hid hb
    clear hb
    go_wp2_with fail
    exact HBAD.out _ ac HB.out HE.out

end Go.Proofs.YtpjikakbdahmfaaGreatDoor

namespace Go.Proofs.YtpjikakbdahmfaaGreatDoor
open Go.RowKit

theorem sright_nameOk {s : List Mes} (h : sright s = true) (m : Mes) (hm : m ∈ s) (f : Fld) (hf : f ∈ m.fields) : nameOk f.name = true := by
  have h0 : (scheck s).2.2 = 0 := of_decide_eq_true h
  unfold scheck at h0
  by_cases h1 : s.length = 0 ∨ 100 < s.length
  · rw [if_pos h1] at h0; simp at h0
  rw [if_neg h1] at h0
  obtain ⟨h2, -, -⟩ := scheckGo_ok s [] 0 h0 _ hm
  obtain ⟨nm, nu, h3⟩ := fieldsFault_none _ _ _ h2 f hf
  exact (fieldFault_ok h3).1
theorem nameOk_len {t : List UInt8} (h : nameOk ⟨t.toArray⟩ = true) : t.length ≤ 60 := by
  unfold nameOk at h
  simp [ByteArray.size] at h
  exact h.2.2
/-- the field of a number, told by its place -/
theorem fieldOfNum_at {s : List Mes} {at' : Nat} {n k : Int} (hk : k = fieldAt (s.getD at' .zero).fields n) :
    (k < 0 ∧ fieldOfNum s at' n = none) ∨ ∃ j : Nat, k = j ∧ j < (s.getD at' .zero).fields.length ∧ fieldOfNum s at' n = some ((s.getD at' .zero).fields.getD j .zero) := by
  subst hk
  unfold fieldOfNum fieldAt
  rw [Int.toNat_natCast]
  have key : ∀ (l : List Fld) (i : Nat), (firstAt (fun f : Fld => decide (f.number = n)) l i < 0 ∧ l.find? (fun f => decide (f.number = n)) = none) ∨ ∃ j : Nat, firstAt (fun f : Fld => decide (f.number = n)) l i = ((i + j : Nat) : Int) ∧ j < l.length ∧ l.find? (fun f => decide (f.number = n)) = some (l.getD j .zero) := by
    intro l
    induction l with
    | nil => intro i; exact .inl ⟨by simp [firstAt], rfl⟩
    | cons g r ih =>
      intro i
      simp only [firstAt]
      by_cases hg : g.number = n
      · exact .inr ⟨0, by simp [hg], by simp, by rw [List.find?_cons_of_pos (by simpa using hg)]; rfl⟩
      · rw [List.find?_cons_of_neg (by simpa using hg), if_neg (by simpa using hg)]
        rcases ih (i + 1) with h | ⟨j, h1, h2, h3⟩
        · exact .inl h
        · exact .inr ⟨j + 1, by rw [h1]; congr 1; omega, by simp; omega, by rw [h3]; simp⟩
  rcases key (s.getD at' .zero).fields 0 with h | ⟨j, h1, h2, h3⟩
  · exact .inl h
  · exact .inr ⟨j, by rw [h1, Nat.zero_add], h2, h3⟩

def PathRPost (w : World) (o : Option (List (List UInt8))) (e : Ending) (w' : World) : Prop :=
  ∃ (p : List UInt8) (b : Bool), e = .returned (.tuple #[strV p, .bool b]) ∧ p.length ≤ 137438953472 ∧ (b = true ↔ ∃ ns, o = some ns ∧ joinOk ns = true) ∧ (b = true → ∀ ns, o = some ns → p = sjoin ns) ∧ Below w.heap.size w w'

set_option maxRecDepth 100000 in
set_option maxHeartbeats 8000000 in
theorem ref13_Path {w : World} {sv yv : Value} {s : List Mes} {y : List Int} (hS : SchemaAt w sv s) (hs : sright s = true) (root : Nat) (hroot : root < s.length) (hY : IntsAt w yv y) (hL : y.length ≤ 1073741824) :
    Calls Tryz.prog 38 #[sv, .int .i64 (root : Int), yv] w (PathRPost w (namesW s root y)) := by
  have HS := hid hS
  have HSR := hid hs
  obtain ⟨hm, sa, sc, rfl, hsat⟩ := hS.open
  obtain ⟨m, HM⟩ : ∃ m, Hid (m = s.length) := ⟨_, rfl⟩
  rw [← HM.out] at hm HS hroot hsat ⊢
  obtain ⟨-, ya, yc, rfl, -, hyat⟩ := hY.open
  obtain ⟨yn, HYN⟩ : ∃ n, Hid (n = y.length) := ⟨_, rfl⟩
  rw [← HYN.out] at hL ⊢
  obtain ⟨Q, HQ⟩ : ∃ Q : Ending → World → Prop, Hid (Q = PathRPost w (namesW s root y)) := ⟨_, rfl⟩
  rw [← HQ.out]
  have HBAD : Hid (∀ w', Below w.heap.size w w' → namesW s root y = none → Q (.returned (.tuple #[.string ⟨#[]⟩, .bool false])) w') := by
    intro w' hb h
    rw [HQ.out, h]
    exact ⟨[], false, rfl, by simp, by simp, by simp, hb⟩
  have HSAT := hid hsat
  have HYAT := hid hyat
  clear hS hs hY hsat hyat
  go_enter Tryz.func38, Tryz.ntmps38
  go_wp2_with fail
  go_loopw [1, 8, 9] (fun v1 v8 v9 wr => ∃ (at' : Int) (q : Nat) (ns : List (List UInt8)), v1 = .int .i64 at' ∧ v9 = .int .i64 (q : Int) ∧ q ≤ yn ∧ Hid (StrsOwn wr w.heap.size v8 ns ∧ Below w.heap.size w wr ∧ ns.length = q ∧ namesW s root y = (namesW s at' (y.drop q)).map (ns ++ ·) ∧ (q < yn → 0 ≤ at' ∧ at' < m) ∧ ∀ t ∈ ns, nameOk ⟨t.toArray⟩ = true)) (fun _ _ v9 _ => yn - (intOf v9).toNat)
  case atStart => exact ⟨root, 0, [], rfl, rfl, by omega, World.ownsRow_nil _ _ _ _, Below.refl _ _, rfl, by simp, fun _ => by omega, by simp⟩
  case round =>
    obtain ⟨at0, q, ns, rfl, rfl, hq, HJ⟩ := hrel
    obtain ⟨na, nc, hne⟩ := HJ.out.1.form
    rw [HJ.out.2.2.1] at hne
    subst hne
    by_cases hlt : q < yn
    · obtain ⟨at', rfl⟩ : ∃ a : Nat, at0 = a := ⟨at0.toNat, by have := HJ.out.2.2.2.2.1 hlt; omega⟩
      have hatm : at' < m := by have := HJ.out.2.2.2.2.1 hlt; omega
      obtain ⟨nb, hnb⟩ := int_get HYN.out hlt
      obtain ⟨h64, b2, o2, ha2, g2⟩ := HYAT.out q nb hnb
      have hix2 := index_run1 Tryz.underlying30 size_int ha2 q hlt (cap := yc)
      have hkp := below_keeps HJ.out.2.1
      replace g2 := hkp _ _ g2
      have HDQ := hid (drop_at hnb)
      obtain ⟨b1, o1, fv, ha1, hnl, g0, g1, hF⟩ := HSAT.out at' hatm
      have hix1 := index_run Tryz.underlying23 size_mes ha1 at' hatm (cap := sc)
      replace g0 := hkp _ _ g0
      replace g1 := hkp _ _ g1
      obtain ⟨fs, HFS⟩ : ∃ fs, Hid (fs = (s.getD at' .zero).fields) := ⟨_, rfl⟩
      rw [← HFS.out] at hF
      obtain ⟨nm, HNM⟩ : ∃ nm, Hid (nm = (s.getD at' .zero).name) := ⟨_, rfl⟩
      rw [← HNM.out] at g0
      have hF' := hF.keep hkp
      have HFC := hid (ref07_Field (hF'.keep (w' := wr.drew) fun _ _ h => h) nm nb)
      obtain ⟨hfl, fa, fc, rfl, hfat⟩ := hF'.open
      obtain ⟨fn, HFN⟩ : ∃ fn, Hid (fn = fs.length) := ⟨_, rfl⟩
      rw [← HFN.out] at hfl hfat g1 HFC
      have HFAT := hid hfat
      obtain ⟨k, HK⟩ : ∃ k, Hid (k = fieldAt fs nb) := ⟨_, rfl⟩
      rw [← HK.out] at HFC
      have HFO := hid (fieldOfNum_at (s := s) (at' := at') (n := nb) (k := k) (by rw [← HFS.out]; exact HK.out))
      rw [← HFS.out, ← HFN.out] at HFO
      clear hnb ha2 h64 ha1 hnl hF hF' hkp hfat
      go_wp2_with fail
      go_still_tail 8, (by kernel_rfl)
      change wpList _ _ _ _ _ wr.drew
      go_wp2_with fail
      refine HFC.out.mono ?_
      rintro e w2 ⟨rfl, hb2'⟩
      have hb2 : Below wr.heap.size wr w2 := (Below.refl wr.heap.size wr).drew.trans hb2'
      have HB2 := hid hb2
      have HBW : Hid (Below w.heap.size w w2) := below_step HJ.out.2.1 hb2 HJ.out.2.1.size
      have hkp := below_keeps hb2
      replace g0 := hkp _ _ g0
      replace g1 := hkp _ _ g1
      clear hb2 hb2' g2
      rcases HFO.out with ⟨hk0, hno⟩ | ⟨j, hkj, hjn, hso⟩
      · have HX : Hid (namesW s root y = none) := by rw [Hid, HJ.out.2.2.2.1, HDQ.out, namesW, hno]; rfl
        have hd : decide (k < 0) = true := decide_eq_true hk0
        clear hk0 hno hkp
        go_wp2_with fail
        exact HBAD.out _ HBW.out HX.out
      · subst hkj
        have hd : decide ((j : Int) < 0) = false := decide_eq_false (by omega)
        obtain ⟨b3, o3, ha3, hok, f0, f1, f2, f3, f4, f5⟩ := HFAT.out j hjn
        have hix3 := index_run Tryz.underlying70 size_fld ha3 j hjn (cap := fc)
        obtain ⟨f, HF⟩ : ∃ f, Hid (f = fs.getD j .zero) := ⟨_, rfl⟩
        rw [← HF.out] at hok f0 f1 f2 f3 f4 f5 hso
        have hfm : f ∈ (s.getD at' .zero).fields := by
          rw [← HFS.out, HF.out]
          exact getD_mem _ _ _ (by rw [← HFN.out]; exact hjn)
        have hsm : s.getD at' .zero ∈ s := getD_mem _ _ _ (by rw [← HM.out]; exact hatm)
        have HNOK : Hid (nameOk f.name = true) := sright_nameOk HSR.out _ hsm f hfm
        have HK17 : Hid (f.kind = 17 → 0 ≤ f.of ∧ f.of < m) := by
          have := (sright_field HSR.out at' (by rw [← HM.out]; exact hatm) f hfm).2.1
          rw [← HM.out] at this; exact this
        have HNW : Hid (namesW s root y = if y.drop (q + 1) ≠ [] ∧ (f.rep = true ∨ f.kind ≠ 17) then none else (namesW s f.of (y.drop (q + 1))).map ((ns ++ [f.name.data.toList]) ++ ·)) := by
          rw [Hid, HJ.out.2.2.2.1, HDQ.out, namesW, hso]
          simp only
          split
          · rfl
          · cases namesW s f.of (y.drop (q + 1)) <;> simp
        have HNIL : Hid (y.drop (q + 1) ≠ [] ↔ q + 1 < yn) := by
          show _ ↔ _
          rw [HYN.out]
          constructor
          · intro h
            rcases Nat.lt_or_ge (q + 1) y.length with h1 | h1
            · exact h1
            · exact absurd (List.drop_eq_nil_of_le h1) h
          · intro h e
            have := congrArg List.length e
            simp at this; omega
        replace f0 := hkp _ _ f0
        replace f1 := hkp _ _ f1
        replace f2 := hkp _ _ f2
        replace f3 := hkp _ _ f3
        replace f4 := hkp _ _ f4
        replace f5 := hkp _ _ f5
        obtain ⟨fname, fnum, fkind, frep, fpack, fof⟩ := f
        simp only at HNOK HK17 HNW f0 f1 f2 f3 f4 f5
        obtain ⟨W1, HW1⟩ : ∃ W1, Hid (W1 = w2.alloc (.cells #[.string fname, .int .i64 fnum, .int .i64 fkind, .bool frep, .bool fpack, .int .i64 fof] 50)) := ⟨_, rfl⟩
        have hbx : Blk W1 w2.heap.size [.string fname, .int .i64 fnum, .int .i64 fkind, .bool frep, .bool fpack, .int .i64 fof] 50 := by rw [HW1.out]; exact Blk.new w2 [.string fname, .int .i64 fnum, .int .i64 fkind, .bool frep, .bool fpack, .int .i64 fof] _
        have hb1 : Below w2.heap.size w2 W1 := by rw [HW1.out]; (repeat (first | with_reducible exact Below.refl _ _ | with_reducible refine Below.setCell ?_ (by first | omega | (simp; omega) | (simp; done)) _ | with_reducible refine Below.alloc ?_ (by first | omega | (simp; omega) | (simp; done)) _ | with_reducible refine below_drewN ?_ _ | with_reducible refine Below.drew ?_))
        have hsv : strV fname.data.toList = .string fname := by unfold strV; simp
        have hB1 : Below wr.heap.size wr W1 := below_step HB2.out hb1 HB2.out.size
        have hs1 : w.heap.size ≤ W1.heap.size := Nat.le_trans HJ.out.2.1.size hB1.size
        have hown1 := HJ.out.1.later hB1
        obtain ⟨v8, w8, hr8, hO8, hg8⟩ := StrsOwn.one hown1 fname.data.toList (by rw [HJ.out.2.2.1]; omega) hs1
        obtain ⟨a8, c8, e8⟩ := hO8.form
        rw [List.length_append, List.length_singleton, HJ.out.2.2.1] at e8
        subst e8
        rw [hsv] at hr8
        have hX8 : Blk w8 w2.heap.size [.string fname, .int .i64 fnum, .int .i64 fkind, .bool frep, .bool fpack, .int .i64 fof] 50 := (hg8.block _ hbx.lt (fun e => by have := (World.ownsRow.lt HJ.out.1 _ e.symm).2; have := HB2.out.size; omega)).trans hbx
        have HREL : Hid (StrsOwn w8 w.heap.size (.slice a8 (q + 1) c8) (ns ++ [fname.data.toList]) ∧ Below w.heap.size w w8 ∧ (ns ++ [fname.data.toList]).length = q + 1 ∧ ∀ t ∈ ns ++ [fname.data.toList], nameOk ⟨t.toArray⟩ = true) := by
          refine ⟨hO8, (HJ.out.2.1.trans (hB1.mono HJ.out.2.1.size)).grown hg8 hs1 (fun e1 e2 => (World.ownsRow.lt HJ.out.1 e1 e2).1), by rw [List.length_append, HJ.out.2.2.1]; rfl, fun t ht => ?_⟩
          rcases List.mem_append.1 ht with ht | ht
          · exact HJ.out.2.2.2.2.2 t ht
          · have e : t = fname.data.toList := by simpa using ht
            rw [e]; exact HNOK.out
        have k0 := hbx.cell 0 _ rfl
        have k2 := hX8.cell 2 _ rfl
        have k3 := hX8.cell 3 _ rfl
        have k5 := hX8.cell 5 _ rfl
        have HR8 := hid hr8
        have HKK := hid (And.intro k0 (And.intro k2 (And.intro k3 k5)))
        clear hok ha3 hso hfm hsm hkp hbx hb1 hsv hB1 hs1 hown1 hr8 hO8 hg8 hX8 k0 k2 k3 k5
        go_upto_region 9 with fail
        rw [← HW1.out]
        obtain ⟨k0, k2, k3, k5⟩ := HKK.out
        clear f0 f1 f2 f3 f4 f5 g0 g1
        by_cases hbad : q + 1 < yn ∧ (frep = true ∨ fkind ≠ 17)
        · have HX : Hid (namesW s root y = none) := by
            rw [Hid, HNW.out, if_pos ⟨HNIL.out.2 hbad.1, hbad.2⟩]
          obtain ⟨hb1, hb2⟩ := hbad
          have e1 : decide ((q : Int) < (yn : Int) - 1) = true := decide_eq_true (by omega)
          cases frep with
          | true =>
            go_wp2_with (at_builtin; refine wpList_append_eq rfl _ _ _ rfl _ _ rfl rfl HR8.out ?_)
            exact HBAD.out _ HREL.out.2.1 HX.out
          | false =>
            have h17 : fkind ≠ 17 := by rcases hb2 with h | h; cases h; exact h
            have k1 : (fkind != 17) = true := by simpa using h17
            have k2 : (fkind == 17) = false := by simpa using h17
            clear hb2 h17
            go_wp2_with (at_builtin; refine wpList_append_eq rfl _ _ _ rfl _ _ rfl rfl HR8.out ?_)
            exact HBAD.out _ HREL.out.2.1 HX.out
        · rw [if_neg (fun h => hbad ⟨HNIL.out.1 h.1, h.2⟩)] at HNW
          have HRL2 : Hid (namesW s root y = (namesW s fof (y.drop (q + 1))).map ((ns ++ [fname.data.toList]) ++ ·) ∧ (q + 1 < yn → 0 ≤ fof ∧ fof < m)) :=
            ⟨HNW.out, fun h => HK17.out (Classical.byContradiction fun h17 => hbad ⟨h, .inr h17⟩)⟩
          by_cases hq1 : q + 1 < yn
          · have e1 : decide ((q : Int) < (yn : Int) - 1) = true := decide_eq_true (by omega)
            have hrep : frep = false := by cases frep; rfl; exact absurd ⟨hq1, .inl rfl⟩ hbad
            have h17 : fkind = 17 := Classical.byContradiction fun h => hbad ⟨hq1, .inr h⟩
            subst hrep
            subst h17
            clear hbad
            go_wp2_with (at_builtin; refine wpList_append_eq rfl _ _ _ rfl _ _ rfl rfl HR8.out ?_)
            go_roundw
            case rel => exact ⟨fof, q + 1, _, rfl, by go_num, hlt, HREL.out.1, HREL.out.2.1, HREL.out.2.2.1, HRL2.out.1, HRL2.out.2, HREL.out.2.2.2⟩
            case measure => simp [intOf]; omega
          · have e1 : decide ((q : Int) < (yn : Int) - 1) = false := decide_eq_false (by omega)
            have e2 : ¬ ((q : Int) < (yn : Int) - 1) := by omega
            clear hbad hq1
            go_wp2_with (at_builtin; refine wpList_append_eq rfl _ _ _ rfl _ _ rfl rfl HR8.out ?_)
            go_roundw
            case rel => exact ⟨fof, q + 1, _, rfl, by go_num, hlt, HREL.out.1, HREL.out.2.1, HREL.out.2.2.1, HRL2.out.1, HRL2.out.2, HREL.out.2.2.2⟩
            case measure => simp [intOf]; omega
    · obtain rfl : q = yn := by omega
      have HNS : Hid (namesW s root y = some ns) := by
        rw [Hid, HJ.out.2.2.2.1, List.drop_eq_nil_of_le (by rw [← HYN.out]; omega), namesW]; simp
      have h60 : ∀ t ∈ ns, t.length ≤ 60 := fun t ht => nameOk_len (HJ.out.2.2.2.2.2 t ht)
      have htw := twt_le ns h60
      rw [HJ.out.2.2.1] at htw
      have hst := StrsOwn.strs HJ.out.1 (by rw [HJ.out.2.2.1]; omega) (fun t ht => by have := h60 t ht; omega)
      have HJN := hid (ref12_Join hst (by omega))
      have HPL : Hid ((sjoin ns).length ≤ 137438953472) := by
        have h2 := sjoin_len ns
        show _ ≤ _
        omega
      have HJO : Hid (joinOk ns = decide (1 ≤ q ∧ q ≤ 65)) := by
        have h1 : namesOk ns = true := List.all_eq_true.2 HJ.out.2.2.2.2.2
        rw [Hid, joinOk, h1, HJ.out.2.2.1, Bool.true_and]
      have HBW := hid HJ.out.2.1
      obtain ⟨jt, HJT⟩ : ∃ jt, Hid (jt = sjoin ns) := ⟨_, rfl⟩
      have HFIN : Hid (∀ w' (b : Bool), Below w.heap.size w w' → b = decide (1 ≤ q ∧ q ≤ 65) → Q (.returned (.tuple #[strV jt, .bool b])) w') := by
        intro w' b hb he
        rw [HQ.out, HNS.out, HJT.out]
        refine ⟨_, b, rfl, HPL.out, ?_, ?_, hb⟩
        · rw [he, ← HJO.out]
          exact ⟨fun h => ⟨ns, rfl, h⟩, fun ⟨ns', h1, h2⟩ => by cases h1; exact h2⟩
        · rintro - ns' h1
          cases h1; rfl
      rw [← HJT.out] at HJN
      clear h60 htw hst hlt
      by_cases h1 : 1 ≤ q
      · by_cases h2 : q ≤ 65
        · have e := decide_eq_true (And.intro h1 h2)
          have HE := hid e
          clear e
          go_wp2_with fail
          refine HJN.out.mono ?_
          rintro e w5 ⟨rfl, hb5⟩
          have HB5 : Hid (Below w.heap.size w w5) := below_step HBW.out hb5 HBW.out.size
          clear hb5
          go_wp2_with fail
          exact HFIN.out _ _ HB5.out (by first | (rw [HE.out]; done) | (rw [HE.out]; exact decide_eq_true (by omega)) | (rw [HE.out]; exact decide_eq_false (by omega)))
        · have HE : Hid (decide (1 ≤ q ∧ q ≤ 65) = false) := decide_eq_false fun h => h2 h.2
          go_wp2_with fail
          refine HJN.out.mono ?_
          rintro e w5 ⟨rfl, hb5⟩
          have HB5 : Hid (Below w.heap.size w w5) := below_step HBW.out hb5 HBW.out.size
          clear hb5
          go_wp2_with fail
          exact HFIN.out _ _ HB5.out (by first | (rw [HE.out]; done) | (rw [HE.out]; exact decide_eq_true (by omega)) | (rw [HE.out]; exact decide_eq_false (by omega)))
      · have HE : Hid (decide (1 ≤ q ∧ q ≤ 65) = false) := decide_eq_false fun h => h1 h.1
        go_wp2_with fail
        refine HJN.out.mono ?_
        rintro e w5 ⟨rfl, hb5⟩
        have HB5 : Hid (Below w.heap.size w w5) := below_step HBW.out hb5 HBW.out.size
        clear hb5
        go_wp2_with fail
        exact HFIN.out _ _ HB5.out (by first | (rw [HE.out]; done) | (rw [HE.out]; exact decide_eq_true (by omega)) | (rw [HE.out]; exact decide_eq_false (by omega)))

end Go.Proofs.YtpjikakbdahmfaaGreatDoor

namespace Go.Proofs.YtpjikakbdahmfaaGreatDoor
open Go.RowKit

def s13 : List Mes := [⟨⟨#[109]⟩, [⟨⟨#[97]⟩, 7, 17, false, false, 0⟩, ⟨⟨#[98]⟩, 2, 1, false, false, 0⟩, ⟨⟨#[99]⟩, 3, 1, false, false, 0⟩]⟩]
def p13 : List (List UInt8) := [[97, 46, 98], [97], [97, 46, 99]]
theorem make13 : makeC s13 0 p13 = (0, [[7]]) := by decide +kernel

set_option maxRecDepth 100000 in
set_option maxHeartbeats 4000000 in
theorem law13_alive (w : World) : Calls Tryz.prog 5 #[] w fun e w' => e = .returned (.bool true) ∧ Below w.heap.size w w' := by
  go_enter Tryz.func5, Tryz.ntmps5
  go_wp2_with fail
  obtain ⟨W, HW⟩ : ∃ W, Hid (W = ((w.alloc (.cells #[.string ⟨#[97]⟩, .int .i64 7, .int .i64 17, .bool false, .bool false, .int .i64 0, .string ⟨#[98]⟩, .int .i64 2, .int .i64 1, .bool false, .bool false, .int .i64 0, .string ⟨#[99]⟩, .int .i64 3, .int .i64 1, .bool false, .bool false, .int .i64 0] 50)).alloc
    (.cells #[.string ⟨#[109]⟩, .slice (some ⟨w.heap.size, 0, none⟩) 3 3] 72)).alloc (.cells #[.string ⟨#[97, 46, 98]⟩, .string ⟨#[97]⟩, .string ⟨#[97, 46, 99]⟩] 9)) := ⟨_, rfl⟩
  have hS : SchemaAt W (.slice (some ⟨w.heap.size + 1, 0, none⟩) 1 1) s13 := by
    rw [HW.out]
    refine schema_one (Blk.alloc (Blk.new' _ [.string ⟨#[109]⟩, .slice (some ⟨w.heap.size, 0, none⟩) 3 3] _ _ (by simp)) _) (by decide) ?_
    refine fields_blk (Blk.alloc (Blk.alloc (Blk.new w _ _) _) _) 3 rfl (by omega) ?_
    intro f hf
    simp at hf
    rcases hf with rfl | rfl | rfl <;> exact ⟨by decide, by decide, by decide, by decide⟩
  have hP : StrsAt W (.slice (some ⟨w.heap.size + 1 + 1, 0, none⟩) 3 3) p13 := by
    rw [HW.out]
    refine ⟨seg_blk (Blk.new' _ (p13.map strV) 9 _ (by simp)) 1 3 rfl (by omega), by decide⟩
  have HM := hid (mask_Make hS 0 hP (by decide))
  rw [make13] at HM
  have HB : Hid (Below w.heap.size w W) := by show Below _ _ _; rw [HW.out]; (repeat (first | with_reducible exact Below.refl _ _ | with_reducible refine Below.setCell ?_ (by first | omega | (simp; omega) | (simp; done)) _ | with_reducible refine Below.alloc ?_ (by first | omega | (simp; omega) | (simp; done)) _ | with_reducible refine below_drewN ?_ _ | with_reducible refine Below.drew ?_))
  rw [← HW.out]
  clear hS hP
  refine HM.out.mono ?_
  rintro e w1 ⟨v1, rfl, hN, hb1⟩
  have HB1 : Hid (Below w.heap.size w w1) := below_step HB.out hb1 HB.out.size
  obtain ⟨b, q, a, c, hv, g0, hb5, hb5', hE⟩ := hN.elem (k := 0) (x := [7]) rfl
  obtain ⟨c1, hv1⟩ : ∃ c1, v1 = .slice (some ⟨b, q, none⟩) 1 c1 := ⟨_, hv⟩
  subst hv1
  have hI := hE w1 fun _ _ _ => rfl
  rw [Nat.add_zero] at g0
  have g0' : w1.cell? ⟨b, q, none⟩ = some (.slice a 1 c) := g0
  have hI' : IntsAt w1 (.slice a 1 c) [7] := hI
  have HI := hid hI'
  have hix := index_0 Tryz.underlying25 size_ints (a := some ⟨b, q, none⟩) rfl (by decide : 0 < 1) (cap := c1)
  unfold maskV
  clear hN hb1 hv hb5 hE hI hI' g0
  go_wp2_with fail
  have hA : Below w1.heap.size w1 ((w1.alloc (.cells #[.slice (some ⟨b, q, none⟩) 1 c1] 38)).alloc (.cells #[.int .i64 7] 3)) := by (repeat (first | with_reducible exact Below.refl _ _ | with_reducible refine Below.setCell ?_ (by first | omega | (simp; omega) | (simp; done)) _ | with_reducible refine Below.alloc ?_ (by first | omega | (simp; omega) | (simp; done)) _ | with_reducible refine below_drewN ?_ _ | with_reducible refine Below.drew ?_))
  have h7 : IntsAt ((w1.alloc (.cells #[.slice (some ⟨b, q, none⟩) 1 c1] 38)).alloc (.cells #[.int .i64 7] 3)) (.slice (some ⟨w1.heap.size + 1, 0, none⟩) 1 1) [7] :=
    ⟨seg_blk (Blk.new' _ [.int .i64 7] 3 _ (by simp)) 1 1 rfl (by omega), by simp [i64ok]⟩
  have HSM := hid (ref07_SameInts (HI.out.below hA) h7)
  have HB5 := hid (HB1.out.trans (hA.mono HB1.out.size))
  clear hA h7
  refine HSM.out.mono ?_
  rintro e w2 ⟨rfl, hd⟩
  have HB6 := hid (below_step HB5.out hd.below HB5.out.size)
  clear hd
  go_wp2_with fail
  go_ret
  exact ⟨by simp, HB6.out⟩

end Go.Proofs.YtpjikakbdahmfaaGreatDoor

namespace Go.Proofs.YtpjikakbdahmfaaGreatDoor
open Go.RowKit

theorem twt_snoc (l : List (List UInt8)) (k : Nat) (t : List UInt8) (h : l[k]? = some t) : twt (l.take (k + 1)) = twt (l.take k) + (1 + t.length) := sum_take _ l k t h

set_option maxRecDepth 100000 in
set_option maxHeartbeats 4000000 in
theorem law12_Long {w : World} {v : Value} {l : List (List UInt8)} (h : StrsAt w v l) (hw : twt l ≤ 1099511627776) :
    Calls Tryz.prog 7 #[v] w fun e w' => e = .returned (.bool (decide (6000 < twt l))) ∧ w = w' := by
  obtain ⟨hl, a, c, rfl, -, hat⟩ := h.open
  obtain ⟨n, HN⟩ : ∃ n, Hid (n = l.length) := ⟨_, rfl⟩
  rw [← HN.out] at hl ⊢
  obtain ⟨y, HY⟩ : ∃ y, Hid (y = twt l) := ⟨_, rfl⟩
  have HAT := hid hat
  have hy : y ≤ 1099511627776 := by rw [HY.out]; exact hw
  rw [← HY.out]
  clear hat h hw
  go_enter Tryz.func7, Tryz.ntmps7
  go_wp2_with fail
  go_loopw [3, 4] (fun v3 v4 wr => ∃ z i : Nat, v3 = .int .i64 z ∧ v4 = .int .i64 i ∧ i ≤ n ∧ z ≤ 1099511627776 ∧ Hid (z = twt (l.take i)) ∧ w = wr) (fun _ v4 _ => n - (intOf v4).toNat)
  case atStart => exact ⟨0, 0, rfl, rfl, by omega, by omega, rfl, rfl⟩
  case round =>
    obtain ⟨z, i, rfl, rfl, hi, hz, HZ, rfl⟩ := hrel
    by_cases h1 : i < n
    · have hxi : l[i]? = some (l[i]'(by rw [← HN.out]; exact h1)) := List.getElem?_eq_getElem _
      generalize l[i]'(by rw [← HN.out]; exact h1) = x at hxi
      obtain ⟨hxl, b, o, ha, g0⟩ := HAT.out i x hxi
      have hix := index_run1 Tryz.underlying24 size_strp ha i h1 (cap := c)
      have hbl : b < w.heap.size := World.block_lt_of_cell? w _ g0
      have HST : Hid (z + x.length + 1 = twt (l.take (i + 1)) ∧ z + x.length + 1 ≤ 1099511627776) := by
        have h2 := twt_snoc l i x hxi
        have h3 := twt_take' l (i + 1)
        have h4 := HZ.out
        have h5 := HY.out
        exact ⟨by omega, by omega⟩
      unfold strV at g0
      have hsb : (⟨x.toArray⟩ : ByteArray).size = x.length := str_size x
      obtain ⟨xs, HXS⟩ : ∃ xs : ByteArray, Hid (xs = ⟨x.toArray⟩) := ⟨_, rfl⟩
      obtain ⟨xl, HXL⟩ : ∃ xl, Hid (xl = x.length) := ⟨_, rfl⟩
      rw [← HXS.out] at g0 hsb
      rw [← HXL.out] at hsb HST hxl
      have hzb := HST.out.2
      clear hxi ha
      go_wp2_with fail
      go_roundw
      case rel => exact ⟨z + xl + 1, i + 1, by first | go_num | (rw [hsb]; go_num), by go_num, h1, HST.out.2, HST.out.1, by first | trivial | rfl⟩
      case measure => simp [intOf]; omega
    · obtain rfl : i = n := by omega
      have HZY : Hid (z = y) := by
        have := HZ.out
        rw [HN.out, List.take_length] at this
        rw [Hid, this, HY.out]
      by_cases hb : 6000 < z
      · have HD : Hid (decide (6000 < y) = true) := by rw [Hid, ← HZY.out]; exact decide_eq_true hb
        go_wp2_with fail
        go_ret
        exact ⟨by rw [HD.out]; first | done | rfl | (simp; done) | (simp; omega), rfl⟩
      · have HD : Hid (decide (6000 < y) = false) := by rw [Hid, ← HZY.out]; exact decide_eq_false hb
        go_wp2_with fail
        go_ret
        exact ⟨by rw [HD.out]; first | done | rfl | (simp; done) | (simp; omega), rfl⟩

/-- l[:j] of strings -/
theorem StrsAt.h {w : World} {a : Option Addr} {n cap : Nat} {l : List (List UInt8)} (h : StrsAt w (.slice a n cap) l) (hn : n = l.length) (j : Nat) (hj : j ≤ n) :
    ∃ a' c', (∀ W, (Instr.slice 24 (.slice a n cap) none (some (.int .i64 (j : Int))) none).run Tryz.prog W = .ok (.slice a' j c') W) ∧ StrsAt w (.slice a' j c') (l.take j) := by
  subst hn
  have hcap : l.length ≤ cap := by obtain ⟨⟨_, _, a', cap', hv, h3, _⟩, _⟩ := h; cases hv; exact h3
  refine ⟨_, _, fun W => slice_h_run under_strl size_strp a _ cap j (by omega) W, ?_⟩
  have hs := Seg.sub h.1 0 j (by omega) hj
  refine ⟨?_, fun t ht => h.2 t (List.mem_of_mem_take ht)⟩
  rw [List.length_take, Nat.min_eq_left (by omega), List.map_take]
  simpa [sliced] using hs

theorem twt_sdot : ∀ p : List UInt8, twt (sdot p) ≤ p.length + 1
  | [] => by simp [sdot, twt]
  | c :: r => by
    have ih := twt_sdot r
    obtain ⟨h, t, e⟩ := sdot_cons r
    rw [sdot]
    split
    · unfold twt at ih ⊢
      simp at ih ⊢
      omega
    · rw [e] at ih ⊢
      unfold twt at ih ⊢
      simp at ih ⊢
      omega

theorem own_if {w : World} {base : Nat} {v : Value} {p : List UInt8} {ok : Bool} (h : StrsOwn w base v (if ok = true then sdot p else [])) (hp : p.length ≤ 549755813888) : StrsAt w v (if ok = true then sdot p else []) := by
  cases ok with
  | true => exact sdot_strs (base := base) h hp
  | false => exact h.strs (by simp) (by simp)

end Go.Proofs.YtpjikakbdahmfaaGreatDoor
