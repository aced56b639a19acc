/- darningref13.Path: the path of a way, and whether it is one's. The schema is right, the way at most 2^30 numbers. darningref19.Mask: are ways a mask of the message (maskOk)? Ways of at most 2^30 numbers each. darningref14.Same, SameValue of one meaning twice: true. No condition. -/
import Derived.Test.YtfimpmennkfjcaaGreatDoorZ10
import Derived.Test.YtfimpmennkfjcaaGreatDoorZ19
import Derived.Test.YtfimpmennkfjcaaGreatDoorZ26
import Derived.Test.YtfimpmennkfjcaaGreatDoorZ31
import Derived.Test.YtfimpmennkfjcaaGreatDoorZ34
import Derived.Test.YtfimpmennkfjcaaGreatDoorZ39
import Derived.Test.YtfimpmennkfjcaaGreatDoorZ42
import Derived.StillTailTactics
import Derived.Deep.CutBlock
import Derived.Deep.CutRange
namespace Go.Proofs.YtfimpmennkfjcaaGreatDoor
open Go.RowKit
theorem sright_nameOk {s : List Mes} (h : sright s = true) (m : Mes) (hm : m ∈ s) (f : Fld) (hf : f ∈ m.fields) : nameOk f.name = true := by
  have h0 : (scheck s).2.2 = 0 := of_decide_eq_true h
  unfold scheck at h0
  by_cases h1 : s.length = 0 ∨ 100 < s.length
  · rw [if_pos h1] at h0; simp at h0
  rw [if_neg h1] at h0
  obtain ⟨h2, -, -⟩ := scheckGo_ok s [] 0 h0 _ hm
  obtain ⟨nm, nu, h3⟩ := fieldsFault_none _ _ _ h2 f hf
  exact (fieldFault_ok h3).1
theorem nameOk_len {t : List UInt8} (h : nameOk ⟨t.toArray⟩ = true) : t.length ≤ 60 := by
  unfold nameOk at h
  simp [ByteArray.size] at h
  exact h.2.2
/-- the field of a number, told by its place -/
theorem fieldOfNum_at {s : List Mes} {at' : Nat} {n k : Int} (hk : k = fieldAt (s.getD at' .zero).fields n) :
    (k < 0 ∧ fieldOfNum s at' n = none) ∨ ∃ j : Nat, k = j ∧ j < (s.getD at' .zero).fields.length ∧ fieldOfNum s at' n = some ((s.getD at' .zero).fields.getD j .zero) := by
  subst hk
  unfold fieldOfNum fieldAt
  rw [Int.toNat_natCast]
  have key : ∀ (l : List Fld) (i : Nat), (firstAt (fun f : Fld => decide (f.number = n)) l i < 0 ∧ l.find? (fun f => decide (f.number = n)) = none) ∨ ∃ j : Nat, firstAt (fun f : Fld => decide (f.number = n)) l i = ((i + j : Nat) : Int) ∧ j < l.length ∧ l.find? (fun f => decide (f.number = n)) = some (l.getD j .zero) := by
    intro l
    induction l with
    | nil => intro i; exact .inl ⟨by simp [firstAt], rfl⟩
    | cons g r ih =>
      intro i
      simp only [firstAt]
      by_cases hg : g.number = n
      · exact .inr ⟨0, by simp [hg], by simp, by rw [List.find?_cons_of_pos (by simpa using hg)]; rfl⟩
      · rw [List.find?_cons_of_neg (by simpa using hg), if_neg (by simpa using hg)]
        rcases ih (i + 1) with h | ⟨j, h1, h2, h3⟩
        · exact .inl h
        · exact .inr ⟨j + 1, by rw [h1]; congr 1; omega, by simp; omega, by rw [h3]; simp⟩
  rcases key (s.getD at' .zero).fields 0 with h | ⟨j, h1, h2, h3⟩
  · exact .inl h
  · exact .inr ⟨j, by rw [h1, Nat.zero_add], h2, h3⟩
def PathRPost (w : World) (o : Option (List (List UInt8))) (e : Ending) (w' : World) : Prop :=
  ∃ (p : List UInt8) (b : Bool), e = .returned (.tuple #[strV p, .bool b]) ∧ p.length ≤ 137438953472 ∧ (b = true ↔ ∃ ns, o = some ns ∧ joinOk ns = true) ∧ (b = true → ∀ ns, o = some ns → p = sjoin ns) ∧ Below w.heap.size w w'
set_option maxRecDepth 100000 in
set_option maxHeartbeats 8000000 in
theorem ref13_Path {w : World} {sv yv : Value} {s : List Mes} {y : List Int} (hS : SchemaAt w sv s) (hs : sright s = true) (root : Nat) (hroot : root < s.length) (hY : IntsAt w yv y) (hL : y.length ≤ 1073741824) :
    Calls Tryz.prog 35 #[sv, .int .i64 (root : Int), yv] w (PathRPost w (namesW s root y)) := by
  have HS := hid hS
  have HSR := hid hs
  obtain ⟨hm, sa, sc, rfl, hsat⟩ := hS.open
  obtain ⟨m, HM⟩ : ∃ m, Hid (m = s.length) := ⟨_, rfl⟩
  rw [← HM.out] at hm HS hroot hsat ⊢
  obtain ⟨-, ya, yc, rfl, -, hyat⟩ := hY.open
  obtain ⟨yn, HYN⟩ : ∃ n, Hid (n = y.length) := ⟨_, rfl⟩
  rw [← HYN.out] at hL ⊢
  obtain ⟨Q, HQ⟩ : ∃ Q : Ending → World → Prop, Hid (Q = PathRPost w (namesW s root y)) := ⟨_, rfl⟩
  rw [← HQ.out]
  have HBAD : Hid (∀ w', Below w.heap.size w w' → namesW s root y = none → Q (.returned (.tuple #[.string ⟨#[]⟩, .bool false])) w') := by
    intro w' hb h
    rw [HQ.out, h]
    exact ⟨[], false, rfl, by simp, by simp, by simp, hb⟩
  have HSAT := hid hsat
  have HYAT := hid hyat
  clear hS hs hY hsat hyat
  go_enter Tryz.func35, Tryz.ntmps35
  go_wp2_with fail
  go_loopw [1, 8, 9] (fun v1 v8 v9 wr => ∃ (at' : Int) (q : Nat) (ns : List (List UInt8)), v1 = .int .i64 at' ∧ v9 = .int .i64 (q : Int) ∧ q ≤ yn ∧ Hid (StrsOwn wr w.heap.size v8 ns ∧ Below w.heap.size w wr ∧ ns.length = q ∧ namesW s root y = (namesW s at' (y.drop q)).map (ns ++ ·) ∧ (q < yn → 0 ≤ at' ∧ at' < m) ∧ ∀ t ∈ ns, nameOk ⟨t.toArray⟩ = true)) (fun _ _ v9 _ => yn - (intOf v9).toNat)
  case atStart => exact ⟨root, 0, [], rfl, rfl, by omega, World.ownsRow_nil _ _ _ _, Below.refl _ _, rfl, by simp, fun _ => by omega, by simp⟩
  case round =>
    obtain ⟨at0, q, ns, rfl, rfl, hq, HJ⟩ := hrel
    obtain ⟨na, nc, hne⟩ := HJ.out.1.form
    rw [HJ.out.2.2.1] at hne
    subst hne
    by_cases hlt : q < yn
    · obtain ⟨at', rfl⟩ : ∃ a : Nat, at0 = a := ⟨at0.toNat, by have := HJ.out.2.2.2.2.1 hlt; omega⟩
      have hatm : at' < m := by have := HJ.out.2.2.2.2.1 hlt; omega
      obtain ⟨nb, hnb⟩ := int_get HYN.out hlt
      obtain ⟨h64, b2, o2, ha2, g2⟩ := HYAT.out q nb hnb
      have hix2 := index_run1 Tryz.underlying56 size_int ha2 q hlt (cap := yc)
      have hkp := below_keeps HJ.out.2.1
      replace g2 := hkp _ _ g2
      have HDQ := hid (drop_at hnb)
      obtain ⟨b1, o1, fv, ha1, hnl, g0, g1, hF⟩ := HSAT.out at' hatm
      have hix1 := index_run Tryz.underlying23 size_mes ha1 at' hatm (cap := sc)
      replace g0 := hkp _ _ g0
      replace g1 := hkp _ _ g1
      obtain ⟨fs, HFS⟩ : ∃ fs, Hid (fs = (s.getD at' .zero).fields) := ⟨_, rfl⟩
      rw [← HFS.out] at hF
      obtain ⟨nm, HNM⟩ : ∃ nm, Hid (nm = (s.getD at' .zero).name) := ⟨_, rfl⟩
      rw [← HNM.out] at g0
      have hF' := hF.keep hkp
      have HFC := hid (ref07_Field (hF'.keep (w' := wr.drew) fun _ _ h => h) nm nb)
      obtain ⟨hfl, fa, fc, rfl, hfat⟩ := hF'.open
      obtain ⟨fn, HFN⟩ : ∃ fn, Hid (fn = fs.length) := ⟨_, rfl⟩
      rw [← HFN.out] at hfl hfat g1 HFC
      have HFAT := hid hfat
      obtain ⟨k, HK⟩ : ∃ k, Hid (k = fieldAt fs nb) := ⟨_, rfl⟩
      rw [← HK.out] at HFC
      have HFO := hid (fieldOfNum_at (s := s) (at' := at') (n := nb) (k := k) (by rw [← HFS.out]; exact HK.out))
      rw [← HFS.out, ← HFN.out] at HFO
      clear hnb ha2 h64 ha1 hnl hF hF' hkp hfat
      go_wp2_with fail
      go_still_tail 8, (by kernel_rfl)
      change wpList _ _ _ _ _ wr.drew
      go_wp2_with fail
      refine HFC.out.mono ?_
      rintro e w2 ⟨rfl, hb2'⟩
      have hb2 : Below wr.heap.size wr w2 := (Below.refl wr.heap.size wr).drew.trans hb2'
      have HB2 := hid hb2
      have HBW : Hid (Below w.heap.size w w2) := below_step HJ.out.2.1 hb2 HJ.out.2.1.size
      have hkp := below_keeps hb2
      replace g0 := hkp _ _ g0
      replace g1 := hkp _ _ g1
      clear hb2 hb2' g2
      rcases HFO.out with ⟨hk0, hno⟩ | ⟨j, hkj, hjn, hso⟩
      · have HX : Hid (namesW s root y = none) := by rw [Hid, HJ.out.2.2.2.1, HDQ.out, namesW, hno]; rfl
        have hd : decide (k < 0) = true := decide_eq_true hk0
        clear hk0 hno hkp
        go_wp2_with fail
        exact HBAD.out _ HBW.out HX.out
      · subst hkj
        have hd : decide ((j : Int) < 0) = false := decide_eq_false (by omega)
        obtain ⟨b3, o3, ha3, hok, f0, f1, f2, f3, f4, f5⟩ := HFAT.out j hjn
        have hix3 := index_run Tryz.underlying65 size_fld ha3 j hjn (cap := fc)
        obtain ⟨f, HF⟩ : ∃ f, Hid (f = fs.getD j .zero) := ⟨_, rfl⟩
        rw [← HF.out] at hok f0 f1 f2 f3 f4 f5 hso
        have hfm : f ∈ (s.getD at' .zero).fields := by
          rw [← HFS.out, HF.out]
          exact getD_memM _ _ _ (by rw [← HFN.out]; exact hjn)
        have hsm : s.getD at' .zero ∈ s := getD_memM _ _ _ (by rw [← HM.out]; exact hatm)
        have HNOK : Hid (nameOk f.name = true) := sright_nameOk HSR.out _ hsm f hfm
        have HK17 : Hid (f.kind = 17 → 0 ≤ f.of ∧ f.of < m) := by
          have := (sright_field HSR.out at' (by rw [← HM.out]; exact hatm) f hfm).2.1
          rw [← HM.out] at this; exact this
        have HNW : Hid (namesW s root y = if y.drop (q + 1) ≠ [] ∧ (f.rep = true ∨ f.kind ≠ 17) then none else (namesW s f.of (y.drop (q + 1))).map ((ns ++ [f.name.data.toList]) ++ ·)) := by
          rw [Hid, HJ.out.2.2.2.1, HDQ.out, namesW, hso]
          simp only
          split
          · rfl
          · cases namesW s f.of (y.drop (q + 1)) <;> simp
        have HNIL : Hid (y.drop (q + 1) ≠ [] ↔ q + 1 < yn) := by
          show _ ↔ _
          rw [HYN.out]
          constructor
          · intro h
            rcases Nat.lt_or_ge (q + 1) y.length with h1 | h1
            · exact h1
            · exact absurd (List.drop_eq_nil_of_le h1) h
          · intro h e
            have := congrArg List.length e
            simp at this; omega
        replace f0 := hkp _ _ f0
        replace f1 := hkp _ _ f1
        replace f2 := hkp _ _ f2
        replace f3 := hkp _ _ f3
        replace f4 := hkp _ _ f4
        replace f5 := hkp _ _ f5
        obtain ⟨fname, fnum, fkind, frep, fpack, fof⟩ := f
        simp only at HNOK HK17 HNW f0 f1 f2 f3 f4 f5
        obtain ⟨W1, HW1⟩ : ∃ W1, Hid (W1 = w2.alloc (.cells #[.string fname, .int .i64 fnum, .int .i64 fkind, .bool frep, .bool fpack, .int .i64 fof] 64)) := ⟨_, rfl⟩
        have hbx : Blk W1 w2.heap.size [.string fname, .int .i64 fnum, .int .i64 fkind, .bool frep, .bool fpack, .int .i64 fof] 64 := by rw [HW1.out]; exact Blk.new w2 [.string fname, .int .i64 fnum, .int .i64 fkind, .bool frep, .bool fpack, .int .i64 fof] _
        have hb1 : Below w2.heap.size w2 W1 := by rw [HW1.out]; (repeat (first | with_reducible exact Below.refl _ _ | with_reducible refine Below.setCell ?_ (by first | omega | (simp; omega) | (simp; done)) _ | with_reducible refine Below.alloc ?_ (by first | omega | (simp; omega) | (simp; done)) _ | with_reducible refine below_drewN ?_ _ | with_reducible refine Below.drew ?_))
        have hsv : strV fname.data.toList = .string fname := by unfold strV; simp
        have hB1 : Below wr.heap.size wr W1 := below_step HB2.out hb1 HB2.out.size
        have hs1 : w.heap.size ≤ W1.heap.size := Nat.le_trans HJ.out.2.1.size hB1.size
        have hown1 := HJ.out.1.later hB1
        obtain ⟨v8, w8, hr8, hO8, hg8⟩ := StrsOwn.one hown1 fname.data.toList (by rw [HJ.out.2.2.1]; omega) hs1
        obtain ⟨a8, c8, e8⟩ := hO8.form
        rw [List.length_append, List.length_singleton, HJ.out.2.2.1] at e8
        subst e8
        rw [hsv] at hr8
        have hX8 : Blk w8 w2.heap.size [.string fname, .int .i64 fnum, .int .i64 fkind, .bool frep, .bool fpack, .int .i64 fof] 64 := (hg8.block _ hbx.lt (fun e => by have := (World.ownsRow.lt HJ.out.1 _ e.symm).2; have := HB2.out.size; omega)).trans hbx
        have HREL : Hid (StrsOwn w8 w.heap.size (.slice a8 (q + 1) c8) (ns ++ [fname.data.toList]) ∧ Below w.heap.size w w8 ∧ (ns ++ [fname.data.toList]).length = q + 1 ∧ ∀ t ∈ ns ++ [fname.data.toList], nameOk ⟨t.toArray⟩ = true) := by
          refine ⟨hO8, (HJ.out.2.1.trans (hB1.mono HJ.out.2.1.size)).grown hg8 hs1 (fun e1 e2 => (World.ownsRow.lt HJ.out.1 e1 e2).1), by rw [List.length_append, HJ.out.2.2.1]; rfl, fun t ht => ?_⟩
          rcases List.mem_append.1 ht with ht | ht
          · exact HJ.out.2.2.2.2.2 t ht
          · have e : t = fname.data.toList := by simpa using ht
            rw [e]; exact HNOK.out
        have k0 := hbx.cell 0 _ rfl
        have k2 := hX8.cell 2 _ rfl
        have k3 := hX8.cell 3 _ rfl
        have k5 := hX8.cell 5 _ rfl
        have HR8 := hid hr8
        have HKK := hid (And.intro k0 (And.intro k2 (And.intro k3 k5)))
        clear hok ha3 hso hfm hsm hkp hbx hb1 hsv hB1 hs1 hown1 hr8 hO8 hg8 hX8 k0 k2 k3 k5
        go_upto_region 9 with fail
        rw [← HW1.out]
        obtain ⟨k0, k2, k3, k5⟩ := HKK.out
        clear f0 f1 f2 f3 f4 f5 g0 g1
        by_cases hbad : q + 1 < yn ∧ (frep = true ∨ fkind ≠ 17)
        · have HX : Hid (namesW s root y = none) := by
            rw [Hid, HNW.out, if_pos ⟨HNIL.out.2 hbad.1, hbad.2⟩]
          obtain ⟨hb1, hb2⟩ := hbad
          have e1 : decide ((q : Int) < (yn : Int) - 1) = true := decide_eq_true (by omega)
          cases frep with
          | true =>
            go_wp2_with (at_builtin; refine wpList_append_eq rfl _ _ _ rfl _ _ rfl rfl HR8.out ?_)
            exact HBAD.out _ HREL.out.2.1 HX.out
          | false =>
            have h17 : fkind ≠ 17 := by rcases hb2 with h | h; cases h; exact h
            have k1 : (fkind != 17) = true := by simpa using h17
            have k2 : (fkind == 17) = false := by simpa using h17
            clear hb2 h17
            go_wp2_with (at_builtin; refine wpList_append_eq rfl _ _ _ rfl _ _ rfl rfl HR8.out ?_)
            exact HBAD.out _ HREL.out.2.1 HX.out
        · rw [if_neg (fun h => hbad ⟨HNIL.out.1 h.1, h.2⟩)] at HNW
          have HRL2 : Hid (namesW s root y = (namesW s fof (y.drop (q + 1))).map ((ns ++ [fname.data.toList]) ++ ·) ∧ (q + 1 < yn → 0 ≤ fof ∧ fof < m)) :=
            ⟨HNW.out, fun h => HK17.out (Classical.byContradiction fun h17 => hbad ⟨h, .inr h17⟩)⟩
          by_cases hq1 : q + 1 < yn
          · have e1 : decide ((q : Int) < (yn : Int) - 1) = true := decide_eq_true (by omega)
            have hrep : frep = false := by cases frep; rfl; exact absurd ⟨hq1, .inl rfl⟩ hbad
            have h17 : fkind = 17 := Classical.byContradiction fun h => hbad ⟨hq1, .inr h⟩
            subst hrep
            subst h17
            clear hbad
            go_wp2_with (at_builtin; refine wpList_append_eq rfl _ _ _ rfl _ _ rfl rfl HR8.out ?_)
            go_roundw
            case rel => exact ⟨fof, q + 1, _, rfl, by go_num, hlt, HREL.out.1, HREL.out.2.1, HREL.out.2.2.1, HRL2.out.1, HRL2.out.2, HREL.out.2.2.2⟩
            case measure => simp [intOf]; omega
          · have e1 : decide ((q : Int) < (yn : Int) - 1) = false := decide_eq_false (by omega)
            have e2 : ¬ ((q : Int) < (yn : Int) - 1) := by omega
            clear hbad hq1
            go_wp2_with (at_builtin; refine wpList_append_eq rfl _ _ _ rfl _ _ rfl rfl HR8.out ?_)
            go_roundw
            case rel => exact ⟨fof, q + 1, _, rfl, by go_num, hlt, HREL.out.1, HREL.out.2.1, HREL.out.2.2.1, HRL2.out.1, HRL2.out.2, HREL.out.2.2.2⟩
            case measure => simp [intOf]; omega
    · obtain rfl : q = yn := by omega
      have HNS : Hid (namesW s root y = some ns) := by
        rw [Hid, HJ.out.2.2.2.1, List.drop_eq_nil_of_le (by rw [← HYN.out]; omega), namesW]; simp
      have h60 : ∀ t ∈ ns, t.length ≤ 60 := fun t ht => nameOk_len (HJ.out.2.2.2.2.2 t ht)
      have htw := twt_le ns h60
      rw [HJ.out.2.2.1] at htw
      have hst := StrsOwn.strs HJ.out.1 (by rw [HJ.out.2.2.1]; omega) (fun t ht => by have := h60 t ht; omega)
      have HJN := hid (ref12_Join hst (by omega))
      have HPL : Hid ((sjoin ns).length ≤ 137438953472) := by
        have h2 := sjoin_len ns
        show _ ≤ _
        omega
      have HJO : Hid (joinOk ns = decide (1 ≤ q ∧ q ≤ 65)) := by
        have h1 : namesOk ns = true := List.all_eq_true.2 HJ.out.2.2.2.2.2
        rw [Hid, joinOk, h1, HJ.out.2.2.1, Bool.true_and]
      have HBW := hid HJ.out.2.1
      obtain ⟨jt, HJT⟩ : ∃ jt, Hid (jt = sjoin ns) := ⟨_, rfl⟩
      have HFIN : Hid (∀ w' (b : Bool), Below w.heap.size w w' → b = decide (1 ≤ q ∧ q ≤ 65) → Q (.returned (.tuple #[strV jt, .bool b])) w') := by
        intro w' b hb he
        rw [HQ.out, HNS.out, HJT.out]
        refine ⟨_, b, rfl, HPL.out, ?_, ?_, hb⟩
        · rw [he, ← HJO.out]
          exact ⟨fun h => ⟨ns, rfl, h⟩, fun ⟨ns', h1, h2⟩ => by cases h1; exact h2⟩
        · rintro - ns' h1
          cases h1; rfl
      rw [← HJT.out] at HJN
      clear h60 htw hst hlt
      by_cases h1 : 1 ≤ q
      · by_cases h2 : q ≤ 65
        · have e := decide_eq_true (And.intro h1 h2)
          have HE := hid e
          clear e
          go_wp2_with fail
          refine HJN.out.mono ?_
          rintro e w5 ⟨rfl, hb5⟩
          have HB5 : Hid (Below w.heap.size w w5) := below_step HBW.out hb5 HBW.out.size
          clear hb5
          go_wp2_with fail
          exact HFIN.out _ _ HB5.out (by first | (rw [HE.out]; done) | (rw [HE.out]; exact decide_eq_true (by omega)) | (rw [HE.out]; exact decide_eq_false (by omega)))
        · have HE : Hid (decide (1 ≤ q ∧ q ≤ 65) = false) := decide_eq_false fun h => h2 h.2
          go_wp2_with fail
          refine HJN.out.mono ?_
          rintro e w5 ⟨rfl, hb5⟩
          have HB5 : Hid (Below w.heap.size w w5) := below_step HBW.out hb5 HBW.out.size
          clear hb5
          go_wp2_with fail
          exact HFIN.out _ _ HB5.out (by first | (rw [HE.out]; done) | (rw [HE.out]; exact decide_eq_true (by omega)) | (rw [HE.out]; exact decide_eq_false (by omega)))
      · have HE : Hid (decide (1 ≤ q ∧ q ≤ 65) = false) := decide_eq_false fun h => h1 h.1
        go_wp2_with fail
        refine HJN.out.mono ?_
        rintro e w5 ⟨rfl, hb5⟩
        have HB5 : Hid (Below w.heap.size w w5) := below_step HBW.out hb5 HBW.out.size
        clear hb5
        go_wp2_with fail
        exact HFIN.out _ _ HB5.out (by first | (rw [HE.out]; done) | (rw [HE.out]; exact decide_eq_true (by omega)) | (rw [HE.out]; exact decide_eq_false (by omega)))
end Go.Proofs.YtfimpmennkfjcaaGreatDoor
namespace Go.Proofs.YtfimpmennkfjcaaGreatDoor
open Go.RowKit
def goodW (s : List Mes) (root : Int) (w : List Int) : Bool := match namesW s root w with | some ns => joinOk ns | none => false
def maskOk (s : List Mes) (root : Int) (ws : List (List Int)) : Bool := isMaskW ws && ws.all (goodW s root)
theorem goodW_iff {s : List Mes} {root : Int} {w : List Int} : goodW s root w = true ↔ ∃ ns, namesW s root w = some ns ∧ joinOk ns = true := by
  unfold goodW
  cases namesW s root w with
  | none => simp
  | some ns => simp
theorem pathsW_good {s : List Mes} {root : Int} : ∀ {ws : List (List Int)}, (∃ l, pathsW s root ws = some l) ↔ ws.all (goodW s root) = true
  | [] => by simp [pathsW]
  | w :: r => by
    rw [pathsW, List.all_cons, Bool.and_eq_true, goodW_iff, ← pathsW_good]
    cases namesW s root w with
    | none => simp
    | some ns =>
      simp only [Option.some.injEq, exists_eq_left']
      by_cases h : joinOk ns = true
      · rw [if_pos h]
        cases pathsW s root r <;> simp [h]
      · rw [if_neg h]; simp [h]
theorem pathsC_ok {s : List Mes} {root : Int} {ws : List (List Int)} (h0 : maskArgs s root = 0) : (pathsC s root ws).1 = 0 ↔ maskOk s root ws = true := by
  unfold pathsC maskOk
  rw [if_neg (by omega), Bool.and_eq_true, ← pathsW_good]
  cases hm : isMaskW ws with
  | false => simp
  | true =>
    rw [if_neg (by decide)]
    cases pathsW s root ws <;> simp
set_option maxRecDepth 100000 in
set_option maxHeartbeats 4000000 in
theorem ref19_Mask {w : World} {sv mv : Value} {s : List Mes} {ws : List (List Int)} (hS : SchemaAt w sv s) (hs : sright s = true) (root : Nat) (hroot : root < s.length) (hM : WaysAt w mv ws) (hL : LightW ws) (hL2 : ∀ l ∈ ws, l.length ≤ 1073741824) :
    Calls Tryz.prog 16 #[sv, .int .i64 (root : Int), mv] w fun e w' => e = .returned (.bool (maskOk s (root : Int) ws)) ∧ Below w.heap.size w w' := by
  have HS := hid (And.intro hS (And.intro hs hroot))
  have HM := hid (And.intro hM (And.intro hL hL2))
  obtain ⟨-, sa, sc, rfl, -⟩ := hS.open
  obtain ⟨-, ma, mc, rfl, -, hat⟩ := hM.open
  obtain ⟨sn, HSN⟩ : ∃ n, Hid (n = s.length) := ⟨_, rfl⟩
  obtain ⟨n, HN⟩ : ∃ n, Hid (n = ws.length) := ⟨_, rfl⟩
  have hn : n ≤ 1099511627776 := by rw [HN.out]; exact hL.1
  rw [← HSN.out] at HS ⊢
  rw [← HN.out] at HM ⊢
  have HAT := hid hat
  obtain ⟨R, HR⟩ : ∃ R, Hid (R = maskOk s (root : Int) ws) := ⟨_, rfl⟩
  rw [← HR.out]
  have HOF := hid (ref13_Of hM hL.1)
  rw [← HN.out] at HOF
  clear hS hs hroot hM hL hL2 hat
  go_enter Tryz.func16, Tryz.ntmps16
  go_wp2_with fail
  refine HOF.out.mono ?_
  rintro e w1 ⟨v1, rfl, hO, hb1⟩
  obtain ⟨-, oa, oc, rfl, -, -⟩ := hO.open
  have HB1 := hid hb1
  have HSM := hid (ref13_Same hO (HM.out.1.below hb1))
  obtain ⟨q, HQ⟩ : ∃ q, Hid (q = isMaskW ws) := ⟨_, rfl⟩
  have hq : decide (mOf ws = ws) = q := by rw [HQ.out]; rfl
  rw [hq] at HSM
  generalize (mOf ws).length = on at *
  clear hO hb1 hq HOF
  go_wp2_with fail
  refine HSM.out.mono ?_
  rintro e w2 ⟨rfl, hd⟩
  have HB2 := hid (HB1.out.trans (hd.below.mono HB1.out.size))
  clear hd HSM
  go_wp2_with fail
  go_loopw [7, 8] (fun v7 v8 wr => ∃ (i : Nat) (ok : Bool), v7 = .bool ok ∧ v8 = .int .i64 (i : Int) ∧ i ≤ n ∧ Hid ((ok && (ws.drop i).all (goodW s (root : Int))) = R) ∧ Hid (Below w.heap.size w wr)) (fun _ v8 _ => n - (intOf v8).toNat)
  case atStart => exact ⟨0, q, rfl, rfl, by omega, by rw [Hid, HQ.out, HR.out]; rfl, HB2.out⟩
  case round =>
    obtain ⟨i, ok, rfl, rfl, hi, HI, HG⟩ := hrel
    by_cases hlt : i < n
    · cases ok with
      | false =>
        have HE : Hid (R = false) := by rw [Hid, ← HI.out]; rfl
        go_wp2_with fail
        go_ret
        exact ⟨by rw [HE.out]; rfl, HG.out⟩
      | true =>
        obtain ⟨y, hy⟩ := way_get HN.out hlt
        obtain ⟨b, o, ya, yc, ha, g0, hY⟩ := HAT.out i y hy
        replace g0 := below_keeps HG.out _ _ g0
        have hix := index_run1 Tryz.underlying34 size_ints ha i hlt (cap := mc)
        have HPT := hid (ref13_Path (HS.out.1.below HG.out) HS.out.2.1 root (by have := HS.out.2.2; rw [HSN.out] at *; omega) (hY.below HG.out) (HM.out.2.2 y (List.mem_of_getElem? hy)))
        have HST : Hid (R = (goodW s (root : Int) y && (ws.drop (i + 1)).all (goodW s (root : Int)))) := by
          obtain ⟨h1, h2⟩ := List.getElem?_eq_some_iff.1 hy
          rw [Hid, ← HI.out, List.drop_eq_getElem_cons h1, h2]; rfl
        obtain ⟨yn, HYN⟩ : ∃ n, Hid (n = y.length) := ⟨_, rfl⟩
        rw [← HYN.out] at g0 HPT
        clear ha hy hY
        go_wp2_with fail
        refine HPT.out.mono ?_
        rintro e w5 ⟨p, bb, rfl, -, hb1, -, hb5⟩
        have HBB : Hid (goodW s (root : Int) y = bb) := by
          cases bb with
          | true => exact goodW_iff.2 (hb1.1 rfl)
          | false =>
            cases hg : goodW s (root : Int) y with
            | false => rfl
            | true => exact absurd (hb1.2 (goodW_iff.1 hg)) (by decide)
        have HG5 := hid (HG.out.trans (hb5.mono HG.out.size))
        clear hb1 hb5
        unfold strV
        generalize (⟨p.toArray⟩ : ByteArray) = PS at *
        go_wp2_with fail
        go_roundw
        case rel => exact ⟨i + 1, bb, rfl, by go_num, hlt, by rw [Hid, HST.out, HBB.out], HG5.out⟩
        case measure => simp [intOf]; omega
    · obtain rfl : i = n := by omega
      have HE : Hid (R = ok) := by rw [Hid, ← HI.out, List.drop_eq_nil_of_le (by rw [← HN.out]; exact Nat.le_refl _)]; simp
      cases ok
      all_goals
        go_wp2_with fail
        go_ret
        exact ⟨by rw [HE.out]; rfl, HG.out⟩
end Go.Proofs.YtfimpmennkfjcaaGreatDoor
namespace Go.Proofs.YtfimpmennkfjcaaGreatDoor
open Go.RowKit
theorem size_rmsg' (w : World) : (sizeOf 45).run Tryz.prog w = .ok 2 w := by kernel_rfl
theorem size_rval' (w : World) : (sizeOf 91).run Tryz.prog w = .ok 4 w := by kernel_rfl
def RSameOk (d : Nat) : Prop := ∀ (w : World) (v u : Value) (x : M d), MsgAt d w v x → MsgAt d w u x →
  Calls Tryz.prog 20 #[v, u] w fun e w' => e = .returned (.bool true) ∧ Below w.heap.size w w'
set_option maxRecDepth 100000 in
set_option maxHeartbeats 4000000 in
theorem ref14_SameValue_of {d : Nat} (ih : RSameOk d) {w : World} {v u : Value} {x : Val (M d)} (h : ValAt (MsgAt d) w v x) (hu : ValAt (MsgAt d) w u x) :
    Calls Tryz.prog 46 #[v, u] w fun e w' => e = .returned (.bool true) ∧ Below w.heap.size w w' := by
  obtain ⟨wv, tv, sv, rfl, hnum, hW, hT, hS⟩ := h
  obtain ⟨wv2, tv2, sv2, rfl, -, hW2, hT2, hS2⟩ := hu
  obtain ⟨hwl, wa, wc, rfl, -, hwa⟩ := hW.open
  obtain ⟨htl, ta, tc, rfl, -, hta⟩ := hT.open
  obtain ⟨hsl, sa, sc, rfl, -, hsa⟩ := hS.open
  obtain ⟨-, wa2, wc2, rfl, -, hwa2⟩ := hW2.open
  obtain ⟨-, ta2, tc2, rfl, -, hta2⟩ := hT2.open
  obtain ⟨-, sa2, sc2, rfl, -, hsa2⟩ := hS2.open
  obtain ⟨wn, HWN⟩ : ∃ n, Hid (n = x.words.length) := ⟨_, rfl⟩
  obtain ⟨tn, HTN⟩ : ∃ n, Hid (n = x.texts.length) := ⟨_, rfl⟩
  obtain ⟨sn, HSN⟩ : ∃ n, Hid (n = x.subs.length) := ⟨_, rfl⟩
  rw [← HWN.out] at hwl ⊢
  rw [← HTN.out] at htl ⊢
  rw [← HSN.out] at hsl ⊢
  have HWA := hid (And.intro hwa hwa2)
  have HTA := hid (And.intro hta hta2)
  have HSA := hid (And.intro hsa hsa2)
  have HIH := hid ih
  generalize x.num = num at *
  obtain ⟨A, HA⟩ : ∃ b, Hid (b = w.heap.size) := ⟨_, rfl⟩
  obtain ⟨B, HB⟩ : ∃ b, Hid (b = w.heap.size + 1) := ⟨_, rfl⟩
  obtain ⟨W0, HW0⟩ : ∃ W0, Hid (W0 = (w.alloc (.cells #[.int .i64 num, .slice wa wn wc, .slice ta tn tc, .slice sa sn sc] 91)).alloc (.cells #[.int .i64 num, .slice wa2 wn wc2, .slice ta2 tn tc2, .slice sa2 sn sc2] 91)) := ⟨_, rfl⟩
  have hb0 : Below w.heap.size w W0 := by rw [HW0.out]; (repeat (first | with_reducible exact Below.refl _ _ | with_reducible refine Below.setCell ?_ (by first | omega | (simp; omega) | (simp; done)) _ | with_reducible refine Below.alloc ?_ (by first | omega | (simp; omega) | (simp; done)) _ | with_reducible refine below_drewN ?_ _ | with_reducible refine Below.drew ?_))
  have hx0 : Blk W0 A [.int .i64 num, .slice wa wn wc, .slice ta tn tc, .slice sa sn sc] 91 := by rw [HW0.out, HA.out]; exact (Blk.new w [.int .i64 num, .slice wa wn wc, .slice ta tn tc, .slice sa sn sc] _).alloc _
  have hy0 : Blk W0 B [.int .i64 num, .slice wa2 wn wc2, .slice ta2 tn tc2, .slice sa2 sn sc2] 91 := by rw [HW0.out, HB.out]; exact Blk.new' _ [.int .i64 num, .slice wa2 wn wc2, .slice ta2 tn tc2, .slice sa2 sn sc2] _ _ (by simp)
  have HB0 := hid hb0
  have HX0 := hid (And.intro hx0 hy0)
  have cx0 := hx0.cell 0 _ rfl
  have cx1 := hx0.cell 1 _ rfl
  have cx2 := hx0.cell 2 _ rfl
  have cx3 := hx0.cell 3 _ rfl
  have cy0 := hy0.cell 0 _ rfl
  have cy1 := hy0.cell 1 _ rfl
  have cy2 := hy0.cell 2 _ rfl
  have cy3 := hy0.cell 3 _ rfl
  have clx := hx0.lt
  have cly := hy0.lt
  clear hwa hta hsa hwa2 hta2 hsa2 ih hW hT hS hW2 hT2 hS2 hb0 hx0 hy0
  go_enter Tryz.func46, Tryz.ntmps46
  go_upto_region 1 with fail
  rw [← HW0.out, ← HB.out, ← HA.out]
  go_wp2_with fail
  go_loopw [5] (fun v5 wr => ∃ i : Nat, v5 = .int .i64 (i : Int) ∧ i ≤ wn ∧ (∃ kw, wr = W0.drewN kw)) (fun v5 _ => wn - (intOf v5).toNat)
  case atStart => exact ⟨0, rfl, by omega, 0, rfl⟩
  case round =>
    obtain ⟨i, rfl, hi, kw, rfl⟩ := hrel
    by_cases hlt : i < wn
    · have hti : x.words[i]? = some (x.words[i]'(by rw [← HWN.out]; exact hlt)) := List.getElem?_eq_getElem _
      generalize x.words[i]'(by rw [← HWN.out]; exact hlt) = t at hti
      obtain ⟨-, g, o, ha, g0⟩ := HWA.out.1 i t hti
      obtain ⟨-, g', o', ha', g0'⟩ := HWA.out.2 i t hti
      replace g0 := below_keeps HB0.out _ _ g0
      replace g0' := below_keeps HB0.out _ _ g0'
      have hix := index_run1 Tryz.underlying88 size_u64 ha i hlt (cap := wc)
      have hix' := index_run1 Tryz.underlying88 size_u64 ha' i hlt (cap := wc2)
      clear ha ha' hti
      unfold wordV at g0 g0'
      go_wp2_with fail
      go_quiet (fail)
      go_wp2_with fail
      go_roundw
      case rel => exact ⟨i + 1, by go_num, hlt, _, rfl⟩
      case measure => simp [intOf]; omega
    · obtain rfl : i = wn := by omega
      go_wp2_with fail
      go_loopw [6] (fun v6 wr => ∃ i : Nat, v6 = .int .i64 (i : Int) ∧ i ≤ tn ∧ (∃ kw, wr = W0.drewN kw)) (fun v6 _ => tn - (intOf v6).toNat)
      case atStart => exact ⟨0, rfl, by omega, kw, rfl⟩
      case round =>
        obtain ⟨j, rfl, hj, kx, rfl⟩ := hrel
        by_cases hlj : j < tn
        · have hti : x.texts[j]? = some (x.texts[j]'(by rw [← HTN.out]; exact hlj)) := List.getElem?_eq_getElem _
          generalize x.texts[j]'(by rw [← HTN.out]; exact hlj) = t at hti
          obtain ⟨-, g, o, ha, g0⟩ := HTA.out.1 j t hti
          obtain ⟨-, g', o', ha', g0'⟩ := HTA.out.2 j t hti
          replace g0 := below_keeps HB0.out _ _ g0
          replace g0' := below_keeps HB0.out _ _ g0'
          have hix := index_run1 Tryz.underlying25 size_str ha j hlj (cap := tc)
          have hix' := index_run1 Tryz.underlying25 size_str ha' j hlj (cap := tc2)
          have hb1 : ((⟨t.toArray⟩ : ByteArray).toList == (⟨t.toArray⟩ : ByteArray).toList) = true := by rw [bytes_beq]; simp
          have hb2 : ((⟨t.toArray⟩ : ByteArray).toList != (⟨t.toArray⟩ : ByteArray).toList) = false := by rw [bne, hb1]; rfl
          clear ha ha' hti
          unfold strV at g0 g0'
          generalize (⟨t.toArray⟩ : ByteArray) = T at *
          go_wp2_with fail
          go_quiet (fail)
          go_wp2_with fail
          go_roundw
          case rel => exact ⟨j + 1, by go_num, hlj, _, rfl⟩
          case measure => simp [intOf]; omega
        · obtain rfl : j = tn := by omega
          have HB1 : Hid (Below w.heap.size w (W0.drewN kx)) := below_drewN HB0.out kx
          have HX1 : Hid (Blk (W0.drewN kx) A [.int .i64 num, .slice wa i wc, .slice ta j tc, .slice sa sn sc] 91 ∧ Blk (W0.drewN kx) B [.int .i64 num, .slice wa2 i wc2, .slice ta2 j tc2, .slice sa2 sn sc2] 91) := HX0.out
          obtain ⟨W1, HW1⟩ : ∃ W1, Hid (W1 = W0.drewN kx) := ⟨_, rfl⟩
          rw [← HW1.out] at HB1 HX1
          go_wp2_with fail
          rw [← HW1.out]
          clear cx0 cx1 cx2 cx3 cy0 cy1 cy2 cy3 clx cly
          go_loopw [7] (fun v7 wr => ∃ i : Nat, v7 = .int .i64 (i : Int) ∧ i ≤ sn ∧ Hid (Below W1.heap.size W1 wr)) (fun v7 _ => sn - (intOf v7).toNat)
          case atStart => exact ⟨0, rfl, by omega, Below.refl _ _⟩
          case round =>
            obtain ⟨k, rfl, hk, HG⟩ := hrel
            have hx := HX1.out.1.below HG.out
            have hy := HX1.out.2.below HG.out
            have cx3 := hx.cell 3 _ rfl
            have cy3 := hy.cell 3 _ rfl
            have clx := hx.lt
            have cly := hy.lt
            have hbw : Below w.heap.size w wr := HB1.out.trans (HG.out.mono HB1.out.size)
            by_cases hlk : k < sn
            · have hti : x.subs[k]? = some (x.subs[k]'(by rw [← HSN.out]; exact hlk)) := List.getElem?_eq_getElem _
              generalize x.subs[k]'(by rw [← HSN.out]; exact hlk) = y at hti
              obtain ⟨g, o, u1, u2, ha, g0, g1, hY⟩ := HSA.out.1 k y hti
              obtain ⟨g', o', u1', u2', ha', g0', g1', hY'⟩ := HSA.out.2 k y hti
              obtain ⟨q1, s1, t1, q2, s2, t2, e3⟩ := formM hY
              cases e3
              obtain ⟨q3, s3, t3, q4, s4, t4, e4⟩ := formM hY'
              cases e4
              have hkr := below_keeps hbw
              replace g0 := hkr _ _ g0
              replace g1 := hkr _ _ g1
              replace g0' := hkr _ _ g0'
              replace g1' := hkr _ _ g1'
              have hgl := World.block_lt_of_cell? wr _ g0
              have hgl' := World.block_lt_of_cell? wr _ g0'
              have hix := index_run Tryz.underlying89 size_rmsg' ha k hlk (cap := sc)
              have hix' := index_run Tryz.underlying89 size_rmsg' ha' k hlk (cap := sc2)
              have HC := hid (HIH.out wr.drew _ _ y ((hY.below hbw).keep fun _ _ h => h) ((hY'.below hbw).keep fun _ _ h => h))
              clear ha ha' hti hY hY' hkr hx hy hbw
              go_wp2_with fail
              go_still_tail 10, (by kernel_rfl)
              change wpList _ _ _ _ _ wr.drew
              go_wp2_with fail
              refine HC.out.mono ?_
              rintro e w5 ⟨rfl, hb5⟩
              have HG5 : Hid (Below W1.heap.size W1 w5) := HG.out.trans (((Below.refl wr.heap.size wr).drew.trans hb5).mono HG.out.size)
              clear hb5
              go_wp2_with fail
              go_roundw
              case rel => exact ⟨k + 1, by go_num, hlk, HG5.out⟩
              case measure => simp [intOf]; omega
            · have HBE := hid hbw
              clear hx hy hbw
              go_wp2_with fail
              go_ret
              exact ⟨rfl, HBE.out⟩
set_option maxRecDepth 100000 in
set_option maxHeartbeats 4000000 in
theorem ref14_Same : ∀ (d : Nat), RSameOk d := by
  intro d
  induction d with
  | zero => exact fun _ _ _ _ h _ => h.elim
  | succ d ih =>
    intro w v u x h hu
    obtain ⟨vv, uv, rfl, hS, hT⟩ := h
    obtain ⟨vv2, uv2, rfl, hS2, hT2⟩ := hu
    obtain ⟨htl, ta, tc, rfl, -, hta⟩ := hT.open
    obtain ⟨hsl, sa, sc, rfl, -, hsa⟩ := hS.open
    obtain ⟨-, ta2, tc2, rfl, -, hta2⟩ := hT2.open
    obtain ⟨-, sa2, sc2, rfl, -, hsa2⟩ := hS2.open
    obtain ⟨tn, HTN⟩ : ∃ n, Hid (n = (M.unk x).length) := ⟨_, rfl⟩
    obtain ⟨sn, HSN⟩ : ∃ n, Hid (n = (M.vals x).length) := ⟨_, rfl⟩
    rw [← HTN.out] at htl ⊢
    rw [← HSN.out] at hsl ⊢
    have HTA := hid (And.intro hta hta2)
    have HSA := hid (And.intro hsa hsa2)
    obtain ⟨vs, HVS⟩ : ∃ vs, Hid (vs = M.vals x) := ⟨_, rfl⟩
    obtain ⟨ts, HTS⟩ : ∃ ts, Hid (ts = M.unk x) := ⟨_, rfl⟩
    rw [← HVS.out] at HSN HSA
    rw [← HTS.out] at HTN HTA
    have HIH := hid ih
    obtain ⟨A, HA⟩ : ∃ b, Hid (b = w.heap.size) := ⟨_, rfl⟩
    obtain ⟨B, HB⟩ : ∃ b, Hid (b = w.heap.size + 1) := ⟨_, rfl⟩
    obtain ⟨W0, HW0⟩ : ∃ W0, Hid (W0 = (w.alloc (.cells #[.slice sa sn sc, .slice ta tn tc] 45)).alloc (.cells #[.slice sa2 sn sc2, .slice ta2 tn tc2] 45)) := ⟨_, rfl⟩
    have hb0 : Below w.heap.size w W0 := by rw [HW0.out]; (repeat (first | with_reducible exact Below.refl _ _ | with_reducible refine Below.setCell ?_ (by first | omega | (simp; omega) | (simp; done)) _ | with_reducible refine Below.alloc ?_ (by first | omega | (simp; omega) | (simp; done)) _ | with_reducible refine below_drewN ?_ _ | with_reducible refine Below.drew ?_))
    have hx0 : Blk W0 A [.slice sa sn sc, .slice ta tn tc] 45 := by rw [HW0.out, HA.out]; exact (Blk.new w [.slice sa sn sc, .slice ta tn tc] _).alloc _
    have hy0 : Blk W0 B [.slice sa2 sn sc2, .slice ta2 tn tc2] 45 := by rw [HW0.out, HB.out]; exact Blk.new' _ [.slice sa2 sn sc2, .slice ta2 tn tc2] _ _ (by simp)
    have HB0 := hid hb0
    have HX0 := hid (And.intro hx0 hy0)
    have cx0 := hx0.cell 0 _ rfl
    have cx1 := hx0.cell 1 _ rfl
    have cy0 := hy0.cell 0 _ rfl
    have cy1 := hy0.cell 1 _ rfl
    have clx := hx0.lt
    have cly := hy0.lt
    clear hta hsa hta2 hsa2 ih hT hS hT2 hS2 hb0 hx0 hy0 HVS HTS
    clear x
    go_enter Tryz.func20, Tryz.ntmps20
    go_upto_region 1 with fail
    rw [← HW0.out, ← HB.out, ← HA.out]
    go_wp2_with fail
    go_loopw [5] (fun v5 wr => ∃ i : Nat, v5 = .int .i64 (i : Int) ∧ i ≤ sn ∧ Hid (Below W0.heap.size W0 wr)) (fun v5 _ => sn - (intOf v5).toNat)
    case atStart => exact ⟨0, rfl, by omega, Below.refl _ _⟩
    case round =>
      obtain ⟨k, rfl, hk, HG⟩ := hrel
      have hx := HX0.out.1.below HG.out
      have hy := HX0.out.2.below HG.out
      have cx0 := hx.cell 0 _ rfl
      have cy0 := hy.cell 0 _ rfl
      have cx1 := hx.cell 1 _ rfl
      have cy1 := hy.cell 1 _ rfl
      have clx := hx.lt
      have cly := hy.lt
      have hbw : Below w.heap.size w wr := HB0.out.trans (HG.out.mono HB0.out.size)
      by_cases hlk : k < sn
      · have hti : vs[k]? = some (vs[k]'(by rw [← HSN.out]; exact hlk)) := List.getElem?_eq_getElem _
        generalize vs[k]'(by rw [← HSN.out]; exact hlk) = y at hti
        obtain ⟨g, o, u1, u2, u3, ha, g0, g1, g2, g3, hY⟩ := HSA.out.1 k y hti
        obtain ⟨g', o', u1', u2', u3', ha', g0', g1', g2', g3', hY'⟩ := HSA.out.2 k y hti
        obtain ⟨p1, i1, j1, p2, i2, j2, p3, i3, j3, rfl, rfl, rfl⟩ := formV hY
        obtain ⟨p4, i4, j4, p5, i5, j5, p6, i6, j6, rfl, rfl, rfl⟩ := formV hY'
        have hkr := below_keeps hbw
        replace g0 := hkr _ _ g0
        replace g1 := hkr _ _ g1
        replace g2 := hkr _ _ g2
        replace g3 := hkr _ _ g3
        replace g0' := hkr _ _ g0'
        replace g1' := hkr _ _ g1'
        replace g2' := hkr _ _ g2'
        replace g3' := hkr _ _ g3'
        have hgl := World.block_lt_of_cell? wr _ g0
        have hgl' := World.block_lt_of_cell? wr _ g0'
        have hix := index_run Tryz.underlying43 size_rval' ha k hlk (cap := sc)
        have hix' := index_run Tryz.underlying43 size_rval' ha' k hlk (cap := sc2)
        have HC := hid (ref14_SameValue_of HIH.out (VMsg.keep (w' := wr.drew) (VMsg.below hY hbw) fun _ _ h => h) (VMsg.keep (w' := wr.drew) (VMsg.below hY' hbw) fun _ _ h => h))
        generalize y.num = num at *
        clear ha ha' hti hY hY' hkr hx hy hbw
        go_wp2_with fail
        go_still_tail 10, (by kernel_rfl)
        change wpList _ _ _ _ _ wr.drew
        go_wp2_with fail
        refine HC.out.mono ?_
        rintro e w5 ⟨rfl, hb5⟩
        have HG5 : Hid (Below W0.heap.size W0 w5) := HG.out.trans (((Below.refl wr.heap.size wr).drew.trans hb5).mono HG.out.size)
        clear hb5
        go_wp2_with fail
        go_roundw
        case rel => exact ⟨k + 1, by go_num, hlk, HG5.out⟩
        case measure => simp [intOf]; omega
      · obtain rfl : k = sn := by omega
        have HX1 := hid (And.intro hx hy)
        have HB1 := hid hbw
        obtain ⟨W1, rfl⟩ : ∃ W, W = wr := ⟨_, rfl⟩
        clear hx hy hbw
        go_wp2_with fail
        go_loopw [6] (fun v6 wr => ∃ i : Nat, v6 = .int .i64 (i : Int) ∧ i ≤ tn ∧ (∃ kw, wr = W1.drewN kw)) (fun v6 _ => tn - (intOf v6).toNat)
        case atStart => exact ⟨0, rfl, by omega, 0, rfl⟩
        case round =>
          obtain ⟨j, rfl, hj, kx, rfl⟩ := hrel
          by_cases hlj : j < tn
          · have hti : ts[j]? = some (ts[j]'(by rw [← HTN.out]; exact hlj)) := List.getElem?_eq_getElem _
            generalize ts[j]'(by rw [← HTN.out]; exact hlj) = t at hti
            obtain ⟨-, g, o, ha, g0⟩ := HTA.out.1 j t hti
            obtain ⟨-, g', o', ha', g0'⟩ := HTA.out.2 j t hti
            replace g0 := below_keeps HB1.out _ _ g0
            replace g0' := below_keeps HB1.out _ _ g0'
            have hix := index_run1 Tryz.underlying25 size_str ha j hlj (cap := tc)
            have hix' := index_run1 Tryz.underlying25 size_str ha' j hlj (cap := tc2)
            have hb1 : ((⟨t.toArray⟩ : ByteArray).toList == (⟨t.toArray⟩ : ByteArray).toList) = true := by rw [bytes_beq]; simp
            have hb2 : ((⟨t.toArray⟩ : ByteArray).toList != (⟨t.toArray⟩ : ByteArray).toList) = false := by rw [bne, hb1]; rfl
            clear ha ha' hti
            unfold strV at g0 g0'
            generalize (⟨t.toArray⟩ : ByteArray) = T at *
            go_wp2_with fail
            go_quiet (fail)
            go_wp2_with fail
            go_roundw
            case rel => exact ⟨j + 1, by go_num, hlj, _, rfl⟩
            case measure => simp [intOf]; omega
          · have HBE := hid (below_drewN HB1.out kx)
            go_wp2_with fail
            go_ret
            exact ⟨rfl, HBE.out⟩
end Go.Proofs.YtfimpmennkfjcaaGreatDoor
