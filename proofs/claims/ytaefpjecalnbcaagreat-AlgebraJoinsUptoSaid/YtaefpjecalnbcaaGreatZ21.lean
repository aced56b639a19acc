/- Parts of a proof: texts of the author, merged. No condition of their own. -/
import Derived.Test.YtaefpjecalnbcaaGreatZ05
import Derived.Test.YtaefpjecalnbcaaGreatZ06
import Derived.Test.YtaefpjecalnbcaaGreatZ07
import Derived.Test.YtaefpjecalnbcaaGreatZ13
import Derived.Test.YtaefpjecalnbcaaGreatZ14
import Derived.Test.YtaefpjecalnbcaaGreatZ15
import Derived.Test.YtaefpjecalnbcaaGreatZ18
import Derived.Test.YtaefpjecalnbcaaGreatZ19
import Derived.Deep.CutBlock
import Derived.Deep.RegionLaw
import Derived.StillTailTactics
import Derived.Deep.RegionHeld3
import Derived.Laws.BitsAllLaws
import Derived.Laws.IdiomStrings
import Derived.Laws.AppendOwn
namespace Go.Proofs.YtaefpjecalnbcaaGreat
open Go.RowKit
def ByPost (d : Nat) (w0 w : World) (x : M (d + 1)) (e : Ending) (w' : World) : Prop := ∃ r es, e = .returned (.map (some r)) ∧ MapIs w' r intK es ∧ MapV d w0 es (M.vals x) ∧ w.heap.size ≤ r ∧ Below w.heap.size w w'
theorem take_rise {α : Type} {l : List (Val α)} (h : RiseV l) {i : Nat} {v : Val α} (hv : l[i]? = some v) : getV (l.take i) v.num = none ∧ l.take (i + 1) = l.take i ++ [v] ∧ RiseV (l.take i) := by
  have e : l.take (i + 1) = l.take i ++ [v] := by rw [List.take_add_one, hv]; rfl
  have h1 : RiseV (l.take (i + 1)) := List.Pairwise.sublist (List.take_sublist _ _) h
  refine ⟨?_, e, List.Pairwise.sublist (List.take_sublist _ _) h⟩
  rw [e] at h1
  unfold RiseV at h1
  rw [List.pairwise_append] at h1
  unfold getV
  rw [List.find?_eq_none]
  intro y hy
  have := h1.2.2 y hy v (by simp)
  simp; omega
set_option maxRecDepth 100000 in
set_option maxHeartbeats 8000000 in
theorem alg_by {d : Nat} {w0 w : World} {v : Value} {x : M (d + 1)} (hw : Below w0.heap.size w0 w) (hx : MsgAt (d + 1) w0 v x) (hr : RiseV (M.vals x)) : Calls Tryz.prog 60 #[v] w (ByPost d w0 w x) := by
  obtain ⟨vv, uv, rfl, hV, hU⟩ := hx
  obtain ⟨hvl, va, vc, rfl, -, hva⟩ := hV.open
  obtain ⟨-, ua, uc, huv, -, -⟩ := hU.open
  obtain ⟨un, HUN⟩ : ∃ n, Hid (n = (M.unk x).length) := ⟨_, rfl⟩
  obtain ⟨vn, HVN⟩ : ∃ n, Hid (n = (M.vals x).length) := ⟨_, rfl⟩
  rw [← HUN.out] at huv
  subst huv
  rw [← HVN.out] at hvl ⊢
  obtain ⟨Q, HQ⟩ : ∃ Q : Ending → World → Prop, Hid (Q = ByPost d w0 w x) := ⟨_, rfl⟩
  rw [← HQ.out]
  have HVA := hid hva
  have HW0 := hid hw
  have HRI := hid hr
  obtain ⟨X, HX⟩ : ∃ X, Hid (X = w.heap.size) := ⟨_, rfl⟩
  obtain ⟨W1, HW1⟩ : ∃ W, Hid (W = w.alloc (.cells #[.slice va vn vc, .slice ua un uc] 27)) := ⟨_, rfl⟩
  obtain ⟨W2, HW2⟩ : ∃ W, Hid (W = W1.alloc (.map #[] 0)) := ⟨_, rfl⟩
  obtain ⟨r, HR⟩ : ∃ r, Hid (r = W1.heap.size) := ⟨_, rfl⟩
  have hkx : Blk W1 X [.slice va vn vc, .slice ua un uc] 27 := by rw [HW1.out, HX.out]; exact Blk.new w [.slice va vn vc, .slice ua un uc] _
  have hb1 : Below w.heap.size w W1 := by rw [HW1.out]; exact (Below.refl _ _).alloc (Nat.le_refl _) _
  have hb2 : Below W1.heap.size W1 W2 := by rw [HW2.out]; exact (Below.refl _ _).alloc (Nat.le_refl _) _
  have HM2 : Hid (MapIs W2 r intK [] ∧ Below w.heap.size w W2) := ⟨by rw [HW2.out, HR.out]; exact heap_alloc_new W1 _, hb1.trans (hb2.mono hb1.size)⟩
  have HRX : Hid (w.heap.size ≤ r) := by rw [HR.out]; exact hb1.size
  have k0 := (hkx.below hb2).cell 0 _ rfl
  have kl := (hkx.below hb2).lt
  have hmm := @run_makeMap Tryz.prog
  clear hkx hb1 hb2 hV hU hva hr hw
  go_enter Tryz.func60, Tryz.ntmps60
  go_upto_region 1 with fail
  rw [← HW1.out, ← HX.out]
  go_upto_region 2 with fail
  rw [← HW2.out, ← HR.out]
  clear hmm
  go_wp2_with fail
  go_loopw [10] (fun v10 wr => ∃ (i : Nat) (es : List (Int × Value)), v10 = .int .i64 (i : Int) ∧ i ≤ vn ∧ Hid (MapIs wr r intK es ∧ MapV d w0 es ((M.vals x).take i) ∧ Below w.heap.size w wr)) (fun v10 _ => vn - (intOf v10).toNat)
  case atStart => exact ⟨0, [], rfl, by omega, HM2.out.1, MapP.nil _, HM2.out.2⟩
  case round =>
    obtain ⟨i, es, rfl, hi, HJ⟩ := hrel
    clear k0 kl HM2
    by_cases hlt : i < vn
    · obtain ⟨v, hv⟩ : ∃ v, (M.vals x)[i]? = some v := ⟨_, List.getElem?_eq_getElem (by rw [← HVN.out]; exact hlt)⟩
      obtain ⟨b, o', v1, v2, v3, ha, g0, g1, g2, g3, hM⟩ := HVA.out i v hv
      obtain ⟨num, a1, n1, q1, a2, n2, q2, a3, n3, q3, hform⟩ := hM.form
      obtain ⟨rfl, rfl, rfl⟩ : v1 = .slice a1 n1 q1 ∧ v2 = .slice a2 n2 q2 ∧ v3 = .slice a3 n3 q3 := by cases hform; exact ⟨rfl, rfl, rfl⟩
      have hnum : v.num = num := by cases hform; rfl
      clear hform
      have hkr := below_keeps (HW0.out.trans (HJ.out.2.2.mono HW0.out.size))
      replace g0 := hkr _ _ g0
      replace g1 := hkr _ _ g1
      replace g2 := hkr _ _ g2
      replace g3 := hkr _ _ g3
      rw [hnum] at g0 hM
      obtain ⟨W6, HW6⟩ : ∃ W6, Hid (W6 = wr.alloc (.cells #[.int .i64 num, .slice a1 n1 q1, .slice a2 n2 q2, .slice a3 n3 q3] 67)) := ⟨_, rfl⟩
      obtain ⟨B, HBB⟩ : ∃ B, Hid (B = wr.heap.size) := ⟨_, rfl⟩
      have hb6 : Below wr.heap.size wr W6 := by rw [HW6.out]; exact (Below.refl _ _).alloc (Nat.le_refl _) _
      have hv6 : Blk W6 B [.int .i64 num, .slice a1 n1 q1, .slice a2 n2 q2, .slice a3 n3 q3] 67 := by rw [HW6.out, HBB.out]; exact Blk.new wr [.int .i64 num, .slice a1 n1 q1, .slice a2 n2 q2, .slice a3 n3 q3] _
      have hmap := mapIs_laterV HJ.out.1 hb6
      have hmu := tv_put hmap num (.agg #[.int .i64 num, .slice a1 n1 q1, .slice a2 n2 q2, .slice a3 n3 q3])
      have hw6 := HJ.out.2.2.trans (hb6.mono HJ.out.2.2.size)
      obtain ⟨t1, t2, t3⟩ := take_rise HRI.out hv
      have HREL : Hid (MapIs (putMap W6 r intK (putK num (.agg #[.int .i64 num, .slice a1 n1 q1, .slice a2 n2 q2, .slice a3 n3 q3]) es)) r intK (putK num (.agg #[.int .i64 num, .slice a1 n1 q1, .slice a2 n2 q2, .slice a3 n3 q3]) es) ∧
          MapV d w0 (putK num (.agg #[.int .i64 num, .slice a1 n1 q1, .slice a2 n2 q2, .slice a3 n3 q3]) es) ((M.vals x).take (i + 1)) ∧
          Below w.heap.size w (putMap W6 r intK (putK num (.agg #[.int .i64 num, .slice a1 n1 q1, .slice a2 n2 q2, .slice a3 n3 q3]) es))) := by
        refine ⟨putMap_is (Array.getElem?_eq_some_iff.1 hmap).1, ?_, hw6.trans (but_putMap.to_below HRX.out hw6.size)⟩
        have h1 : MapV d w0 es ((M.vals x).take i) := HJ.out.2.1
        have h2 := h1.put (by rw [h1.keys]; exact t3.nodup) hM
        rw [hnum] at h2
        rw [t2]
        unfold putG at h2
        rw [t1, if_neg (by simp)] at h2
        exact h2
      have hix := index_run Tryz.underlying24 size_val ha i hlt (cap := vc)
      have hbl := World.block_lt_of_cell? wr _ g0
      have d0 := hv6.cell 0 _ rfl
      have d1 := hv6.cell 1 _ rfl
      have d2 := hv6.cell 2 _ rfl
      have d3 := hv6.cell 3 _ rfl
      have dl := hv6.lt
      clear hv hM hkr hnum ha hb6 hv6 hmap hw6 t1 t2 t3 HJ
      go_upto_region 5 with fail
      rw [← HW6.out, ← HBB.out]
      clear g0 g1 g2 g3 hix hbl
      go_wp2_with fail
      go_roundw
      case rel => exact ⟨i + 1, _, by go_num, hlt, HREL.out⟩
      case measure => simp [intOf]; omega
    · obtain rfl : i = vn := by omega
      have HE : Hid (Q (.returned (.map (some r))) wr) := by
        rw [HQ.out]
        have h := HJ.out
        rw [HVN.out, List.take_length] at h
        exact ⟨r, es, rfl, h.1, h.2.1, HRX.out, h.2.2⟩
      clear HJ
      go_wp2_with fail
      exact HE.out
end Go.Proofs.YtaefpjecalnbcaaGreat
namespace Go.Proofs.YtaefpjecalnbcaaGreat
open Go.RowKit Go.Maps Go.Sort Go.Shelf
theorem getV_isSome {α : Type} {l : List (Val α)} {n : Int} : n ∈ l.map (·.num) ↔ (getV l n).isSome = true := by
  induction l with
  | nil => simp [getV_nil]
  | cons x r ih =>
    rw [List.map_cons, List.mem_cons, ih, getV_cons]
    by_cases h : x.num = n
    · simp [h]
    · rw [if_neg h]
      exact ⟨fun h2 => h2.elim (fun e => absurd e.symm h) id, .inr⟩
theorem rise_sorted {α : Type} {l gs : List (Val α)} (hl : RiseV l) (hg : ∀ n, getV l n = getV gs n) (hd : (gs.map (·.num)).Nodup) {ss : List Int} (hs : ss.Perm (gs.map (·.num))) : ss.mergeSort (fun x y => decide (x ≤ y)) = l.map (·.num) := by
  have hp : (ss.mergeSort (fun x y => decide (x ≤ y))).Perm (l.map (·.num)) := by
    refine ((List.mergeSort_perm _ _).trans hs).trans ((List.perm_ext_iff_of_nodup hd hl.nodup).2 fun n => ?_)
    rw [getV_isSome, getV_isSome, hg]
  have h2 : (ss.mergeSort fun x y => decide (x ≤ y)).Pairwise fun x y => x ≤ y := (List.pairwise_mergeSort (fun a b c h1 h2 => by simp at *; omega) (fun a b => by simp; omega) _).imp fun h => of_decide_eq_true h
  have h3 : (l.map (·.num)).Pairwise fun x y => x ≤ y := List.Pairwise.map _ (fun a b h => Int.le_of_lt h) hl
  exact List.Perm.eq_of_pairwise (fun a b _ _ h h' => Int.le_antisymm h h') h2 h3 hp
theorem getV_len {α : Type} {l gs : List (Val α)} (hl : RiseV l) (hg : ∀ n, getV l n = getV gs n) (hd : (gs.map (·.num)).Nodup) : l.length = gs.length := by
  have h := (List.perm_ext_iff_of_nodup hd hl.nodup).2 fun n => by rw [getV_isSome, getV_isSome, hg]
  have := h.length_eq
  rw [List.length_map, List.length_map] at this
  exact this.symm
theorem MapP.getg {d : Nat} {P : Value → Val (M d) → Prop} {es : List (Int × Value)} {gs : List (Val (M d))} (h : MapP P es gs) {x : Int} {g : Val (M d)} (hx : getV gs x = some g) : ∃ v, getOf x es = some v ∧ P v g := by
  cases hv : getOf x es with
  | none => rw [h.none hv] at hx; cases hx
  | some v =>
    obtain ⟨g', h1, -, h2⟩ := h.get hv
    rw [hx] at h1
    injection h1 with h1
    exact ⟨v, rfl, by rw [h1]; exact h2⟩
def OfP (d : Nat) (es : List (Int × Value)) (_ : World) (r : List Value) (v : Val (M d)) : Prop := ∃ c : VS, r = [.int .i64 c.n, .slice c.a1 c.n1 c.c1, .slice c.a2 c.n2 c.c2, .slice c.a3 c.n3 c.c3] ∧ getOf v.num es = some c.val
theorem size_intA (w : World) : (sizeOf 3).run Tryz.prog w = .ok 1 w := by kernel_rfl
set_option maxRecDepth 100000 in
set_option maxHeartbeats 8000000 in
theorem alg_of {d n0 B : Nat} {w : World} {r : Nat} {es : List (Int × Value)} {gs l : List (Val (M d))} {uv : Value} {unk : List (List UInt8)} (hm : MapIs w r intK es) (hv : MapA d n0 B w es gs) (hB : B ≤ w.heap.size) (hd : (gs.map (·.num)).Nodup) (hn : gs.length ≤ 1073741824) (hu : Apart n0 B w fun W => StrsAt W uv unk) (hl : RiseV l) (hg : ∀ n, getV l n = getV gs n) :
    Calls Tryz.prog 63 #[.map (some r), uv] w fun e w' => ∃ v', e = .returned v' ∧ Below w.heap.size w w' ∧ Apart n0 B w' fun W => MsgAt (d + 1) W v' (⟨l, unk⟩ : Msgd (M d)) := by
  have HUU := hid hu
  obtain ⟨-, ua, uc, rfl, -, -⟩ := hu.here.open
  obtain ⟨un, HUN⟩ : ∃ n, Hid (n = unk.length) := ⟨_, rfl⟩
  rw [← HUN.out] at HUU ⊢
  have hlen := getV_len hl hg hd
  obtain ⟨Q, HQ⟩ : ∃ Q : Ending → World → Prop, Hid (Q = fun e w' => ∃ v', e = .returned v' ∧ Below w.heap.size w w' ∧ Apart n0 B w' fun W => MsgAt (d + 1) W v' (⟨l, unk⟩ : Msgd (M d))) := ⟨_, rfl⟩
  rw [← HQ.out]
  obtain ⟨X, HX⟩ : ∃ X, Hid (X = w.heap.size) := ⟨_, rfl⟩
  obtain ⟨W1, HW1⟩ : ∃ W, Hid (W = (w.alloc (.cells #[.slice none 0 0, .slice none 0 0] 27)).alloc (.cells #[.slice none 0 0, .slice ua un uc] 27)) := ⟨_, rfl⟩
  have hb1 : Below w.heap.size w W1 := by rw [HW1.out]; (repeat (first | with_reducible exact Below.refl _ _ | with_reducible refine Below.setCell ?_ (by first | omega | (simp; omega) | (simp; done)) _ | with_reducible refine Below.alloc ?_ (by first | omega | (simp; omega) | (simp; done)) _ | with_reducible refine below_drewN ?_ _ | with_reducible refine Below.drew ?_))
  have hr1 : Blk W1 X [.slice none 0 0, .slice none 0 0] 27 := by rw [HW1.out, HX.out]; exact (Blk.new w [.slice none 0 0, .slice none 0 0] _).alloc _
  have ho1 : Blk W1 (X + 1) [.slice none 0 0, .slice ua un uc] 27 := by rw [HW1.out, HX.out]; exact Blk.new' _ [.slice none 0 0, .slice ua un uc] _ _ (by simp)
  have hz1 : W1.heap.size = X + 2 := by rw [HW1.out, HX.out]; simp
  have hmap1 := mapIs_laterV hm hb1
  have HSK := hid (sorted_Keys hmap1 (by rw [hv.len]; exact hn) (by rw [hv.keys]; exact hd) fun p hp => by
    obtain ⟨q, hq, rfl⟩ := List.mem_map.1 hp
    exact (hv.ok (fun _ _ h => apart_vs h) q hq).1)
  rw [hv.keys] at HSK
  have HRS : Hid (∀ ss : List Int, ss.Perm (gs.map (·.num)) → ss.mergeSort (fun x y => decide (x ≤ y)) = l.map (·.num)) := fun ss hs => rise_sorted hl hg hd hs
  have HI64 : Hid (∀ z ∈ l.map (·.num), i64ok z) := fun z hz => by
    rw [getV_isSome, hg, ← getV_isSome, ← hv.keys] at hz
    obtain ⟨q, hq, rfl⟩ := List.mem_map.1 hz
    exact (hv.ok (fun _ _ h => apart_vs h) q hq).1
  have HLK : Hid (∀ (i : Nat) (v : Val (M d)), l[i]? = some v → ∃ c : VS, c.n = v.num ∧ getOf v.num es = some c.val ∧ Apart n0 B w (fun W => ValAt (MsgAt d) W c.val v)) := fun i v hi => by
    obtain ⟨u, h1, h2⟩ := hv.getg (x := v.num) (by rw [← hg]; exact getV_mem hl (List.mem_of_getElem? hi))
    obtain ⟨-, c, rfl, hc⟩ := apart_vs h2
    exact ⟨c, hc, h1, h2⟩
  obtain ⟨n, HN⟩ : ∃ n, Hid (n = l.length) := ⟨_, rfl⟩
  have hnb : n ≤ 1073741824 := by rw [HN.out, hlen]; exact hn
  have HX1 := hid hr1
  have HB1 := hid hb1
  have HO1 := hid ho1
  have HZ1 := hid hz1
  have HMP := hid hm
  have HBS := hid hB
  have k0 := ho1.cell 0 _ rfl
  have k1 := ho1.cell 1 _ rfl
  have kl := ho1.lt
  clear hm hv hd hn hu hl hg hlen hb1 hB hr1 ho1 hz1 hmap1
  go_enter Tryz.func63, Tryz.ntmps63
  go_upto_region 2 with fail
  rw [← HW1.out, ← HX.out]
  go_wp2_with fail
  refine (maps_Keys (some r) W1).mono ?_
  rintro e w2 ⟨rfl, rfl⟩
  go_wp2_with fail
  refine HSK.out.mono ?_
  rintro e w3 ⟨v6, ss, rfl, hperm, hrow, hb3⟩
  rw [HRS.out ss hperm] at hrow
  have hsl : ss.length = n := by
    have h1 := congrArg List.length (HRS.out ss hperm)
    rw [List.length_mergeSort, List.length_map, ← HN.out] at h1
    exact h1
  have hI3 : IntsOwn w3 (W1.heap.size + 1) v6 (l.map (·.num)) := by
    unfold IntsOwn
    rw [List.length_map, ← HN.out, ← hsl]
    exact hrow
  have hb13 : Below W1.heap.size W1 w3 := ((Below.refl W1.heap.size W1).alloc (Nat.le_refl _) (.cells #[.map (some r)] 102)).trans (hb3.mono (by omega))
  obtain ⟨va, vc, rfl⟩ := hI3.form
  rw [List.length_map, ← HN.out] at hI3 ⊢
  have HKI : Hid (IntsAt w3 (.slice va n vc) (l.map (·.num))) := hI3.ints (by rw [List.length_map, ← HN.out]; omega) HI64.out
  have HB13 := hid hb13
  have HX3 := hid (HX1.out.below hb13)
  have HO3 : Hid (OutC (OfP d es) 67 4 0 27 (X + 1) [] [.slice ua un uc] w3 w3 (.slice none 0 0) []) := OutC.start (HO1.out.below hb13)
  have HB03 := hid (HB1.out.trans (hb13.mono HB1.out.size))
  have HR3 : Hid (X + 1 < w3.heap.size) := (HO1.out.below hb13).lt
  clear hperm hrow hb3 hI3 hb13 hsl HSK HRS k0 k1 kl
  go_wp2_with fail
  go_loopw [14] (fun v14 wr => ∃ (i : Nat) (oa : Option Addr) (oc : Nat), v14 = .int .i64 (i : Int) ∧ i ≤ n ∧ Hid (OutC (OfP d es) 67 4 0 27 (X + 1) [] [.slice ua un uc] w3 wr (.slice oa i oc) (l.take i))) (fun v14 _ => n - (intOf v14).toNat)
  case atStart => exact ⟨0, none, 0, rfl, by omega, HO3.out⟩
  case round =>
    obtain ⟨i, oa, oc, rfl, hi, HJ⟩ := hrel
    have hb3r := HJ.out.but
    have HB0r : Hid (Below w.heap.size w wr) := HB03.out.trans (hb3r.to_below (by rw [HX.out]; omega) HB03.out.size)
    by_cases hlt : i < n
    · obtain ⟨v, hv⟩ : ∃ v, l[i]? = some v := ⟨_, List.getElem?_eq_getElem (by rw [← HN.out]; exact hlt)⟩
      obtain ⟨c, hcn, hgo, hat⟩ := HLK.out i v hv
      obtain ⟨kb, ko, hva, hkc, hkb⟩ : ∃ kb ko, va = some ⟨kb, ko, none⟩ ∧ wr.cell? ⟨kb, ko + i, none⟩ = some (.int .i64 v.num) ∧ kb < wr.heap.size := by
        obtain ⟨-, a', c', e, -, hkat⟩ := HKI.out.open
        obtain ⟨-, b', o', h1, h2⟩ := hkat i v.num (by rw [List.getElem?_map, hv]; rfl)
        rw [List.length_map, ← HN.out] at e
        injection e with e1 e2 e3
        have hne : b' ≠ X + 1 := by
          rintro rfl
          have hb := HO1.out.below HB13.out
          unfold Blk at hb
          simp [World.cell?, hb] at h2
          generalize o' + i = q at h2
          match q, h2 with
          | 0, h2 => cases h2
          | 1, h2 => cases h2
        have hlt3 := World.block_lt_of_cell? w3 _ h2
        exact ⟨b', o', by rw [e1]; exact h1, (World.cell?_of_block (hb3r.block b' hlt3 hne)).trans h2, Nat.lt_of_lt_of_le hlt3 hb3r.size⟩
      have hixk := index_run1 Tryz.underlying68 size_intA hva i hlt (cap := vc)
      have hmr : MapIs wr r intK es := mapIs_laterV HMP.out HB0r.out
      have hlk := tv_lookup hmr v.num false
      rw [hgo] at hlk
      have hsl : (l.take i).length = i := by rw [List.length_take, ← HN.out]; omega
      have htk : l.take (i + 1) = l.take i ++ [v] := by rw [List.take_add_one, hv]; rfl
      obtain ⟨num, a1, n1, q1, a2, n2, q2, a3, n3, q3⟩ := c
      simp only at hcn
      have hgo2 := hgo
      simp only [VS.val, Option.getD_some, Bool.false_eq_true, if_false] at hlk hgo
      obtain ⟨a9, c9, w9, hr9, -, ⟨e5, z3, l9⟩, hO9⟩ := HJ.out.step (Below.refl _ _) (by decide) (Nat.zero_le _) hsl 24 _ 80 Tryz.underlying24 info_cval rfl #[.int .i64 num, .slice a1 n1 q1, .slice a2 n2 q2, .slice a3 n3 q3] rfl (by intro u hu; simp at hu; rcases hu with rfl | rfl | rfl | rfl <;> rfl) v (fun w' hw' => ⟨_, rfl, hgo2⟩) (by omega) (by decide) 0 rfl
      have HO9 : Hid (OutC (OfP d es) 67 4 0 27 (X + 1) [] [.slice ua un uc] w3 (w9.setCell ⟨X + 1, 0, none⟩ (.slice a9 (i + 1) c9)) (.slice a9 (i + 1) c9) (l.take (i + 1))) := by rw [Hid, htk]; exact hO9
      have o0 := HJ.out.cell 0 _ rfl
      have ol := HJ.out.lt
      rw [← hcn] at hkc hlk
      clear hcn hgo hgo2 hat hv hsl htk hO9 hva hmr hb3r HJ
      go_wp2_with (at_builtin; refine wpList_append_eq rfl _ _ _ rfl _ _ rfl rfl hr9 ?_)
      go_roundw
      case rel => exact ⟨i + 1, _, _, by go_num, hlt, HO9.out⟩
      case measure => simp [intOf]; omega
    · obtain rfl : i = n := by omega
      have hO := HJ.out
      rw [HN.out, List.take_length, ← HN.out] at hO
      have o0 := hO.cell 0 _ rfl
      have o1 := hO.cell 1 _ rfl
      have ol := hO.lt
      have hR : Blk wr X [.slice none 0 0, .slice none 0 0] 27 := (hb3r.block X (by have := HR3.out; omega) (by omega)).trans HX3.out
      have r0 := hR.cell 0 _ rfl
      have r1 := hR.cell 1 _ rfl
      have rl := hR.lt
      have f0 := hR.free 0
      have f1 := hR.free 1
      have s1 := hR.set 0 (.slice oa i oc)
      have s2 := s1.set 1 (.slice ua un uc)
      have r3 := s2.cell 0 _ rfl
      have r4 := s2.cell 1 _ rfl
      have HE : Hid (Q (.returned (.agg #[.slice oa i oc, .slice ua un uc])) ((wr.setCell ⟨X, 0, none⟩ (.slice oa i oc)).setCell ⟨X, 1, none⟩ (.slice ua un uc))) := by
        rw [HQ.out]
        have hB : Below w.heap.size w ((wr.setCell ⟨X, 0, none⟩ (.slice oa i oc)).setCell ⟨X, 1, none⟩ (.slice ua un uc)) := (HB0r.out.setCell (by rw [HX.out]; exact Nat.le_refl _) _).setCell (by rw [HX.out]; exact Nat.le_refl _) _
        refine ⟨_, rfl, hB, fun W hW => ?_⟩
        have hag : ∀ b, b < w.heap.size → (b < n0 ∨ B ≤ b) → W.heap[b]? = w.heap[b]? := fun b hlt hc => (hW b (Nat.lt_of_lt_of_le hlt hB.size) hc).trans (hB.block b hlt)
        refine ⟨_, _, rfl, ?_, HUU.out W hag⟩
        obtain ⟨rows, h1, h2, h3, h4⟩ := hO.at (by rw [← HN.out]; omega) (w' := W) fun b hb hc => by
          have hne : b ≠ X := by have := HR3.out; omega
          have h5 : w3.heap.size ≤ b := by omega
          rw [hW b (by simpa using hb) (.inr (by have := HR3.out; have := HBS.out; have := HX.out; omega)), Below.heap_setCell _ _ _ b hne, Below.heap_setCell _ _ _ b hne]
        refine ⟨rows, h1, h2, h3, fun j q v hq hv => ?_⟩
        obtain ⟨c, rfl, hc⟩ := h4 j q v hq hv
        obtain ⟨c', hc1, hc2, hc3⟩ := HLK.out j v hv
        rw [hc] at hc2
        injection hc2 with hc2
        have := hc3 W hag
        rw [← hc2] at this
        exact this
      clear hO hR s1 s2 HJ hb3r
      go_wp2_with fail
      refine bodyPost_ret (v := .agg #[.slice oa i oc, .slice ua un uc]) ?_ rfl HE.out
      simp [results, Tryz.results63, go_sem, r3, r4]
end Go.Proofs.YtaefpjecalnbcaaGreat
namespace Go.Proofs.YtaefpjecalnbcaaGreat
open Go.RowKit
set_option maxRecDepth 100000 in
set_option maxHeartbeats 4000000 in
theorem alg_field {w : World} {sv : Value} {s : List Mes} (hS : SchemaAt w sv s) {root : Nat} (hroot : root < s.length) (x : Int) {j : Nat} (hj : fieldAt (s.getD root .zero).fields x = j) (hl : j < (s.getD root .zero).fields.length) :
    Calls Tryz.prog 62 #[sv, .int .i64 (root : Int), .int .i64 x] w fun e w' => e = .returned ((s.getD root .zero).fields.getD j .zero).val ∧ Below w.heap.size w w' := by
  obtain ⟨hsl, sa, sc, rfl, hget⟩ := hS.open
  obtain ⟨b, o, fv, ha, -, m0, m1, hF⟩ := hget root hroot
  clear hget
  generalize (s.getD root .zero).fields = fs at *
  generalize (s.getD root .zero).name = nm at *
  obtain ⟨hfl, fa, fc, rfl, hfg⟩ := hF.open
  obtain ⟨b3, o3, ha3, -, f0, f1, f2, f3, f4, f5⟩ := hfg j hl
  generalize fs.getD j .zero = f at *
  obtain ⟨name, number, kind, rep, packed, of⟩ := f
  dsimp only at f0 f1 f2 f3 f4 f5
  have HF := hid hF
  have HJ := hid hj
  obtain ⟨fl, HFL⟩ : ∃ n, Hid (n = fs.length) := ⟨_, rfl⟩
  rw [← HFL.out] at HF hl m1
  have lb0 : b < w.heap.size := (World.block_lt_of_cell? w _ m0)
  have lb30 : b3 < w.heap.size := (World.block_lt_of_cell? w _ f0)
  have hix := index_run Tryz.underlying23 size_mes ha root hroot (cap := sc)
  have hix3 := index_run Tryz.underlying60 size_fld ha3 j hl (cap := fc)
  have HB1 : Hid (Below w.heap.size w (w.alloc (.cells #[.string ⟨#[]⟩, .int .i64 0, .int .i64 0, .bool false, .bool false, .int .i64 0] 59))) := (Below.refl _ _).alloc (Nat.le_refl _) _
  have HBN : Hid (∀ W : World, Below w.heap.size w W → Calls Tryz.prog 67 #[.agg #[.string nm, .slice fa fl fc], .int .i64 x] W fun e w' => e = .returned (.tuple #[.int .i64 j, .bool true]) ∧ Below W.heap.size W w') := by
    intro W hW
    have h := schema_ByNumber (HF.out.keep (below_keeps hW)) nm x
    rw [HJ.out, if_pos (by omega), decide_eq_true (show (0 : Int) ≤ j by omega)] at h
    exact h
  clear hS hj hfg ha ha3 hF hfl
  go_enter Tryz.func62, Tryz.ntmps62
  go_wp2_with fail
  refine (HBN.out _ HB1.out).mono ?_
  rintro e w2 ⟨rfl, hb2⟩
  have HB2 := hid (HB1.out.trans (hb2.mono HB1.out.size))
  have HR := hid ((Blk.new w [.string ⟨#[]⟩, .int .i64 0, .int .i64 0, .bool false, .bool false, .int .i64 0] 59).below hb2)
  clear hb2 lb0 lb30
  have hk := below_keeps HB2.out
  replace m0 := hk _ _ m0
  replace m1 := hk _ _ m1
  replace f0 := hk _ _ f0
  replace f1 := hk _ _ f1
  replace f2 := hk _ _ f2
  replace f3 := hk _ _ f3
  replace f4 := hk _ _ f4
  replace f5 := hk _ _ f5
  have lb : b < w2.heap.size := World.block_lt_of_cell? w2 _ m0
  have lb3 : b3 < w2.heap.size := World.block_lt_of_cell? w2 _ f0
  have hrl := HR.out.lt
  have r0 := HR.out.cell 0 _ rfl
  have r1 := HR.out.cell 1 _ rfl
  have r2 := HR.out.cell 2 _ rfl
  have r3 := HR.out.cell 3 _ rfl
  have r4 := HR.out.cell 4 _ rfl
  have r5 := HR.out.cell 5 _ rfl
  have z0 := HR.out.free 0
  have z1 := HR.out.free 1
  have z2 := HR.out.free 2
  have z3 := HR.out.free 3
  have z4 := HR.out.free 4
  have z5 := HR.out.free 5
  clear hk
  go_wp2_with fail
  have HBK := (((((HR.out.set 0 (.string name)).set 1 (.int .i64 number)).set 2 (.int .i64 kind)).set 3 (.bool rep)).set 4 (.bool packed)).set 5 (.int .i64 of)
  have q0 := HBK.cell 0 _ rfl
  have q1 := HBK.cell 1 _ rfl
  have q2 := HBK.cell 2 _ rfl
  have q3 := HBK.cell 3 _ rfl
  have q4 := HBK.cell 4 _ rfl
  have q5 := HBK.cell 5 _ rfl
  refine bodyPost_ret (v := .agg #[.string name, .int .i64 number, .int .i64 kind, .bool rep, .bool packed, .int .i64 of]) ?_ rfl ⟨rfl, (((((HB2.out.setCell (Nat.le_refl _) _).setCell (Nat.le_refl _) _).setCell (Nat.le_refl _) _).setCell (Nat.le_refl _) _).setCell (Nat.le_refl _) _).setCell (Nat.le_refl _) _⟩
  simp [results, Tryz.results62, go_sem, q0, q1, q2, q3, q4, q5]
set_option maxRecDepth 100000 in
theorem alg_single {w : World} (f : Fld) :
    Calls Tryz.prog 80 #[f.val] w fun e w' => e = .returned (.bool (decide (f.kind = 17) && !f.rep)) ∧ Below w.heap.size w w' := by
  obtain ⟨name, number, kind, rep, packed, of⟩ := f
  simp only [Fld.val]
  have HB1 : Hid (Below w.heap.size w (w.alloc (.cells #[.string name, .int .i64 number, .int .i64 kind, .bool rep, .bool packed, .int .i64 of] 59))) := (Below.refl _ _).alloc (Nat.le_refl _) _
  by_cases hk : kind = 17
  · subst hk
    go_enter Tryz.func80, Tryz.ntmps80
    go_wp2
    go_ret
    exact ⟨by simp, HB1.out⟩
  · have hkd : (decide (kind = 17)) = false := decide_eq_false hk
    rw [hkd]
    go_enter Tryz.func80, Tryz.ntmps80
    go_wp2
    go_ret
    exact ⟨by simp, HB1.out⟩
end Go.Proofs.YtaefpjecalnbcaaGreat
namespace Go.Proofs.YtaefpjecalnbcaaGreat
open Go.RowKit
end Go.Proofs.YtaefpjecalnbcaaGreat
namespace Go.Proofs.YtaefpjecalnbcaaGreat
open Go.RowKit
theorem firstAt_get {α : Type} (p : α → Bool) (l : List α) (k : Nat) (x : α) (h : l[k]? = some x) : firstAt p (l.drop k) k = if p x then (k : Int) else firstAt p (l.drop (k + 1)) (k + 1) := by
  obtain ⟨hk, rfl⟩ := List.getElem?_eq_some_iff.1 h
  rw [List.drop_eq_getElem_cons hk, firstAt]
theorem firstAt_any {α : Type} (p : α → Bool) : ∀ (l : List α) (i : Nat), decide (0 ≤ firstAt p l i) = l.any p
  | [], i => by simp [firstAt]
  | x :: r, i => by
    rw [firstAt, List.any_cons]
    cases h : p x with
    | true => rw [if_pos rfl]; simp
    | false => rw [if_neg (by decide), firstAt_any p r (i + 1)]; simp
set_option maxRecDepth 100000 in
set_option maxHeartbeats 4000000 in
theorem indexFunc_u64 {w : World} {v : Value} {l : List Nat} (h : WordsAt w v l) (F : Nat) (cap : Array Value) (p : Nat → Bool) (hcf : ∀ (args : Array Value) (w : World), (callFunc F args).run Tryz.prog w = .ok (.enter F args) w)
    (hcl : ∀ x ∈ l, ∀ (wr : World), x < 2 ^ 64 → Below w.heap.size w wr → Calls Tryz.prog F (#[.int .u64 x] ++ cap) wr fun e w' => e = .returned (.bool (p x)) ∧ Below wr.heap.size wr w') :
    Calls Tryz.prog 136 #[v, .func (.func F) #[] cap] w fun e w' => e = .returned (.int .i64 (firstAt p l 0)) ∧ Below w.heap.size w w' := by
  obtain ⟨hlen, a, c, rfl, -, hat⟩ := h.open
  obtain ⟨n, HN⟩ : ∃ n, Hid (n = l.length) := ⟨_, rfl⟩
  rw [← HN.out] at hlen ⊢
  have HAT := hid hat
  have HCL := hid hcl
  clear hat hcl
  go_enter Tryz.func136, Tryz.ntmps136
  go_wp2
  go_loopw [8] (fun v8 wr => ∃ k : Nat, k ≤ n ∧ v8 = .int .i64 k ∧ Hid (firstAt p (l.drop k) k = firstAt p l 0) ∧ Hid (Below w.heap.size w wr)) (fun v8 _ => n - (intOf v8).toNat)
  case atStart => exact ⟨0, by omega, rfl, hid rfl, Below.refl _ _⟩
  case round =>
    obtain ⟨k, hk, rfl, HK, HB⟩ := hrel
    by_cases hlt : k < n
    · have hat := HAT.out
      have hxi : l[k]? = some (l[k]'(by rw [← HN.out]; exact hlt)) := List.getElem?_eq_getElem _
      generalize l[k]'(by rw [← HN.out]; exact hlt) = x at hxi
      obtain ⟨hx64, b, o, ha, g0⟩ := hat k x hxi
      clear hat
      have HXX := hid hx64
      clear hx64
      have r0 := below_keeps HB.out _ _ g0
      have hU : wordV x = .int .u64 x := rfl
      rw [hU] at r0
      have hbl : b < wr.heap.size := World.block_lt_of_cell? wr _ r0
      have hix := index_run1 Tryz.underlying64 size_u64 ha k hlt (cap := c)
      clear g0 hU
      have hst := hid (firstAt_get p l k x hxi)
      have HMEM := hid (List.mem_of_getElem? hxi)
      clear ha hxi
      go_wp2_with fail
      have hcl := HCL.out
      refine (hcl x HMEM.out wr HXX.out HB.out).mono ?_
      rintro e w5 ⟨rfl, hb5⟩
      clear hcl
      have HB5 : Hid (Below w.heap.size w w5) := below_step HB.out hb5 HB.out.size
      clear hb5
      cases hp : p x with
      | true =>
        have e : firstAt p l 0 = k := by rw [← HK.out, hst.out, if_pos hp]
        have HE := hid e
        clear hp e
        go_wp2
        go_ret
        exact ⟨by rw [HE.out]; rfl, HB5.out⟩
      | false =>
        have e : firstAt p (l.drop (k + 1)) (k + 1) = firstAt p l 0 := by rw [← HK.out, hst.out, if_neg (by rw [hp]; decide)]
        have HE := hid e
        clear hp e
        go_wp2
        go_roundw
        case rel => exact ⟨k + 1, by omega, by go_num, HE.out, HB5.out⟩
        case measure => simp [intOf]; omega
    · go_wp2
      go_ret
      have e : firstAt p l 0 = -1 := by
        rw [← HK.out, List.drop_of_length_le (by rw [← HN.out]; omega)]; rfl
      exact ⟨by rw [e]; rfl, HB.out⟩
set_option maxRecDepth 100000 in
set_option maxHeartbeats 4000000 in
theorem containsFunc_u64 {w : World} {v : Value} {l : List Nat} (h : WordsAt w v l) (F : Nat) (cap : Array Value) (p : Nat → Bool) (hcf : ∀ (args : Array Value) (w : World), (callFunc F args).run Tryz.prog w = .ok (.enter F args) w)
    (hcl : ∀ x ∈ l, ∀ (wr : World), x < 2 ^ 64 → Below w.heap.size w wr → Calls Tryz.prog F (#[.int .u64 x] ++ cap) wr fun e w' => e = .returned (.bool (p x)) ∧ Below wr.heap.size wr w') :
    Calls Tryz.prog 98 #[v, .func (.func F) #[] cap] w fun e w' => e = .returned (.bool (l.any p)) ∧ Below w.heap.size w w' := by
  obtain ⟨x, HX⟩ : ∃ x, Hid (x = firstAt p l 0) := ⟨_, rfl⟩
  have HA : Hid (decide (0 ≤ x) = l.any p) := by rw [HX.out]; exact firstAt_any p l 0
  have HI := hid (indexFunc_u64 h F cap p hcf hcl)
  rw [← HX.out] at HI
  obtain ⟨hlen, a, c, rfl, -, -⟩ := h.open
  clear h hcl
  go_enter Tryz.func98, Tryz.ntmps98
  go_wp2_with fail
  refine HI.out.mono ?_
  rintro e w1 ⟨rfl, hb1⟩
  go_wp2_with fail
  go_ret
  exact ⟨ret1 (by rw [← HA.out]; first | rfl | (congr 1)), hb1⟩
set_option maxRecDepth 100000 in
set_option maxHeartbeats 4000000 in
theorem indexFunc_str {w : World} {v : Value} {l : List (List UInt8)} (h : StrsAt w v l) (F : Nat) (cap : Array Value) (p : (List UInt8) → Bool) (hcf : ∀ (args : Array Value) (w : World), (callFunc F args).run Tryz.prog w = .ok (.enter F args) w)
    (hcl : ∀ x ∈ l, ∀ (wr : World), x.length ≤ 140737488355328 → Below w.heap.size w wr → Calls Tryz.prog F (#[strV x] ++ cap) wr fun e w' => e = .returned (.bool (p x)) ∧ Below wr.heap.size wr w') :
    Calls Tryz.prog 105 #[v, .func (.func F) #[] cap] w fun e w' => e = .returned (.int .i64 (firstAt p l 0)) ∧ Below w.heap.size w w' := by
  obtain ⟨hlen, a, c, rfl, -, hat⟩ := h.open
  obtain ⟨n, HN⟩ : ∃ n, Hid (n = l.length) := ⟨_, rfl⟩
  rw [← HN.out] at hlen ⊢
  have HAT := hid hat
  have HCL := hid hcl
  clear hat hcl
  go_enter Tryz.func105, Tryz.ntmps105
  go_wp2
  go_loopw [8] (fun v8 wr => ∃ k : Nat, k ≤ n ∧ v8 = .int .i64 k ∧ Hid (firstAt p (l.drop k) k = firstAt p l 0) ∧ Hid (Below w.heap.size w wr)) (fun v8 _ => n - (intOf v8).toNat)
  case atStart => exact ⟨0, by omega, rfl, hid rfl, Below.refl _ _⟩
  case round =>
    obtain ⟨k, hk, rfl, HK, HB⟩ := hrel
    by_cases hlt : k < n
    · have hat := HAT.out
      have hxi : l[k]? = some (l[k]'(by rw [← HN.out]; exact hlt)) := List.getElem?_eq_getElem _
      generalize l[k]'(by rw [← HN.out]; exact hlt) = x at hxi
      obtain ⟨hx64, b, o, ha, g0⟩ := hat k x hxi
      clear hat
      have HXX := hid hx64
      clear hx64
      have r0 := below_keeps HB.out _ _ g0
      have hU : strV x = .string ⟨x.toArray⟩ := rfl
      rw [hU] at r0
      have hbl : b < wr.heap.size := World.block_lt_of_cell? wr _ r0
      have hix := index_run1 Tryz.underlying25 size_str ha k hlt (cap := c)
      clear g0 hU
      have hst := hid (firstAt_get p l k x hxi)
      have HMEM := hid (List.mem_of_getElem? hxi)
      clear ha hxi
      go_wp2_with fail
      have hcl := HCL.out
      refine (hcl x HMEM.out wr HXX.out HB.out).mono ?_
      rintro e w5 ⟨rfl, hb5⟩
      clear hcl
      have HB5 : Hid (Below w.heap.size w w5) := below_step HB.out hb5 HB.out.size
      clear hb5
      cases hp : p x with
      | true =>
        have e : firstAt p l 0 = k := by rw [← HK.out, hst.out, if_pos hp]
        have HE := hid e
        clear hp e
        go_wp2
        go_ret
        exact ⟨by rw [HE.out]; rfl, HB5.out⟩
      | false =>
        have e : firstAt p (l.drop (k + 1)) (k + 1) = firstAt p l 0 := by rw [← HK.out, hst.out, if_neg (by rw [hp]; decide)]
        have HE := hid e
        clear hp e
        go_wp2
        go_roundw
        case rel => exact ⟨k + 1, by omega, by go_num, HE.out, HB5.out⟩
        case measure => simp [intOf]; omega
    · go_wp2
      go_ret
      have e : firstAt p l 0 = -1 := by
        rw [← HK.out, List.drop_of_length_le (by rw [← HN.out]; omega)]; rfl
      exact ⟨by rw [e]; rfl, HB.out⟩
set_option maxRecDepth 100000 in
set_option maxHeartbeats 4000000 in
theorem containsFunc_str {w : World} {v : Value} {l : List (List UInt8)} (h : StrsAt w v l) (F : Nat) (cap : Array Value) (p : (List UInt8) → Bool) (hcf : ∀ (args : Array Value) (w : World), (callFunc F args).run Tryz.prog w = .ok (.enter F args) w)
    (hcl : ∀ x ∈ l, ∀ (wr : World), x.length ≤ 140737488355328 → Below w.heap.size w wr → Calls Tryz.prog F (#[strV x] ++ cap) wr fun e w' => e = .returned (.bool (p x)) ∧ Below wr.heap.size wr w') :
    Calls Tryz.prog 69 #[v, .func (.func F) #[] cap] w fun e w' => e = .returned (.bool (l.any p)) ∧ Below w.heap.size w w' := by
  obtain ⟨x, HX⟩ : ∃ x, Hid (x = firstAt p l 0) := ⟨_, rfl⟩
  have HA : Hid (decide (0 ≤ x) = l.any p) := by rw [HX.out]; exact firstAt_any p l 0
  have HI := hid (indexFunc_str h F cap p hcf hcl)
  rw [← HX.out] at HI
  obtain ⟨hlen, a, c, rfl, -, -⟩ := h.open
  clear h hcl
  go_enter Tryz.func69, Tryz.ntmps69
  go_wp2_with fail
  refine HI.out.mono ?_
  rintro e w1 ⟨rfl, hb1⟩
  go_wp2_with fail
  go_ret
  exact ⟨ret1 (by rw [← HA.out]; first | rfl | (congr 1)), hb1⟩
set_option maxRecDepth 100000 in
set_option maxHeartbeats 4000000 in
theorem indexFunc_msg {d : Nat} {w : World} {v : Value} {l : List (M d)} (h : SubsAt (MsgAt d) w v l) (F : Nat) (cap : Array Value) (p : (M d) → Bool) (hcf : ∀ (args : Array Value) (w : World), (callFunc F args).run Tryz.prog w = .ok (.enter F args) w)
    (hcl : ∀ x ∈ l, ∀ (mv : Value) (wr : World), MsgAt d w mv x → Below w.heap.size w wr → Calls Tryz.prog F (#[mv] ++ cap) wr fun e w' => e = .returned (.bool (p x)) ∧ Below wr.heap.size wr w') :
    Calls Tryz.prog 141 #[v, .func (.func F) #[] cap] w fun e w' => e = .returned (.int .i64 (firstAt p l 0)) ∧ Below w.heap.size w w' := by
  obtain ⟨hlen, a, c, rfl, -, hat⟩ := h.open
  obtain ⟨n, HN⟩ : ∃ n, Hid (n = l.length) := ⟨_, rfl⟩
  rw [← HN.out] at hlen ⊢
  have HAT := hid hat
  have HCL := hid hcl
  clear hat hcl
  go_enter Tryz.func141, Tryz.ntmps141
  go_wp2
  go_loopw [8] (fun v8 wr => ∃ k : Nat, k ≤ n ∧ v8 = .int .i64 k ∧ Hid (firstAt p (l.drop k) k = firstAt p l 0) ∧ Hid (Below w.heap.size w wr)) (fun v8 _ => n - (intOf v8).toNat)
  case atStart => exact ⟨0, by omega, rfl, hid rfl, Below.refl _ _⟩
  case round =>
    obtain ⟨k, hk, rfl, HK, HB⟩ := hrel
    by_cases hlt : k < n
    · have hat := HAT.out
      have hxi : l[k]? = some (l[k]'(by rw [← HN.out]; exact hlt)) := List.getElem?_eq_getElem _
      generalize l[k]'(by rw [← HN.out]; exact hlt) = x at hxi
      obtain ⟨b, o, v1, v2, ha, g0, g1, hM⟩ := hat k x hxi
      clear hat
      have HXX := hid hM
      clear hM
      have r0 := below_keeps HB.out _ _ g0
      have r1 := below_keeps HB.out _ _ g1
      have hbl : b < wr.heap.size := World.block_lt_of_cell? wr _ r0
      have hix := index_run Tryz.underlying65 size_msg ha k hlt (cap := c)
      clear g0 g1
      have hst := hid (firstAt_get p l k x hxi)
      have HMEM := hid (List.mem_of_getElem? hxi)
      clear ha hxi
      go_wp2_with fail
      have hcl := HCL.out
      refine (hcl x HMEM.out _ _ HXX.out HB.out).mono ?_
      rintro e w5 ⟨rfl, hb5⟩
      clear hcl
      have HB5 : Hid (Below w.heap.size w w5) := below_step HB.out hb5 HB.out.size
      clear hb5
      cases hp : p x with
      | true =>
        have e : firstAt p l 0 = k := by rw [← HK.out, hst.out, if_pos hp]
        have HE := hid e
        clear hp e
        go_wp2
        go_ret
        exact ⟨by rw [HE.out]; rfl, HB5.out⟩
      | false =>
        have e : firstAt p (l.drop (k + 1)) (k + 1) = firstAt p l 0 := by rw [← HK.out, hst.out, if_neg (by rw [hp]; decide)]
        have HE := hid e
        clear hp e
        go_wp2
        go_roundw
        case rel => exact ⟨k + 1, by omega, by go_num, HE.out, HB5.out⟩
        case measure => simp [intOf]; omega
    · go_wp2
      go_ret
      have e : firstAt p l 0 = -1 := by
        rw [← HK.out, List.drop_of_length_le (by rw [← HN.out]; omega)]; rfl
      exact ⟨by rw [e]; rfl, HB.out⟩
set_option maxRecDepth 100000 in
set_option maxHeartbeats 4000000 in
theorem containsFunc_msg {d : Nat} {w : World} {v : Value} {l : List (M d)} (h : SubsAt (MsgAt d) w v l) (F : Nat) (cap : Array Value) (p : (M d) → Bool) (hcf : ∀ (args : Array Value) (w : World), (callFunc F args).run Tryz.prog w = .ok (.enter F args) w)
    (hcl : ∀ x ∈ l, ∀ (mv : Value) (wr : World), MsgAt d w mv x → Below w.heap.size w wr → Calls Tryz.prog F (#[mv] ++ cap) wr fun e w' => e = .returned (.bool (p x)) ∧ Below wr.heap.size wr w') :
    Calls Tryz.prog 101 #[v, .func (.func F) #[] cap] w fun e w' => e = .returned (.bool (l.any p)) ∧ Below w.heap.size w w' := by
  obtain ⟨x, HX⟩ : ∃ x, Hid (x = firstAt p l 0) := ⟨_, rfl⟩
  have HA : Hid (decide (0 ≤ x) = l.any p) := by rw [HX.out]; exact firstAt_any p l 0
  have HI := hid (indexFunc_msg h F cap p hcf hcl)
  rw [← HX.out] at HI
  obtain ⟨hlen, a, c, rfl, -, -⟩ := h.open
  clear h hcl
  go_enter Tryz.func101, Tryz.ntmps101
  go_wp2_with fail
  refine HI.out.mono ?_
  rintro e w1 ⟨rfl, hb1⟩
  go_wp2_with fail
  go_ret
  exact ⟨ret1 (by rw [← HA.out]; first | rfl | (congr 1)), hb1⟩
end Go.Proofs.YtaefpjecalnbcaaGreat
namespace Go.Proofs.YtaefpjecalnbcaaGreat
open Go.RowKit
theorem under_str : Tryz.prog.underlying 9 = some .string := Tryz.underlying9
theorem under_u8 : Tryz.prog.underlying 5 = some (.int .u8) := Tryz.underlying5
theorem str_bytes (w : World) (t : List UInt8) (ht : t.length ≤ 140737488355328) :
    ∃ g c w', (convert 9 99 (.string ⟨t.toArray⟩)).run Tryz.prog w = .ok (.slice (some ⟨g, 0, none⟩) t.length c) w' ∧ Below w.heap.size w w' ∧ Bytes w' (.slice (some ⟨g, 0, none⟩) t.length c) t := by
  have h := run_bytes_of_string (P := Tryz.prog) w 9 99 5 ⟨t.toArray⟩ under_str under_bytes under_u8
  have hsz : (⟨t.toArray⟩ : ByteArray).size = t.length := by simp [ByteArray.size]
  rw [hsz] at h
  refine ⟨_, _, _, h, ((Below.refl w.heap.size w).drew).alloc (Nat.le_refl _) _, by simp, ht, _, _, rfl, grownCap_ge _ _ _ _, ?_, by simp, ?_⟩
  · have := grownCap_le_maxLen w t.length 0 5 (by unfold maxLen; omega)
    unfold maxLen at this; omega
  · intro j u hu
    refine ⟨_, _, rfl, ?_⟩
    rw [Nat.zero_add, List.getElem?_map] at *
    have hj : j < t.length := by
      rcases Nat.lt_or_ge j t.length with h | h
      · exact h
      · rw [List.getElem?_eq_none h] at hu; simp at hu
    have hb := bytesRow_at ⟨t.toArray⟩ (grownCap w t.length 0 5) j (by simpa using hj)
    rw [List.getElem?_eq_getElem hj] at hu
    simp only [Option.map_some, Option.some.injEq] at hu
    subst hu
    rw [show w.heap.size = w.drew.heap.size from rfl, cell_of_row _ _ _ _ _ _ (heap_alloc_new w.drew _)]
    rw [hb]
    simp [byteV]
theorem RowsOwn.step2 {α : Type} {P : World → List Value → α → Prop} {T : TypeId} {k n0 base i : Nat} {wr w1 : World} {oa : Option Addr} {oc : Nat} {l : List α} (h : RowsOwn P T k n0 base wr (.slice oa i oc) l) (hb : Below wr.heap.size wr w1) (hk : 0 < k) (hn0 : n0 ≤ base) (hbs : base ≤ wr.heap.size) (hil : l.length = i)
    {G : Program} (t : TypeId) (z : Value) (bytes : Nat) (ht : G.underlying t = some (.slice T)) (hinfo : (G.info? T).map (fun i => (i.zero, i.size, i.bytes)) = some (some z, k, bytes)) (hzs : z.cells.size = k)
    (cells : Array Value) (hr : cells.size = k) (h1 : ∀ u ∈ cells.toList, u.oneCell' = true) (x : α) (hP : Apart n0 wr.heap.size w1 fun w' => P w' cells.toList x) (hlen : i ≤ 1099511627776) (hby : bytes ≤ 120) :
    ∃ a' c' w5, (Builtin.append_ #[t, t] t #[.slice oa i oc, .slice (some ⟨w1.heap.size, 0, none⟩) 1 1]).run G (w1.alloc (.cells cells T)) = .ok (.slice a' (i + 1) c') w5 ∧ RowsOwn P T k n0 base w5 (.slice a' (i + 1) c') (l ++ [x]) ∧
      Below base wr (w1.alloc (.cells cells T)) ∧ Below base wr w5 ∧ ∀ b, wr.heap.size ≤ b → b < w1.heap.size → w5.heap[b]? = w1.heap[b]? := by
  have hs := hb.size
  have hB1 : Below base wr (w1.alloc (.cells cells T)) := (hb.mono hbs).alloc (by omega) _
  obtain ⟨v', w', hrun, hO, hg, -⟩ := (h.below hb).append hk hn0 t z bytes ht hinfo hzs cells hr h1 x wr.heap.size (fun b e => (h.own b e).2) hbs hP (by omega) hby (by omega)
  obtain ⟨a', c', rfl⟩ := hO.form
  rw [List.length_append, List.length_singleton, hil] at *
  refine ⟨a', c', w', hrun, hO, hB1, hB1.grown hg (by have := hB1.size; omega) fun q e => (h.own q e).1, fun b h1 h2 => ?_⟩
  refine (hg.block b (by simp; omega) (fun e => ?_)).trans (Below.heap_alloc w1 _ b h2)
  have := (h.own b e.symm).2
  omega
def recP (_ : World) (r : List Value) (x : Rec) : Prop := r = recL x
def oneRec (l : List UInt8) : Prop := (rnext l 0).2 = 0 ∧ (rnext l 0).1.to = l.length
instance (l : List UInt8) : Decidable (oneRec l) := by unfold oneRec; infer_instance
theorem rnext_ok {l : List UInt8} {i : Nat} (h : (rnext l i).2 = 0) : i < l.length ∧ i < (rnext l i).1.to ∧ (rnext l i).1.to ≤ l.length := by
  rcases rnext_cases l i with ⟨h1, h2⟩ | ⟨h1, c, -, h2, h3⟩ | ⟨h1, k, x, n, -, h2, h3, h4, h5, h6, h7, ⟨a, m, c, -, g1, g2, g3, g4⟩ | ⟨a, m, -, g1, g2, g3, g4, g5⟩ | ⟨a, m, -, g1, g2, g3, g4⟩⟩
  · rw [h2] at h; simp at h
  · rw [h3] at h; simp at h; omega
  · rw [g4] at h; simp at h; omega
  · rw [g5] at h; simp at h
  · rw [g4]; exact ⟨h1, by simp; omega, by simp; omega⟩
theorem rnext_code (l : List UInt8) (i : Nat) : (rnext l i).2 < 256 := by
  rcases rnext_cases l i with ⟨h1, h2⟩ | ⟨h1, c, -, h2, h3⟩ | ⟨h1, k, x, n, -, h2, h3, h4, h5, h6, h7, ⟨a, m, c, -, g1, g2, g3, g4⟩ | ⟨a, m, -, g1, g2, g3, g4, g5⟩ | ⟨a, m, -, g1, g2, g3, g4⟩⟩
  · rw [h2]; decide
  · rw [h3]; show c < 256; omega
  · rw [g4]; show c < 256; omega
  · rw [g5]; decide
  · rw [g4]; show 0 < 256; decide
theorem Bytes.below_from {w wr : World} {v : Value} {l : List UInt8} (h : Bytes w v l) (hb : Below w.heap.size w wr) : Bytes wr v l := h.below hb
theorem info_rec : (Tryz.prog.info? 160).map (fun i => (i.zero, i.size, i.bytes)) = some (some (.agg #[.int .i64 0, .int .i64 0, .int .i64 0, .int .i64 0, .int .i64 0]), 5, 40) := by kernel_rfl
def SplitPostS (w : World) (l : List UInt8) (e : Ending) (w' : World) : Prop :=
  ∃ (a : Option Addr) (n c : Nat) (at' cd : Nat), e = .returned (.tuple #[.slice a n c, .int .i64 at', .int .u8 cd]) ∧ cd < 256 ∧ Below w.heap.size w w' ∧
    ((oneRec l ∧ cd = 0 ∧ n = 1 ∧ ∃ b o, a = some ⟨b, o, none⟩ ∧ w'.cell? ⟨b, o, none⟩ = some (.int .i64 (rnext l 0).1.number)) ∨ (¬ oneRec l ∧ (cd ≠ 0 ∨ n ≠ 1)))
set_option maxRecDepth 100000 in
set_option maxHeartbeats 4000000 in
theorem record_Split {w : World} {v : Value} {l : List UInt8} (h : Bytes w v l) (hl : l.length ≤ 1099511627776) :
    Calls Tryz.prog 106 #[v] w fun e w' => SplitPostS w l e w' := by
  have HV := hid h
  have HLL := hid hl
  obtain ⟨hlen, a, cap, rfl, -, -, -, -⟩ := h.open
  obtain ⟨n, HN⟩ : ∃ n, Hid (n = l.length) := ⟨_, rfl⟩
  rw [← HN.out] at HV hlen HLL hl ⊢
  clear h
  go_enter Tryz.func106, Tryz.ntmps106
  go_wp2_with fail
  go_loopw [5, 6, 7, 8] (fun v5 v6 _ _ wr => ∃ (pre : List Rec) (oa : Option Addr) (m oc at' : Nat), v5 = .slice oa m oc ∧ v6 = .int .i64 at' ∧ at' ≤ n ∧ m ≤ at' ∧ Hid (m = pre.length) ∧
      Hid ((pre = [] ∧ at' = 0) ∨ (pre = [(rnext l 0).1] ∧ (rnext l 0).2 = 0 ∧ at' = (rnext l 0).1.to) ∨ (2 ≤ pre.length ∧ ¬ oneRec l)) ∧
      Hid (Below w.heap.size w wr ∧ RowsOwn recP 160 5 0 w.heap.size wr (.slice oa m oc) pre)) (fun _ v6 _ _ _ => n - (intOf v6).toNat)
  case atStart => exact ⟨[], none, 0, 0, 0, rfl, rfl, by omega, by omega, rfl, .inl ⟨rfl, rfl⟩, Below.refl _ _, RowsOwn.nil _ _ _ _ _ _⟩
  case round =>
    obtain ⟨pre, oa, m, oc, at', rfl, rfl, hat, hmat, HM, HS, HI⟩ := hrel
    by_cases hlt : at' < n
    · obtain ⟨r, c, HR⟩ : ∃ r c, Hid (rnext l at' = (r, c)) := ⟨_, _, rfl⟩
      have hc256 : c < 256 := by
        have := rnext_code l at'
        rw [HR.out] at this
        exact this
      have HNX := hid (record_Next (HV.out.below_from HI.out.1) at' (by omega))
      rw [HR.out] at HNX
      by_cases hc : c = 0
      · subst hc
        have hok : at' < r.to ∧ r.to ≤ n := by
          have := rnext_ok (l := l) (i := at') (by rw [HR.out])
          rw [HR.out, ← HN.out] at this
          exact this.2
        have HST : Hid ((pre ++ [r] = [(rnext l 0).1] ∧ (rnext l 0).2 = 0 ∧ r.to = (rnext l 0).1.to) ∨ (2 ≤ (pre ++ [r]).length ∧ ¬ oneRec l)) := by
          rcases HS.out with ⟨rfl, rfl⟩ | ⟨rfl, h1, rfl⟩ | ⟨h1, h2⟩
          · exact .inl ⟨by rw [HR.out]; rfl, by rw [HR.out], by rw [HR.out]⟩
          · exact .inr ⟨by simp, fun h => by have := h.2; have := HN.out; omega⟩
          · exact .inr ⟨by simp; omega, h2⟩
        go_wp2_with fail
        refine HNX.out.mono ?_
        rintro e w1 ⟨rfl, hb1⟩
        obtain ⟨rn, rw', rs, ra, rt⟩ := r
        simp only [Rec.val]
        have hb2 := hb1.alloc hb1.size (.cells #[.int .i64 rn, .int .i64 rw', .int .i64 rs, .int .i64 ra, .int .i64 rt] 160)
        have hk2 := Blk.new w1 [.int .i64 rn, .int .i64 rw', .int .i64 rs, .int .i64 ra, .int .i64 rt] 160
        have hX : wr.heap.size ≤ w1.heap.size := hb1.size
        go_wp2_with fail
        generalize hW2 : w1.alloc (.cells #[.int .i64 rn, .int .i64 rw', .int .i64 rs, .int .i64 ra, .int .i64 rt] 160) = W2 at *
        clear hW2
        generalize w1.heap.size = X at *
        clear hb1
        obtain ⟨a5, c5, w5, hr5, hO5, hB4, hB5, hk5⟩ := RowsOwn.step2 HI.out.2 hb2.drew (by decide) (by omega) HI.out.1.size HM.out.symm 157 _ 40 Tryz.underlying157 info_rec rfl #[.int .i64 rn, .int .i64 rw', .int .i64 rs, .int .i64 ra, .int .i64 rt] rfl (by intro u hu; simp at hu; rcases hu with rfl | rfl | rfl | rfl | rfl <;> rfl) ⟨rn, rw', rs, ra, rt⟩ (fun _ _ => rfl) (by have := HLL.out; omega) (by decide)
        have hkd : Blk W2.drew X [.int .i64 rn, .int .i64 rw', .int .i64 rs, .int .i64 ra, .int .i64 rt] 160 := hk2
        have hke : Blk (W2.alloc (.cells #[.int .i64 rn, .int .i64 rw', .int .i64 rs, .int .i64 ra, .int .i64 rt] 160)).drew X [.int .i64 rn, .int .i64 rw', .int .i64 rs, .int .i64 ra, .int .i64 rt] 160 := hkd.alloc (.cells #[.int .i64 rn, .int .i64 rw', .int .i64 rs, .int .i64 ra, .int .i64 rt] 160)
        have hkf : Blk w5 X [.int .i64 rn, .int .i64 rw', .int .i64 rs, .int .i64 ra, .int .i64 rt] 160 := (hk5 X hX hk2.lt).trans hkd
        have k0 : W2.drew.cell? ⟨X, 0, none⟩ = some (.int .i64 rn) ∧ W2.drew.cell? ⟨X, 1, none⟩ = some (.int .i64 rw') ∧ W2.drew.cell? ⟨X, 2, none⟩ = some (.int .i64 rs) ∧ W2.drew.cell? ⟨X, 3, none⟩ = some (.int .i64 ra) ∧ W2.drew.cell? ⟨X, 4, none⟩ = some (.int .i64 rt) := ⟨hkd.cell 0 _ rfl, hkd.cell 1 _ rfl, hkd.cell 2 _ rfl, hkd.cell 3 _ rfl, hkd.cell 4 _ rfl⟩
        have k1 := And.intro (hke.cell 0 _ rfl) (And.intro (hke.cell 1 _ rfl) (And.intro (hke.cell 2 _ rfl) (And.intro (hke.cell 3 _ rfl) (hke.cell 4 _ rfl))))
        have k3 := And.intro (hkf.cell 0 _ rfl) (And.intro (hkf.cell 1 _ rfl) (And.intro (hkf.cell 2 _ rfl) (And.intro (hkf.cell 3 _ rfl) (hkf.cell 4 _ rfl))))
        have hXl := hk2.lt
        have HR5 : Hid ((Builtin.append_ #[157, 157] 157 #[.slice oa m oc, .slice (some ⟨W2.heap.size, 0, none⟩) 1 1]).run Tryz.prog (W2.alloc (.cells #[.int .i64 rn, .int .i64 rw', .int .i64 rs, .int .i64 ra, .int .i64 rt] 160)).drew = .ok (.slice a5 (m + 1) c5) w5) := hr5
        have HO5 := hid hO5
        have HB5 := hid hB5
        clear hkd hke hkf hr5 hO5 hB4 hB5 hk5 hb2 hk2
        go_region_held3 (fun w' => w'.cell? ⟨X, 0, none⟩ = some (.int .i64 rn) ∧ w'.cell? ⟨X, 1, none⟩ = some (.int .i64 rw') ∧ w'.cell? ⟨X, 2, none⟩ = some (.int .i64 rs) ∧ w'.cell? ⟨X, 3, none⟩ = some (.int .i64 ra) ∧ w'.cell? ⟨X, 4, none⟩ = some (.int .i64 rt)) (first | (with_reducible exact k0) | (with_reducible exact k1) | (with_reducible exact k3) | go_keep) (first | (refine step_append_eq rfl (.tmp 23) (.tmp 25) _ rfl _ _ rfl rfl HR5.out ?_))
        go_wp2_with fail
        go_roundw
        case rel => exact ⟨pre ++ [⟨rn, rw', rs, ra, rt⟩], _, _, _, rt, rfl, rfl, hok.2, by have := hok.1; omega, by rw [Hid, List.length_append, ← HM.out]; rfl, .inr HST.out, HB5.out |> fun h => HI.out.1.trans (h.mono (by omega)), HO5.out⟩
        case measure => simp [intOf]; have := hok.1; omega
      · have hno : ¬ oneRec l := by
          rcases HS.out with ⟨rfl, rfl⟩ | ⟨rfl, h1, rfl⟩ | ⟨h1, h2⟩
          · exact fun h => hc (by have := h.1; rw [HR.out] at this; exact this)
          · exact fun h => by have := h.2; have := HN.out; omega
          · exact h2
        have HNO := hid hno
        clear hno
        go_wp2_with fail
        refine HNX.out.mono ?_
        rintro e w1 ⟨rfl, hb1⟩
        obtain ⟨rn, rw', rs, ra, rt⟩ := r
        simp only [Rec.val]
        go_wp2_with fail
        go_ret3
        exact ⟨none, 0, 0, at', c, rfl, hc256, (HI.out.1.trans (hb1.mono HI.out.1.size)).alloc (by have := HI.out.1.size; have := hb1.size; omega) _, .inr ⟨HNO.out, .inl hc⟩⟩
    · obtain rfl : at' = n := by omega
      go_wp2_with fail
      go_ret3
      refine ⟨oa, m, oc, 0, 0, rfl, by decide, HI.out.1, ?_⟩
      rcases HS.out with ⟨rfl, h1⟩ | ⟨rfl, h1, h2⟩ | ⟨h1, h2⟩
      · refine .inr ⟨fun h => ?_, .inr (by rw [HM.out]; simp)⟩
        have := (rnext_ok h.1).1
        have := HN.out
        omega
      · refine .inl ⟨⟨h1, by rw [← h2]; exact HN.out⟩, rfl, by rw [HM.out]; rfl, ?_⟩
        have hR := HI.out.2.at (by simp) (w' := wr) (fun _ _ _ => rfl)
        obtain ⟨-, a', cap', he, -, hat'⟩ := hR.open (by decide)
        cases he
        obtain ⟨b, o, r, ha, -, hc, hP⟩ := hat' 0 _ rfl
        refine ⟨b, o, ha, ?_⟩
        have := hc 0 _ (by rw [hP]; rfl)
        simpa using this
      · exact .inr ⟨h2, .inr (by rw [HM.out]; omega)⟩
theorem strangeB_eq (fs : List Fld) (t : List UInt8) : strangeB fs t = (decide (oneRec t) && !decide (0 ≤ fieldAt fs (rnext t 0).1.number)) := by
  unfold strangeB oneRec
  congr 1
  by_cases h : 0 ≤ fieldAt fs (rnext t 0).1.number
  · rw [decide_eq_false (by omega), decide_eq_true h]; rfl
  · rw [decide_eq_true (by omega), decide_eq_false h]; rfl
theorem size_rec (w : World) : (sizeOf 160).run Tryz.prog w = .ok 5 w := by kernel_rfl
set_option maxRecDepth 100000 in
set_option maxHeartbeats 4000000 in
theorem tree_stranger {w : World} {v : Value} {fs : List Fld} (h : FieldsAt w v fs) (nm : ByteArray) (t : List UInt8) (ht : t.length ≤ 1099511627776) :
    Calls Tryz.prog 71 #[.agg #[.string nm, v], strV t] w fun e w' => e = .returned (.bool (strangeB fs t)) ∧ Below w.heap.size w w' := by
  rw [strangeB_eq]
  obtain ⟨rn, HRN⟩ : ∃ n, Hid (n = (rnext t 0).1.number) := ⟨_, rfl⟩
  rw [← HRN.out]
  have hB1 : Below w.heap.size w (w.alloc (.cells #[.string nm, v] 62)) := (Below.refl _ _).alloc (Nat.le_refl _) _
  have hK1 := Blk.new w [.string nm, v] 62
  obtain ⟨g, c, w2, hcv, hb2, hby⟩ := str_bytes (w.alloc (.cells #[.string nm, v] 62)) t (by omega)
  have HB2 := hid (hB1.trans (hb2.mono hB1.size))
  have HK2 := hid (hK1.below hb2)
  have HBY := hid hby
  have HCV := hid hcv
  have HT := hid ht
  have H := hid h
  obtain ⟨hlen, a, c', rfl, -⟩ := h.open
  have hST : strV t = .string ⟨t.toArray⟩ := rfl
  rw [hST]
  clear hST h hB1 hK1 hb2 hby hcv ht
  obtain ⟨tn, HTN⟩ : ∃ n, Hid (n = t.length) := ⟨_, rfl⟩
  rw [← HTN.out] at HCV HBY
  have hcv := HCV.out
  go_enter Tryz.func71, Tryz.ntmps71
  go_wp2_with fail
  refine (record_Split HBY.out HT.out).mono ?_
  rintro e w3 ⟨sa, sn, sc, at', cd, rfl, hcd, hb3, hcase⟩
  have HK3 := hid (HK2.out.below hb3)
  have HB3 := hid (HB2.out.trans (hb3.mono HB2.out.size))
  clear hb3 hcv HCV HBY
  have hzl : w.heap.size < w3.heap.size := HK3.out.lt
  have z0 := HK3.out.cell 0 _ rfl
  have z1 := HK3.out.cell 1 _ rfl
  rcases hcase with ⟨ho, rfl, rfl, b, o, rfl, hc⟩ | ⟨ho, hcase⟩
  · have HO : Hid (decide (oneRec t) = true) := decide_eq_true ho
    have hbl : b < w3.heap.size := World.block_lt_of_cell? w3 _ hc
    have hix : ∀ W : World, (Instr.indexAt 157 (.slice (some ⟨b, o, none⟩) 1 sc) (.int .i64 0)).run Tryz.prog W = .ok (.pointer (some ⟨b, o, none⟩)) W := fun W => by
      have := index_run Tryz.underlying157 size_rec (a := some ⟨b, o, none⟩) rfl 0 (len := 1) (by decide) (cap := sc) W
      simpa using this
    rw [← HRN.out] at hc
    clear ho
    have k0 : w3.drew.cell? ⟨w.heap.size, 0, none⟩ = some (.string nm) ∧ w3.drew.cell? ⟨w.heap.size, 1, none⟩ = some (.slice a fs.length c') ∧ w3.drew.cell? ⟨b, o, none⟩ = some (.int .i64 rn) := ⟨z0, z1, hc⟩
    obtain ⟨x1, x2, HX2, HBN⟩ : ∃ (x1 : Int) (x2 : Bool), Hid (x2 = decide (0 ≤ fieldAt fs rn)) ∧ Hid (Calls Tryz.prog 67 #[.agg #[.string nm, .slice a fs.length c'], .int .i64 rn] w3.drew fun e w' => e = .returned (.tuple #[.int .i64 x1, .bool x2]) ∧ Below w3.drew.heap.size w3.drew w') := ⟨_, _, rfl, schema_ByNumber (H.out.below HB3.out.drew) nm rn⟩
    go_wp2_with fail
    go_region_held3 (fun w' => w'.cell? ⟨w.heap.size, 0, none⟩ = some (.string nm) ∧ w'.cell? ⟨w.heap.size, 1, none⟩ = some (.slice a fs.length c') ∧ w'.cell? ⟨b, o, none⟩ = some (.int .i64 rn)) (first | (with_reducible exact k0) | (with_reducible exact k1) | go_keep) (first | (go_at_call 67; (with_reducible refine (HBN.out).mono ?_); rintro e w4 ⟨rfl, hb4⟩; have k1 : w4.cell? ⟨w.heap.size, 0, none⟩ = some (.string nm) ∧ w4.cell? ⟨w.heap.size, 1, none⟩ = some (.slice a fs.length c') ∧ w4.cell? ⟨b, o, none⟩ = some (.int .i64 rn) := ⟨below_keeps hb4 _ _ k0.1, below_keeps hb4 _ _ k0.2.1, below_keeps hb4 _ _ k0.2.2⟩))
    go_wp2_with fail
    go_ret
    exact ⟨by rw [HO.out, ← HX2.out]; rfl, HB3.out.trans (((Below.refl w3.heap.size w3).drew.trans hb4).mono HB3.out.size)⟩
  · have HO : Hid (decide (oneRec t) = false) := decide_eq_false ho
    clear ho
    rcases hcase with hcase | hcase
    · go_wp2_with fail
      go_ret
      exact ⟨by rw [HO.out]; rfl, HB3.out⟩
    · by_cases h0 : cd = 0
      · subst h0
        go_wp2_with fail
        go_ret
        exact ⟨by rw [HO.out]; rfl, HB3.out⟩
      · go_wp2_with fail
        go_ret
        exact ⟨by rw [HO.out]; rfl, HB3.out⟩
end Go.Proofs.YtaefpjecalnbcaaGreat
