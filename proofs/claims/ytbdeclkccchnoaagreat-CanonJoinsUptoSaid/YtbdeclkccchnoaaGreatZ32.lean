/- algebra.by: a meaning's values by their numbers. Values whose numbers rise. algebra.of: the meaning of values by their numbers, whatever the order in which they came. At most 2^30 values. algebra.field: the field of a number that the message has. algebra.single: a field of one message. -/
import Derived.Test.YtbdeclkccchnoaaGreatZ04
import Derived.Test.YtbdeclkccchnoaaGreatZ05
import Derived.Test.YtbdeclkccchnoaaGreatZ09
import Derived.Test.YtbdeclkccchnoaaGreatZ10
import Derived.Test.YtbdeclkccchnoaaGreatZ26
import Derived.Test.YtbdeclkccchnoaaGreatZ29
import Derived.Test.YtbdeclkccchnoaaGreatZ30
import Derived.Deep.CutBlock
import Derived.Deep.RegionLaw
import Derived.StillTailTactics
import Derived.Deep.RegionHeld3
namespace Go.Proofs.YtbdeclkccchnoaaGreat
open Go.RowKit
def ByPost (d : Nat) (w0 w : World) (x : M (d + 1)) (e : Ending) (w' : World) : Prop := ∃ r es, e = .returned (.map (some r)) ∧ MapIs w' r intK es ∧ MapV d w0 es (M.vals x) ∧ w.heap.size ≤ r ∧ Below w.heap.size w w'
theorem take_rise {α : Type} {l : List (Val α)} (h : RiseV l) {i : Nat} {v : Val α} (hv : l[i]? = some v) : getV (l.take i) v.num = none ∧ l.take (i + 1) = l.take i ++ [v] ∧ RiseV (l.take i) := by
  have e : l.take (i + 1) = l.take i ++ [v] := by rw [List.take_add_one, hv]; rfl
  have h1 : RiseV (l.take (i + 1)) := List.Pairwise.sublist (List.take_sublist _ _) h
  refine ⟨?_, e, List.Pairwise.sublist (List.take_sublist _ _) h⟩
  rw [e] at h1
  unfold RiseV at h1
  rw [List.pairwise_append] at h1
  unfold getV
  rw [List.find?_eq_none]
  intro y hy
  have := h1.2.2 y hy v (by simp)
  simp; omega
set_option maxRecDepth 100000 in
set_option maxHeartbeats 8000000 in
theorem alg_by {d : Nat} {w0 w : World} {v : Value} {x : M (d + 1)} (hw : Below w0.heap.size w0 w) (hx : MsgAt (d + 1) w0 v x) (hr : RiseV (M.vals x)) : Calls Tryz.prog 32 #[v] w (ByPost d w0 w x) := by
  obtain ⟨vv, uv, rfl, hV, hU⟩ := hx
  obtain ⟨hvl, va, vc, rfl, -, hva⟩ := hV.open
  obtain ⟨-, ua, uc, huv, -, -⟩ := hU.open
  obtain ⟨un, HUN⟩ : ∃ n, Hid (n = (M.unk x).length) := ⟨_, rfl⟩
  obtain ⟨vn, HVN⟩ : ∃ n, Hid (n = (M.vals x).length) := ⟨_, rfl⟩
  rw [← HUN.out] at huv
  subst huv
  rw [← HVN.out] at hvl ⊢
  obtain ⟨Q, HQ⟩ : ∃ Q : Ending → World → Prop, Hid (Q = ByPost d w0 w x) := ⟨_, rfl⟩
  rw [← HQ.out]
  have HVA := hid hva
  have HW0 := hid hw
  have HRI := hid hr
  obtain ⟨X, HX⟩ : ∃ X, Hid (X = w.heap.size) := ⟨_, rfl⟩
  obtain ⟨W1, HW1⟩ : ∃ W, Hid (W = w.alloc (.cells #[.slice va vn vc, .slice ua un uc] 27)) := ⟨_, rfl⟩
  obtain ⟨W2, HW2⟩ : ∃ W, Hid (W = W1.alloc (.map #[] 0)) := ⟨_, rfl⟩
  obtain ⟨r, HR⟩ : ∃ r, Hid (r = W1.heap.size) := ⟨_, rfl⟩
  have hkx : Blk W1 X [.slice va vn vc, .slice ua un uc] 27 := by rw [HW1.out, HX.out]; exact Blk.new w [.slice va vn vc, .slice ua un uc] _
  have hb1 : Below w.heap.size w W1 := by rw [HW1.out]; exact (Below.refl _ _).alloc (Nat.le_refl _) _
  have hb2 : Below W1.heap.size W1 W2 := by rw [HW2.out]; exact (Below.refl _ _).alloc (Nat.le_refl _) _
  have HM2 : Hid (MapIs W2 r intK [] ∧ Below w.heap.size w W2) := ⟨by rw [HW2.out, HR.out]; exact heap_alloc_new W1 _, hb1.trans (hb2.mono hb1.size)⟩
  have HRX : Hid (w.heap.size ≤ r) := by rw [HR.out]; exact hb1.size
  have k0 := (hkx.below hb2).cell 0 _ rfl
  have kl := (hkx.below hb2).lt
  have hmm := @run_makeMap Tryz.prog
  clear hkx hb1 hb2 hV hU hva hr hw
  go_enter Tryz.func32, Tryz.ntmps32
  go_upto_region 1 with fail
  rw [← HW1.out, ← HX.out]
  go_upto_region 2 with fail
  rw [← HW2.out, ← HR.out]
  clear hmm
  go_wp2_with fail
  go_loopw [10] (fun v10 wr => ∃ (i : Nat) (es : List (Int × Value)), v10 = .int .i64 (i : Int) ∧ i ≤ vn ∧ Hid (MapIs wr r intK es ∧ MapV d w0 es ((M.vals x).take i) ∧ Below w.heap.size w wr)) (fun v10 _ => vn - (intOf v10).toNat)
  case atStart => exact ⟨0, [], rfl, by omega, HM2.out.1, MapP.nil _, HM2.out.2⟩
  case round =>
    obtain ⟨i, es, rfl, hi, HJ⟩ := hrel
    clear k0 kl HM2
    by_cases hlt : i < vn
    · obtain ⟨v, hv⟩ : ∃ v, (M.vals x)[i]? = some v := ⟨_, List.getElem?_eq_getElem (by rw [← HVN.out]; exact hlt)⟩
      obtain ⟨b, o', v1, v2, v3, ha, g0, g1, g2, g3, hM⟩ := HVA.out i v hv
      obtain ⟨num, a1, n1, q1, a2, n2, q2, a3, n3, q3, hform⟩ := hM.form
      obtain ⟨rfl, rfl, rfl⟩ : v1 = .slice a1 n1 q1 ∧ v2 = .slice a2 n2 q2 ∧ v3 = .slice a3 n3 q3 := by cases hform; exact ⟨rfl, rfl, rfl⟩
      have hnum : v.num = num := by cases hform; rfl
      clear hform
      have hkr := below_keeps (HW0.out.trans (HJ.out.2.2.mono HW0.out.size))
      replace g0 := hkr _ _ g0
      replace g1 := hkr _ _ g1
      replace g2 := hkr _ _ g2
      replace g3 := hkr _ _ g3
      rw [hnum] at g0 hM
      obtain ⟨W6, HW6⟩ : ∃ W6, Hid (W6 = wr.alloc (.cells #[.int .i64 num, .slice a1 n1 q1, .slice a2 n2 q2, .slice a3 n3 q3] 52)) := ⟨_, rfl⟩
      obtain ⟨B, HBB⟩ : ∃ B, Hid (B = wr.heap.size) := ⟨_, rfl⟩
      have hb6 : Below wr.heap.size wr W6 := by rw [HW6.out]; exact (Below.refl _ _).alloc (Nat.le_refl _) _
      have hv6 : Blk W6 B [.int .i64 num, .slice a1 n1 q1, .slice a2 n2 q2, .slice a3 n3 q3] 52 := by rw [HW6.out, HBB.out]; exact Blk.new wr [.int .i64 num, .slice a1 n1 q1, .slice a2 n2 q2, .slice a3 n3 q3] _
      have hmap := mapIs_laterV HJ.out.1 hb6
      have hmu := tv_put hmap num (.agg #[.int .i64 num, .slice a1 n1 q1, .slice a2 n2 q2, .slice a3 n3 q3])
      have hw6 := HJ.out.2.2.trans (hb6.mono HJ.out.2.2.size)
      obtain ⟨t1, t2, t3⟩ := take_rise HRI.out hv
      have HREL : Hid (MapIs (putMap W6 r intK (putK num (.agg #[.int .i64 num, .slice a1 n1 q1, .slice a2 n2 q2, .slice a3 n3 q3]) es)) r intK (putK num (.agg #[.int .i64 num, .slice a1 n1 q1, .slice a2 n2 q2, .slice a3 n3 q3]) es) ∧
          MapV d w0 (putK num (.agg #[.int .i64 num, .slice a1 n1 q1, .slice a2 n2 q2, .slice a3 n3 q3]) es) ((M.vals x).take (i + 1)) ∧
          Below w.heap.size w (putMap W6 r intK (putK num (.agg #[.int .i64 num, .slice a1 n1 q1, .slice a2 n2 q2, .slice a3 n3 q3]) es))) := by
        refine ⟨putMap_is (Array.getElem?_eq_some_iff.1 hmap).1, ?_, hw6.trans (but_putMap.to_below HRX.out hw6.size)⟩
        have h1 : MapV d w0 es ((M.vals x).take i) := HJ.out.2.1
        have h2 := h1.put (by rw [h1.keys]; exact t3.nodup) hM
        rw [hnum] at h2
        rw [t2]
        unfold putG at h2
        rw [t1, if_neg (by simp)] at h2
        exact h2
      have hix := index_run Tryz.underlying24 size_val ha i hlt (cap := vc)
      have hbl := World.block_lt_of_cell? wr _ g0
      have d0 := hv6.cell 0 _ rfl
      have d1 := hv6.cell 1 _ rfl
      have d2 := hv6.cell 2 _ rfl
      have d3 := hv6.cell 3 _ rfl
      have dl := hv6.lt
      clear hv hM hkr hnum ha hb6 hv6 hmap hw6 t1 t2 t3 HJ
      go_upto_region 5 with fail
      rw [← HW6.out, ← HBB.out]
      clear g0 g1 g2 g3 hix hbl
      go_wp2_with fail
      go_roundw
      case rel => exact ⟨i + 1, _, by go_num, hlt, HREL.out⟩
      case measure => simp [intOf]; omega
    · obtain rfl : i = vn := by omega
      have HE : Hid (Q (.returned (.map (some r))) wr) := by
        rw [HQ.out]
        have h := HJ.out
        rw [HVN.out, List.take_length] at h
        exact ⟨r, es, rfl, h.1, h.2.1, HRX.out, h.2.2⟩
      clear HJ
      go_wp2_with fail
      exact HE.out
end Go.Proofs.YtbdeclkccchnoaaGreat
namespace Go.Proofs.YtbdeclkccchnoaaGreat
open Go.RowKit Go.Maps Go.Sort Go.Shelf
theorem getV_isSome {α : Type} {l : List (Val α)} {n : Int} : n ∈ l.map (·.num) ↔ (getV l n).isSome = true := by
  induction l with
  | nil => simp [getV_nil]
  | cons x r ih =>
    rw [List.map_cons, List.mem_cons, ih, getV_cons]
    by_cases h : x.num = n
    · simp [h]
    · rw [if_neg h]
      exact ⟨fun h2 => h2.elim (fun e => absurd e.symm h) id, .inr⟩
theorem rise_sorted {α : Type} {l gs : List (Val α)} (hl : RiseV l) (hg : ∀ n, getV l n = getV gs n) (hd : (gs.map (·.num)).Nodup) {ss : List Int} (hs : ss.Perm (gs.map (·.num))) : ss.mergeSort (fun x y => decide (x ≤ y)) = l.map (·.num) := by
  have hp : (ss.mergeSort (fun x y => decide (x ≤ y))).Perm (l.map (·.num)) := by
    refine ((List.mergeSort_perm _ _).trans hs).trans ((List.perm_ext_iff_of_nodup hd hl.nodup).2 fun n => ?_)
    rw [getV_isSome, getV_isSome, hg]
  have h2 : (ss.mergeSort fun x y => decide (x ≤ y)).Pairwise fun x y => x ≤ y := (List.pairwise_mergeSort (fun a b c h1 h2 => by simp at *; omega) (fun a b => by simp; omega) _).imp fun h => of_decide_eq_true h
  have h3 : (l.map (·.num)).Pairwise fun x y => x ≤ y := List.Pairwise.map _ (fun a b h => Int.le_of_lt h) hl
  exact List.Perm.eq_of_pairwise (fun a b _ _ h h' => Int.le_antisymm h h') h2 h3 hp
theorem getV_len {α : Type} {l gs : List (Val α)} (hl : RiseV l) (hg : ∀ n, getV l n = getV gs n) (hd : (gs.map (·.num)).Nodup) : l.length = gs.length := by
  have h := (List.perm_ext_iff_of_nodup hd hl.nodup).2 fun n => by rw [getV_isSome, getV_isSome, hg]
  have := h.length_eq
  rw [List.length_map, List.length_map] at this
  exact this.symm
theorem MapP.getg {d : Nat} {P : Value → Val (M d) → Prop} {es : List (Int × Value)} {gs : List (Val (M d))} (h : MapP P es gs) {x : Int} {g : Val (M d)} (hx : getV gs x = some g) : ∃ v, getOf x es = some v ∧ P v g := by
  cases hv : getOf x es with
  | none => rw [h.none hv] at hx; cases hx
  | some v =>
    obtain ⟨g', h1, -, h2⟩ := h.get hv
    rw [hx] at h1
    injection h1 with h1
    exact ⟨v, rfl, by rw [h1]; exact h2⟩
def OfP (d : Nat) (es : List (Int × Value)) (_ : World) (r : List Value) (v : Val (M d)) : Prop := ∃ c : VS, r = [.int .i64 c.n, .slice c.a1 c.n1 c.c1, .slice c.a2 c.n2 c.c2, .slice c.a3 c.n3 c.c3] ∧ getOf v.num es = some c.val
theorem size_intA (w : World) : (sizeOf 3).run Tryz.prog w = .ok 1 w := by kernel_rfl
set_option maxRecDepth 100000 in
set_option maxHeartbeats 8000000 in
theorem alg_of {d n0 B : Nat} {w : World} {r : Nat} {es : List (Int × Value)} {gs l : List (Val (M d))} {uv : Value} {unk : List (List UInt8)} (hm : MapIs w r intK es) (hv : MapA d n0 B w es gs) (hB : B ≤ w.heap.size) (hd : (gs.map (·.num)).Nodup) (hn : gs.length ≤ 1073741824) (hu : Apart n0 B w fun W => StrsAt W uv unk) (hl : RiseV l) (hg : ∀ n, getV l n = getV gs n) :
    Calls Tryz.prog 35 #[.map (some r), uv] w fun e w' => ∃ v', e = .returned v' ∧ Below w.heap.size w w' ∧ Apart n0 B w' fun W => MsgAt (d + 1) W v' (⟨l, unk⟩ : Msgd (M d)) := by
  have HUU := hid hu
  obtain ⟨-, ua, uc, rfl, -, -⟩ := hu.here.open
  obtain ⟨un, HUN⟩ : ∃ n, Hid (n = unk.length) := ⟨_, rfl⟩
  rw [← HUN.out] at HUU ⊢
  have hlen := getV_len hl hg hd
  obtain ⟨Q, HQ⟩ : ∃ Q : Ending → World → Prop, Hid (Q = fun e w' => ∃ v', e = .returned v' ∧ Below w.heap.size w w' ∧ Apart n0 B w' fun W => MsgAt (d + 1) W v' (⟨l, unk⟩ : Msgd (M d))) := ⟨_, rfl⟩
  rw [← HQ.out]
  obtain ⟨X, HX⟩ : ∃ X, Hid (X = w.heap.size) := ⟨_, rfl⟩
  obtain ⟨W1, HW1⟩ : ∃ W, Hid (W = (w.alloc (.cells #[.slice none 0 0, .slice none 0 0] 27)).alloc (.cells #[.slice none 0 0, .slice ua un uc] 27)) := ⟨_, rfl⟩
  have hb1 : Below w.heap.size w W1 := by rw [HW1.out]; (repeat (first | with_reducible exact Below.refl _ _ | with_reducible refine Below.setCell ?_ (by first | omega | (simp; omega) | (simp; done)) _ | with_reducible refine Below.alloc ?_ (by first | omega | (simp; omega) | (simp; done)) _ | with_reducible refine below_drewN ?_ _ | with_reducible refine Below.drew ?_))
  have hr1 : Blk W1 X [.slice none 0 0, .slice none 0 0] 27 := by rw [HW1.out, HX.out]; exact (Blk.new w [.slice none 0 0, .slice none 0 0] _).alloc _
  have ho1 : Blk W1 (X + 1) [.slice none 0 0, .slice ua un uc] 27 := by rw [HW1.out, HX.out]; exact Blk.new' _ [.slice none 0 0, .slice ua un uc] _ _ (by simp)
  have hz1 : W1.heap.size = X + 2 := by rw [HW1.out, HX.out]; simp
  have hmap1 := mapIs_laterV hm hb1
  have HSK := hid (sorted_Keys hmap1 (by rw [hv.len]; exact hn) (by rw [hv.keys]; exact hd) fun p hp => by
    obtain ⟨q, hq, rfl⟩ := List.mem_map.1 hp
    exact (hv.ok (fun _ _ h => apart_vs h) q hq).1)
  rw [hv.keys] at HSK
  have HRS : Hid (∀ ss : List Int, ss.Perm (gs.map (·.num)) → ss.mergeSort (fun x y => decide (x ≤ y)) = l.map (·.num)) := fun ss hs => rise_sorted hl hg hd hs
  have HI64 : Hid (∀ z ∈ l.map (·.num), i64ok z) := fun z hz => by
    rw [getV_isSome, hg, ← getV_isSome, ← hv.keys] at hz
    obtain ⟨q, hq, rfl⟩ := List.mem_map.1 hz
    exact (hv.ok (fun _ _ h => apart_vs h) q hq).1
  have HLK : Hid (∀ (i : Nat) (v : Val (M d)), l[i]? = some v → ∃ c : VS, c.n = v.num ∧ getOf v.num es = some c.val ∧ Apart n0 B w (fun W => ValAt (MsgAt d) W c.val v)) := fun i v hi => by
    obtain ⟨u, h1, h2⟩ := hv.getg (x := v.num) (by rw [← hg]; exact getV_mem hl (List.mem_of_getElem? hi))
    obtain ⟨-, c, rfl, hc⟩ := apart_vs h2
    exact ⟨c, hc, h1, h2⟩
  obtain ⟨n, HN⟩ : ∃ n, Hid (n = l.length) := ⟨_, rfl⟩
  have hnb : n ≤ 1073741824 := by rw [HN.out, hlen]; exact hn
  have HX1 := hid hr1
  have HB1 := hid hb1
  have HO1 := hid ho1
  have HZ1 := hid hz1
  have HMP := hid hm
  have HBS := hid hB
  have k0 := ho1.cell 0 _ rfl
  have k1 := ho1.cell 1 _ rfl
  have kl := ho1.lt
  clear hm hv hd hn hu hl hg hlen hb1 hB hr1 ho1 hz1 hmap1
  go_enter Tryz.func35, Tryz.ntmps35
  go_upto_region 2 with fail
  rw [← HW1.out, ← HX.out]
  go_wp2_with fail
  refine (maps_Keys (some r) W1).mono ?_
  rintro e w2 ⟨rfl, rfl⟩
  go_wp2_with fail
  refine HSK.out.mono ?_
  rintro e w3 ⟨v6, ss, rfl, hperm, hrow, hb3⟩
  rw [HRS.out ss hperm] at hrow
  have hsl : ss.length = n := by
    have h1 := congrArg List.length (HRS.out ss hperm)
    rw [List.length_mergeSort, List.length_map, ← HN.out] at h1
    exact h1
  have hI3 : IntsOwn w3 (W1.heap.size + 1) v6 (l.map (·.num)) := by
    unfold IntsOwn
    rw [List.length_map, ← HN.out, ← hsl]
    exact hrow
  have hb13 : Below W1.heap.size W1 w3 := ((Below.refl W1.heap.size W1).alloc (Nat.le_refl _) (.cells #[.map (some r)] 77)).trans (hb3.mono (by omega))
  obtain ⟨va, vc, rfl⟩ := hI3.form
  rw [List.length_map, ← HN.out] at hI3 ⊢
  have HKI : Hid (IntsAt w3 (.slice va n vc) (l.map (·.num))) := hI3.ints (by rw [List.length_map, ← HN.out]; omega) HI64.out
  have HB13 := hid hb13
  have HX3 := hid (HX1.out.below hb13)
  have HO3 : Hid (OutC (OfP d es) 52 4 0 27 (X + 1) [] [.slice ua un uc] w3 w3 (.slice none 0 0) []) := OutC.start (HO1.out.below hb13)
  have HB03 := hid (HB1.out.trans (hb13.mono HB1.out.size))
  have HR3 : Hid (X + 1 < w3.heap.size) := (HO1.out.below hb13).lt
  clear hperm hrow hb3 hI3 hb13 hsl HSK HRS k0 k1 kl
  go_wp2_with fail
  go_loopw [14] (fun v14 wr => ∃ (i : Nat) (oa : Option Addr) (oc : Nat), v14 = .int .i64 (i : Int) ∧ i ≤ n ∧ Hid (OutC (OfP d es) 52 4 0 27 (X + 1) [] [.slice ua un uc] w3 wr (.slice oa i oc) (l.take i))) (fun v14 _ => n - (intOf v14).toNat)
  case atStart => exact ⟨0, none, 0, rfl, by omega, HO3.out⟩
  case round =>
    obtain ⟨i, oa, oc, rfl, hi, HJ⟩ := hrel
    have hb3r := HJ.out.but
    have HB0r : Hid (Below w.heap.size w wr) := HB03.out.trans (hb3r.to_below (by rw [HX.out]; omega) HB03.out.size)
    by_cases hlt : i < n
    · obtain ⟨v, hv⟩ : ∃ v, l[i]? = some v := ⟨_, List.getElem?_eq_getElem (by rw [← HN.out]; exact hlt)⟩
      obtain ⟨c, hcn, hgo, hat⟩ := HLK.out i v hv
      obtain ⟨kb, ko, hva, hkc, hkb⟩ : ∃ kb ko, va = some ⟨kb, ko, none⟩ ∧ wr.cell? ⟨kb, ko + i, none⟩ = some (.int .i64 v.num) ∧ kb < wr.heap.size := by
        obtain ⟨-, a', c', e, -, hkat⟩ := HKI.out.open
        obtain ⟨-, b', o', h1, h2⟩ := hkat i v.num (by rw [List.getElem?_map, hv]; rfl)
        rw [List.length_map, ← HN.out] at e
        injection e with e1 e2 e3
        have hne : b' ≠ X + 1 := by
          rintro rfl
          have hb := HO1.out.below HB13.out
          unfold Blk at hb
          simp [World.cell?, hb] at h2
          generalize o' + i = q at h2
          match q, h2 with
          | 0, h2 => cases h2
          | 1, h2 => cases h2
        have hlt3 := World.block_lt_of_cell? w3 _ h2
        exact ⟨b', o', by rw [e1]; exact h1, (World.cell?_of_block (hb3r.block b' hlt3 hne)).trans h2, Nat.lt_of_lt_of_le hlt3 hb3r.size⟩
      have hixk := index_run1 Tryz.underlying100 size_intA hva i hlt (cap := vc)
      have hmr : MapIs wr r intK es := mapIs_laterV HMP.out HB0r.out
      have hlk := tv_lookup hmr v.num false
      rw [hgo] at hlk
      have hsl : (l.take i).length = i := by rw [List.length_take, ← HN.out]; omega
      have htk : l.take (i + 1) = l.take i ++ [v] := by rw [List.take_add_one, hv]; rfl
      obtain ⟨num, a1, n1, q1, a2, n2, q2, a3, n3, q3⟩ := c
      simp only at hcn
      have hgo2 := hgo
      simp only [VS.val, Option.getD_some, Bool.false_eq_true, if_false] at hlk hgo
      obtain ⟨a9, c9, w9, hr9, -, ⟨e5, z3, l9⟩, hO9⟩ := HJ.out.step (Below.refl _ _) (by decide) (Nat.zero_le _) hsl 24 _ 80 Tryz.underlying24 info_cval rfl #[.int .i64 num, .slice a1 n1 q1, .slice a2 n2 q2, .slice a3 n3 q3] rfl (by intro u hu; simp at hu; rcases hu with rfl | rfl | rfl | rfl <;> rfl) v (fun w' hw' => ⟨_, rfl, hgo2⟩) (by omega) (by decide) 0 rfl
      have HO9 : Hid (OutC (OfP d es) 52 4 0 27 (X + 1) [] [.slice ua un uc] w3 (w9.setCell ⟨X + 1, 0, none⟩ (.slice a9 (i + 1) c9)) (.slice a9 (i + 1) c9) (l.take (i + 1))) := by rw [Hid, htk]; exact hO9
      have o0 := HJ.out.cell 0 _ rfl
      have ol := HJ.out.lt
      rw [← hcn] at hkc hlk
      clear hcn hgo hgo2 hat hv hsl htk hO9 hva hmr hb3r HJ
      go_wp2_with (at_builtin; refine wpList_append_eq rfl _ _ _ rfl _ _ rfl rfl hr9 ?_)
      go_roundw
      case rel => exact ⟨i + 1, _, _, by go_num, hlt, HO9.out⟩
      case measure => simp [intOf]; omega
    · obtain rfl : i = n := by omega
      have hO := HJ.out
      rw [HN.out, List.take_length, ← HN.out] at hO
      have o0 := hO.cell 0 _ rfl
      have o1 := hO.cell 1 _ rfl
      have ol := hO.lt
      have hR : Blk wr X [.slice none 0 0, .slice none 0 0] 27 := (hb3r.block X (by have := HR3.out; omega) (by omega)).trans HX3.out
      have r0 := hR.cell 0 _ rfl
      have r1 := hR.cell 1 _ rfl
      have rl := hR.lt
      have f0 := hR.free 0
      have f1 := hR.free 1
      have s1 := hR.set 0 (.slice oa i oc)
      have s2 := s1.set 1 (.slice ua un uc)
      have r3 := s2.cell 0 _ rfl
      have r4 := s2.cell 1 _ rfl
      have HE : Hid (Q (.returned (.agg #[.slice oa i oc, .slice ua un uc])) ((wr.setCell ⟨X, 0, none⟩ (.slice oa i oc)).setCell ⟨X, 1, none⟩ (.slice ua un uc))) := by
        rw [HQ.out]
        have hB : Below w.heap.size w ((wr.setCell ⟨X, 0, none⟩ (.slice oa i oc)).setCell ⟨X, 1, none⟩ (.slice ua un uc)) := (HB0r.out.setCell (by rw [HX.out]; exact Nat.le_refl _) _).setCell (by rw [HX.out]; exact Nat.le_refl _) _
        refine ⟨_, rfl, hB, fun W hW => ?_⟩
        have hag : ∀ b, b < w.heap.size → (b < n0 ∨ B ≤ b) → W.heap[b]? = w.heap[b]? := fun b hlt hc => (hW b (Nat.lt_of_lt_of_le hlt hB.size) hc).trans (hB.block b hlt)
        refine ⟨_, _, rfl, ?_, HUU.out W hag⟩
        obtain ⟨rows, h1, h2, h3, h4⟩ := hO.at (by rw [← HN.out]; omega) (w' := W) fun b hb hc => by
          have hne : b ≠ X := by have := HR3.out; omega
          have h5 : w3.heap.size ≤ b := by omega
          rw [hW b (by simpa using hb) (.inr (by have := HR3.out; have := HBS.out; have := HX.out; omega)), Below.heap_setCell _ _ _ b hne, Below.heap_setCell _ _ _ b hne]
        refine ⟨rows, h1, h2, h3, fun j q v hq hv => ?_⟩
        obtain ⟨c, rfl, hc⟩ := h4 j q v hq hv
        obtain ⟨c', hc1, hc2, hc3⟩ := HLK.out j v hv
        rw [hc] at hc2
        injection hc2 with hc2
        have := hc3 W hag
        rw [← hc2] at this
        exact this
      clear hO hR s1 s2 HJ hb3r
      go_wp2_with fail
      refine bodyPost_ret (v := .agg #[.slice oa i oc, .slice ua un uc]) ?_ rfl HE.out
      simp [results, Tryz.results35, go_sem, r3, r4]
end Go.Proofs.YtbdeclkccchnoaaGreat
namespace Go.Proofs.YtbdeclkccchnoaaGreat
open Go.RowKit
set_option maxRecDepth 100000 in
set_option maxHeartbeats 4000000 in
theorem alg_field {w : World} {sv : Value} {s : List Mes} (hS : SchemaAt w sv s) {root : Nat} (hroot : root < s.length) (x : Int) {j : Nat} (hj : fieldAt (s.getD root .zero).fields x = j) (hl : j < (s.getD root .zero).fields.length) :
    Calls Tryz.prog 34 #[sv, .int .i64 (root : Int), .int .i64 x] w fun e w' => e = .returned ((s.getD root .zero).fields.getD j .zero).val ∧ Below w.heap.size w w' := by
  obtain ⟨hsl, sa, sc, rfl, hget⟩ := hS.open
  obtain ⟨b, o, fv, ha, -, m0, m1, hF⟩ := hget root hroot
  clear hget
  generalize (s.getD root .zero).fields = fs at *
  generalize (s.getD root .zero).name = nm at *
  obtain ⟨hfl, fa, fc, rfl, hfg⟩ := hF.open
  obtain ⟨b3, o3, ha3, -, f0, f1, f2, f3, f4, f5⟩ := hfg j hl
  generalize fs.getD j .zero = f at *
  obtain ⟨name, number, kind, rep, packed, of⟩ := f
  dsimp only at f0 f1 f2 f3 f4 f5
  have HF := hid hF
  have HJ := hid hj
  obtain ⟨fl, HFL⟩ : ∃ n, Hid (n = fs.length) := ⟨_, rfl⟩
  rw [← HFL.out] at HF hl m1
  have lb0 : b < w.heap.size := (World.block_lt_of_cell? w _ m0)
  have lb30 : b3 < w.heap.size := (World.block_lt_of_cell? w _ f0)
  have hix := index_run Tryz.underlying23 size_mes ha root hroot (cap := sc)
  have hix3 := index_run Tryz.underlying45 size_fld ha3 j hl (cap := fc)
  have HB1 : Hid (Below w.heap.size w (w.alloc (.cells #[.string ⟨#[]⟩, .int .i64 0, .int .i64 0, .bool false, .bool false, .int .i64 0] 44))) := (Below.refl _ _).alloc (Nat.le_refl _) _
  have HBN : Hid (∀ W : World, Below w.heap.size w W → Calls Tryz.prog 28 #[.agg #[.string nm, .slice fa fl fc], .int .i64 x] W fun e w' => e = .returned (.tuple #[.int .i64 j, .bool true]) ∧ Below W.heap.size W w') := by
    intro W hW
    have h := schema_ByNumber (HF.out.keep (below_keeps hW)) nm x
    rw [HJ.out, if_pos (by omega), decide_eq_true (show (0 : Int) ≤ j by omega)] at h
    exact h
  clear hS hj hfg ha ha3 hF hfl
  go_enter Tryz.func34, Tryz.ntmps34
  go_wp2_with fail
  refine (HBN.out _ HB1.out).mono ?_
  rintro e w2 ⟨rfl, hb2⟩
  have HB2 := hid (HB1.out.trans (hb2.mono HB1.out.size))
  have HR := hid ((Blk.new w [.string ⟨#[]⟩, .int .i64 0, .int .i64 0, .bool false, .bool false, .int .i64 0] 44).below hb2)
  clear hb2 lb0 lb30
  have hk := below_keeps HB2.out
  replace m0 := hk _ _ m0
  replace m1 := hk _ _ m1
  replace f0 := hk _ _ f0
  replace f1 := hk _ _ f1
  replace f2 := hk _ _ f2
  replace f3 := hk _ _ f3
  replace f4 := hk _ _ f4
  replace f5 := hk _ _ f5
  have lb : b < w2.heap.size := World.block_lt_of_cell? w2 _ m0
  have lb3 : b3 < w2.heap.size := World.block_lt_of_cell? w2 _ f0
  have hrl := HR.out.lt
  have r0 := HR.out.cell 0 _ rfl
  have r1 := HR.out.cell 1 _ rfl
  have r2 := HR.out.cell 2 _ rfl
  have r3 := HR.out.cell 3 _ rfl
  have r4 := HR.out.cell 4 _ rfl
  have r5 := HR.out.cell 5 _ rfl
  have z0 := HR.out.free 0
  have z1 := HR.out.free 1
  have z2 := HR.out.free 2
  have z3 := HR.out.free 3
  have z4 := HR.out.free 4
  have z5 := HR.out.free 5
  clear hk
  go_wp2_with fail
  have HBK := (((((HR.out.set 0 (.string name)).set 1 (.int .i64 number)).set 2 (.int .i64 kind)).set 3 (.bool rep)).set 4 (.bool packed)).set 5 (.int .i64 of)
  have q0 := HBK.cell 0 _ rfl
  have q1 := HBK.cell 1 _ rfl
  have q2 := HBK.cell 2 _ rfl
  have q3 := HBK.cell 3 _ rfl
  have q4 := HBK.cell 4 _ rfl
  have q5 := HBK.cell 5 _ rfl
  refine bodyPost_ret (v := .agg #[.string name, .int .i64 number, .int .i64 kind, .bool rep, .bool packed, .int .i64 of]) ?_ rfl ⟨rfl, (((((HB2.out.setCell (Nat.le_refl _) _).setCell (Nat.le_refl _) _).setCell (Nat.le_refl _) _).setCell (Nat.le_refl _) _).setCell (Nat.le_refl _) _).setCell (Nat.le_refl _) _⟩
  simp [results, Tryz.results34, go_sem, q0, q1, q2, q3, q4, q5]
end Go.Proofs.YtbdeclkccchnoaaGreat
