/- slices.SortFunc of ways by slices.Compare: the ways in their order. The list is not empty. mask.Of: the mask of ways (mOf). At most 2^40 ways, each of at most 2^44 numbers. Mask.Whole, Mask.right, Mask.Under, darningref13.Under; slices.EqualFunc of ways. At most 2^40 ways, each of at most 2^44 numbers. -/
import Derived.Test.YtaefpjecalnbcaaGreatShelf
import Derived.Test.YtaefpjecalnbcaaGreatZ10
import Derived.Test.YtaefpjecalnbcaaGreatZ25
import Derived.Deep.RegionHeld3
namespace Go.Proofs.YtaefpjecalnbcaaGreat
open Go.RowKit Go.Sort Go.Shelf
/-- what leaves w's old blocks as they were -/
theorem below_sortWorld {α : Type} [Inhabited α] (enc : α → Value) {H blk off m : Nat} {w0 w : World} (hb : Go.RowKit.Below H w0 w) (hg : H ≤ blk) (hH : H ≤ w.heap.size) (dk : Array α) (os : Array Obj) :
    Go.RowKit.Below H w0 (sortWorld enc w blk off m dk os) := by
  refine ⟨hb.os, hb.tape, hb.output, ?_, fun k hk => ?_⟩
  · refine Nat.le_trans hb.size ?_
    rw [sortWorld, size_grow, size_putRow]
    exact Nat.le_add_right _ _
  · rw [sortWorld, heap_grow_old _ _ (by rw [size_putRow]; exact Nat.lt_of_lt_of_le hk hH)]
    refine Eq.trans ?_ (hb.block k hk)
    rw [putRow, mapBlock]
    show (w.heap.modify blk _)[k]? = _
    rw [Array.getElem?_modify, if_neg (by omega)]
/-- a way's value, and the way -/
def WV (w : World) : Type := { p : Value × List Int // IntsAt w p.1 p.2 }
def WV.val {w : World} (p : WV w) : Value := p.1.1
def WV.way {w : World} (p : WV w) : List Int := p.1.2
def WV.mk {w : World} (v : Value) (x : List Int) (h : IntsAt w v x) : WV w := ⟨(v, x), h⟩
theorem WV.way_mk {w : World} (v : Value) (x : List Int) (h : IntsAt w v x) : (WV.mk v x h).way = x := rfl
theorem WV.val_mk {w : World} (v : Value) (x : List Int) (h : IntsAt w v x) : (WV.mk v x h).val = v := rfl
theorem WV.one {w : World} (p : WV w) : (WV.val p).oneCell' = true := by
  obtain ⟨-, a, c, h, -⟩ := p.2.open
  unfold WV.val
  rw [h]; rfl
theorem ltW_ntrans (a b c : List Int) (h1 : ltW a b = false) (h2 : ltW b c = false) : ltW a c = false := by
  cases h : ltW a c with
  | false => rfl
  | true =>
    cases hba : ltW b a with
    | true => rw [ltW_trans b a c hba h] at h2; cases h2
    | false =>
      have e := ltW_total a b h1 hba
      subst e
      rw [h] at h2; cases h2
def cmpWV {w : World} (x y : WV w) : Int := cmpW x.way y.way
theorem ltOf_cmpWV {w : World} (x y : WV w) : ltOf (cmpWV (w := w)) x y = ltW x.way y.way := cmpW_lt _ _
theorem swo_WV (w : World) : SWO (ltOf (cmpWV (w := w))) where
  irrefl x := by rw [ltOf_cmpWV]; exact ltW_irrefl _
  trans x y z h1 h2 := by rw [ltOf_cmpWV] at *; exact ltW_trans _ _ _ h1 h2
  ntrans x y z h1 h2 := by rw [ltOf_cmpWV] at *; exact ltW_ntrans _ _ _ h1 h2
theorem pairwise_of_get {α : Type} [Inhabited α] {R : α → α → Prop} (l : List α) (h : ∀ i j, i < j → j < l.length → R l.toArray[i]! l.toArray[j]!) : l.Pairwise R := by
  rw [List.pairwise_iff_getElem]
  intro i j hi hj hij
  have := h i j hij hj
  rwa [getElem!_pos l.toArray i (by simpa using hi), getElem!_pos l.toArray j (by simpa using hj)] at this
set_option maxHeartbeats 1000000 in
theorem sort_ways {w0 w : World} {base : Nat} {v : Value} (ps : List (WV w0)) (hne : ps ≠ []) (hO : WaysRow w base v (ps.map WV.val)) (hbase : w0.heap.size ≤ base) (hb : Go.RowKit.Below w0.heap.size w0 w) (hlen : ps.length ≤ 1099511627776) :
    Calls Tryz.prog 48 #[v, .func (.func 49) #[] #[]] w fun e w' => e = .returned (.tuple #[]) ∧
      ∃ ps' : List (WV w0), ps'.Perm ps ∧ (ps'.map WV.way).Pairwise (fun a b => ltW b a = false) ∧ Seg w' v 1 ps'.length (ps'.map WV.val) ∧ Go.RowKit.Below w0.heap.size w0 w' := by
  haveI : Inhabited (WV w0) := ⟨ps.head hne⟩
  have hpos : 0 < ps.length := List.length_pos_iff.2 hne
  obtain ⟨h1, hx⟩ := hO
  rcases hx with ⟨-, h2⟩ | ⟨g, cap, cur, rfl, hg, hc, hnc, hcm, hcs, ht⟩
  · simp at h2; exact absurd h2 hne
  have hcell : ∀ j (x : WV w0), ps[j]? = some x → w.cell? ⟨g, j, none⟩ = some x.val := by
    intro j x hj
    rw [cell_of_row _ _ _ cur _ (0, 0) hc]
    have hjl : j < ps.length := (List.getElem?_eq_some_iff.1 hj).1
    have e : (cur.toList.take ((ps.map WV.val).length * 1))[j]? = (ps.map WV.val)[j]? := by rw [ht]
    rw [List.getElem?_take, if_pos (by simpa using hjl)] at e
    rw [← Array.getElem?_toList, e]
    simp [hj]
  have hget : ∀ j, j < ps.length → ps[j]? = some ps.toArray[j]! := fun j hj => by
    rw [getElem!_pos ps.toArray j (by simpa using hj), List.getElem?_eq_getElem hj]; simp
  have hH : Holds WV.val w g 0 ps.toArray := fun j hj => by
    have hj' : j < ps.length := by simpa using hj
    rw [Nat.zero_add]
    refine ⟨hcell j _ (hget j hj'), ?_⟩
    unfold World.frozen?
    rw [hc]; simp
  have hgl : g < w.heap.size := (Array.getElem?_eq_some_iff.1 hc).1
  have hH0 : w0.heap.size ≤ w.heap.size := hb.size
  have key := Any.slices_SortFunc Tryz.laysSF WV.val WV.one (cmpWV (w := w0)) (swo_WV w0) 49 #[] g 0 cap ps.toArray w (fun args w => by simp [go_sem])
    (fun m os dk _ x y => (compare_ints ((x.2).keep (below_keeps (below_sortWorld WV.val hb (Nat.le_trans hbase hg) hH0 dk os))) ((y.2).keep (below_keeps (below_sortWorld WV.val hb (Nat.le_trans hbase hg) hH0 dk os)))).mono
      fun e w' ⟨he, hw⟩ => ⟨he, 0, #[], by rw [hw, grow_empty]; rfl⟩)
    hH hgl (by simp; omega)
  have key2 : Calls Tryz.prog 48 #[.slice (some ⟨g, 0, none⟩) ps.length cap, .func (.func 49) #[] #[]] w _ := key
  rw [List.length_map]
  refine key2.mono ?_
  rintro e w' ⟨rfl, d', n, os, hp, hs, rfl⟩
  obtain ⟨hp1, -, hp3⟩ := hp
  have hsz : d'.toList.length = ps.length := by simpa using hp1
  have hd : d' = d'.toList.toArray := by simp
  refine ⟨rfl, d'.toList, ?_, ?_, ⟨by simp, by rw [hsz]; omega, some ⟨g, 0, none⟩, cap, by rw [hsz], by rw [hsz]; simpa using hnc, by unfold maxLen at hcm; omega, by simp, fun j u hu => ⟨g, 0, rfl, ?_⟩⟩, below_sortWorld WV.val hb (Nat.le_trans hbase hg) hH0 d' os⟩
  · have e1 : (d'.extract 0 ps.toArray.size).toList = d'.toList := by
      rw [Array.toList_extract]; simp [← hsz]; exact List.take_of_length_le (by simp)
    have e2 : (ps.toArray.extract 0 ps.toArray.size).toList = ps := by simp
    rwa [e1, e2] at hp3
  · rw [List.pairwise_map]
    refine pairwise_of_get _ fun i j hij hj => ?_
    have := hs i j (Nat.zero_le _) hij (by simpa [hsz] using hj)
    rw [ltOf_cmpWV] at this
    simpa using this
  · have hj : j < d'.size := by
      have := (List.getElem?_eq_some_iff.1 hu).1
      simpa using this
    have hh := holds_sortWorld WV.val w g 0 n ps.toArray d' os hgl hH (by simpa using hp1) j hj
    rw [hh.1]
    rw [List.getElem?_map] at hu
    rw [← hu, getElem!_pos d' j hj]
    simp [hj]
set_option maxRecDepth 100000 in
set_option maxHeartbeats 4000000 in
theorem insert_none (a : Option Addr) (c : Nat) (fv : Value) (w : World) :
    Calls Tryz.prog 107 #[.slice a 0 c, .int .i64 0, .int .i64 0, fv] w fun e w' => e = .returned (.tuple #[]) ∧ w = w' := by
  go_enter Tryz.func107, Tryz.ntmps107
  go_wp2
  refine wp_loop_rounds 1 ?_
  rw [rounds_succ]
  go_wp2
  go_end0
  exact ⟨rfl, rfl⟩
set_option maxRecDepth 100000 in
set_option maxHeartbeats 4000000 in
theorem pdq_none (a : Option Addr) (c : Nat) (lim : Int) (fv : Value) (w : World) :
    Calls Tryz.prog 74 #[.slice a 0 c, .int .i64 0, .int .i64 0, .int .i64 lim, fv] w fun e w' => e = .returned (.tuple #[]) ∧ w = w' := by
  go_enter Tryz.func74, Tryz.ntmps74
  go_wp2
  refine wp_loop_rounds 1 ?_
  rw [rounds_succ]
  go_wp2_with (go_at_call 107; refine (insert_none _ _ _ _).mono ?_; rintro e w' ⟨rfl, rfl⟩)
  (try simp only [Exit.inBlock, Exit.then]); refine bodyPost_ret (results_none rfl _ _ _) rfl ?_
  exact ⟨rfl, rfl⟩
set_option maxRecDepth 100000 in
set_option maxHeartbeats 4000000 in
theorem sort_none (a : Option Addr) (c : Nat) (F : Nat) (w : World) :
    Calls Tryz.prog 48 #[.slice a 0 c, .func (.func F) #[] #[]] w fun e w' => e = .returned (.tuple #[]) ∧ w = w' := by
  go_enter Tryz.func48, Tryz.ntmps48
  go_wp2_with (first | (go_at_call 75; refine (Tryz.bits_Len 0 _ (by omega) (by omega)).mono ?_; rintro e w' ⟨rfl, rfl⟩) | (go_at_call 74; refine (pdq_none _ _ _ _ _).mono ?_; rintro e w' ⟨rfl, rfl⟩))
  go_end0
  exact ⟨rfl, rfl⟩
/-- .. whatever the list -/
theorem sort_ways_any {w0 w : World} {base : Nat} {v : Value} (ps : List (WV w0)) (hO : WaysRow w base v (ps.map WV.val)) (hbase : w0.heap.size ≤ base) (hb : Go.RowKit.Below w0.heap.size w0 w) (hlen : ps.length ≤ 1099511627776) :
    Calls Tryz.prog 48 #[v, .func (.func 49) #[] #[]] w fun e w' => e = .returned (.tuple #[]) ∧
      ∃ ps' : List (WV w0), ps'.Perm ps ∧ (ps'.map WV.way).Pairwise (fun a b => ltW b a = false) ∧ Seg w' v 1 ps'.length (ps'.map WV.val) ∧ Go.RowKit.Below w0.heap.size w0 w' := by
  by_cases hne : ps = []
  · subst hne
    have hs := row_seg hO (by simp)
    obtain ⟨-, -, a, c, rfl, -⟩ := hs
    refine (sort_none a c _ w).mono ?_
    rintro e w' ⟨rfl, rfl⟩
    exact ⟨rfl, [], List.Perm.refl _, by simp, row_seg hO (by simp), hb⟩
  · exact sort_ways ps hne hO hbase hb hlen
end Go.Proofs.YtaefpjecalnbcaaGreat
namespace Go.Proofs.YtaefpjecalnbcaaGreat
open Go.RowKit
theorem pairs_of {w : World} : ∀ (rows : List (List Value)) (ls : List (List Int)), rows.length = ls.length → (∀ (i : Nat) (r : List Value) (x : List Int), rows[i]? = some r → ls[i]? = some x → WayP w r x) →
    ∃ ps : List (WV w), ps.map WV.way = ls ∧ ps.map WV.val = rows.flatten
  | [], [], _, _ => ⟨[], rfl, rfl⟩
  | [], _ :: _, h, _ => by simp at h
  | _ :: _, [], h, _ => by simp at h
  | r :: rows, x :: ls, h, hp => by
    obtain ⟨v, rfl, hI⟩ := hp 0 r x rfl rfl
    obtain ⟨ps, h1, h2⟩ := pairs_of rows ls (by simpa using h) fun i r x hr hx => hp (i + 1) r x (by simpa using hr) (by simpa using hx)
    exact ⟨WV.mk v x hI :: ps, by rw [List.map_cons, h1, WV.way_mk], by rw [List.map_cons, h2, WV.val_mk]; rfl⟩
theorem WaysAt.pairs {w : World} {v : Value} {ls : List (List Int)} (h : WaysAt w v ls) : ∃ ps : List (WV w), ps.map WV.way = ls ∧ Seg w v 1 ps.length (ps.map WV.val) := by
  obtain ⟨rows, h1, -, h3, h4⟩ := h
  obtain ⟨ps, e1, e2⟩ := pairs_of rows ls h1 h4
  have e3 : ps.length = ls.length := by rw [← e1, List.length_map]
  exact ⟨ps, e1, by rw [e2, e3]; exact h3⟩
theorem wv_vals_one {w : World} (ps : List (WV w)) : ∀ u ∈ ps.map WV.val, u.oneCell' = true := by
  intro u hu
  obtain ⟨p, -, rfl⟩ := List.mem_map.1 hu
  exact p.one
/-- what a walk wants of the values in their row -/
theorem seg_wv {w0 w : World} {v : Value} {ps : List (WV w0)} (h : Seg w v 1 ps.length (ps.map WV.val)) : ∃ a cap, v = .slice a ps.length cap ∧ ∀ k (p : WV w0), ps[k]? = some p → ∃ b o a2 c2, a = some ⟨b, o, none⟩ ∧ w.cell? ⟨b, o + k, none⟩ = some (.slice a2 p.way.length c2) ∧ IntsAt w0 (.slice a2 p.way.length c2) p.way := by
  obtain ⟨-, -, a, cap, hv, -, -, -, hc⟩ := h
  refine ⟨a, cap, hv, fun k p hk => ?_⟩
  obtain ⟨b, o, ha, hcell⟩ := hc k p.val (by simp [hk])
  have hI := p.2
  have hI' := hI
  obtain ⟨-, a2, c2, hv2, -, -⟩ := hI'.open
  refine ⟨b, o, a2, c2, ha, ?_, ?_⟩
  · rw [hcell]; exact congrArg some hv2
  · show IntsAt w0 (.slice a2 p.1.2.length c2) p.1.2
    rw [← hv2]; exact hI
/-- one step of the sieve -/
theorem sieve_skip {o : List (List Int)} {w : List Int} {r : List (List Int)} (h : w = [] ∨ (∃ u, o.getLast? = some u ∧ u <+: w)) : sieveW o (w :: r) = sieveW o r := by rw [sieveW, if_pos h]
theorem sieve_take {o : List (List Int)} {w : List Int} {r : List (List Int)} (h : ¬ (w = [] ∨ (∃ u, o.getLast? = some u ∧ u <+: w))) : sieveW o (w :: r) = sieveW (o ++ [w]) r := by rw [sieveW, if_neg h]
theorem ints_one {w : World} {base : Nat} {v : Value} {l : List Int} (h : IntsOwn w base v l) : v.oneCell' = true := by
  obtain ⟨a, c, rfl⟩ := h.form
  rfl
theorem IntsOwn.apart {w : World} {n0 base : Nat} {v : Value} {l : List Int} (h : IntsOwn w base v l) (hn : l.length ≤ 140737488355328) (hl : ∀ x ∈ l, i64ok x) : Apart n0 base w (fun w' => WayP w' [v] l) := fun _ hw' =>
  ⟨v, rfl, IntsOwn.ints (row_keep h fun b _ hb he => hw' b (Array.getElem?_eq_some_iff.1 he).1 (.inr hb)) hn hl⟩
/-- the ways' lengths are in reach -/
def LightW (ls : List (List Int)) : Prop := ls.length ≤ 1099511627776 ∧ ∀ l ∈ ls, l.length ≤ 17592186044416
/-- ways that lie in what was laid since w -/
def NewWays (w w' : World) (v : Value) (o : List (List Int)) : Prop := o.length ≤ 1099511627776 ∧ ∃ base, w.heap.size ≤ base ∧ RowsOwn WayP 68 1 0 base w' v o
theorem NewWays.here {w w' : World} {v : Value} {o : List (List Int)} (h : NewWays w w' v o) : WaysAt w' v o := by
  obtain ⟨hl, base, -, h⟩ := h
  exact h.at (by omega) fun _ _ _ => rfl
/-- .. a store into what was there before, new blocks -/
theorem NewWays.later {w0 w w' w2 : World} {v : Value} {o : List (List Int)} (h : NewWays w w' v o) (h0 : w0.heap.size ≤ w.heap.size) (hs : w'.heap.size ≤ w2.heap.size) (hw : ∀ b, w.heap.size ≤ b → b < w'.heap.size → w2.heap[b]? = w'.heap[b]?) : NewWays w0 w2 v o := by
  obtain ⟨hl, base, hb, h⟩ := h
  refine ⟨hl, base, Nat.le_trans h0 hb, h.later (fun b h1 h2 => hw b (by omega) h1) hs⟩
/-- one of the ways: its value, and that it stays where the new blocks stay -/
theorem NewWays.elem {w w' : World} {v : Value} {o : List (List Int)} (h : NewWays w w' v o) {k : Nat} {x : List Int} (hk : o[k]? = some x) : ∃ b q a c, (v = .slice (some ⟨b, q, none⟩) o.length (match v with | .slice _ _ c => c | _ => 0)) ∧ w'.cell? ⟨b, q + k, none⟩ = some (.slice a x.length c) ∧ w.heap.size ≤ b ∧ b < w'.heap.size ∧
    ∀ W, (∀ b, w.heap.size ≤ b → b < w'.heap.size → W.heap[b]? = w'.heap[b]?) → IntsAt W (.slice a x.length c) x := by
  have hh := h.here
  obtain ⟨hl, base, hb, rows, h1, h2, h3, h4⟩ := h
  have hkl : k < o.length := (List.getElem?_eq_some_iff.1 hk).1
  have hr : rows[k]? = some (rows[k]'(by omega)) := List.getElem?_eq_getElem (by omega)
  generalize rows[k]'(by omega) = r at hr
  obtain ⟨y, rfl, hI⟩ := h4 w' (fun _ _ _ _ => rfl) k r x hr hk
  have hI' := hI
  obtain ⟨-, a, c, rfl, -, -⟩ := hI'.open
  have hflat := flatten_get rows k 0 _ h2 hr (by decide)
  rcases h3.2 with ⟨rfl, h0⟩ | ⟨g, cap, cur, rfl, hg, hc, hnc, hcm, hcs, ht⟩
  · omega
  · refine ⟨g, 0, a, c, rfl, ?_, by omega, (Array.getElem?_eq_some_iff.1 hc).1, fun W hW => ?_⟩
    · have := World.ownsRow.cells h3 (g := g) rfl k _ (by simpa using hflat)
      rwa [addr_add] at this
    · obtain ⟨y, e, hI2⟩ := h4 W (fun b h5 _ h6 => hW b (by omega) h5) k _ x hr hk
      cases e
      exact hI2
def MaskPost (w : World) (o : List (List Int)) (e : Ending) (w' : World) : Prop := ∃ v', e = .returned (maskV v') ∧ NewWays w w' v' o ∧ Below w.heap.size w w'
set_option maxRecDepth 100000 in
set_option maxHeartbeats 4000000 in
theorem mask_Of {w : World} {v : Value} {ls : List (List Int)} (h : WaysAt w v ls) (hL : LightW ls) :
    Calls Tryz.prog 23 #[v] w (MaskPost w (mOf ls)) := by
  have hA : Below w.heap.size w (w.alloc (.cells #[.slice none 0 0] 41)) := (Below.refl _ _).alloc (Nat.le_refl _) _
  obtain ⟨wA, HA⟩ : ∃ wA, Hid (wA = w.alloc (.cells #[.slice none 0 0] 41)) := ⟨_, rfl⟩
  have HBX : Hid (Blk wA w.heap.size [.slice none 0 0] 41) := by rw [HA.out]; exact Blk.new w [.slice none 0 0] _
  rw [← HA.out] at hA
  have HSZ : Hid (wA.heap.size = w.heap.size + 1) := by rw [HA.out]; simp [Hid]
  obtain ⟨ps, e1, hseg⟩ := (h.below hA).pairs
  have HWA := hid hA
  have HL := hid hL
  have hpl : ps.length = ls.length := by rw [← e1, List.length_map]
  have HCL := hid (clone_ways (w := wA) (vs := ps.map WV.val) (by rw [List.length_map]; exact hseg) (wv_vals_one ps) (by rw [List.length_map, hpl]; exact hL.1))
  obtain ⟨-, a, c, rfl, -, -⟩ := h.open
  obtain ⟨n, HN⟩ : ∃ n, Hid (n = ls.length) := ⟨_, rfl⟩
  rw [← HN.out] at HCL ⊢
  obtain ⟨Q, HQ⟩ : ∃ Q : Ending → World → Prop, Hid (Q = MaskPost w (mOf ls)) := ⟨_, rfl⟩
  rw [← HQ.out]
  have HE := hid e1
  have HPL := hid hpl
  clear h hA hL e1 hseg hpl
  go_enter Tryz.func23, Tryz.ntmps23
  go_wp2_with fail
  rw [← HA.out]
  refine HCL.out.mono ?_
  rintro e w1 ⟨v1, rfl, hO, hB1⟩
  have HSORT := hid (sort_ways_any ps hO (Nat.le_refl _) hB1 (by rw [HPL.out]; exact HL.out.1))
  have HB1 := hid hB1
  have hv1 := row_seg hO (by rw [List.length_map, HPL.out]; have := HL.out.1; omega)
  obtain ⟨-, -, a1, c1, rfl, -⟩ := hv1
  have hvn : (ps.map WV.val).length = n := by rw [List.length_map, HPL.out, HN.out]
  rw [hvn] at HSORT ⊢
  clear hO hB1 hvn
  go_wp2_with fail
  refine HSORT.out.mono ?_
  rintro e w2 ⟨rfl, ps', hperm, hpw, hseg, hB2⟩
  have hps : ps'.length = n := by rw [hperm.length_eq, HPL.out, HN.out]
  rw [hps] at hseg
  have HSEG := hid hseg
  obtain ⟨s, HS⟩ : ∃ s, Hid (s = ps'.map WV.way) := ⟨_, rfl⟩
  have HGET : Hid (∀ k (x : List Int), s[k]? = some x → ∃ b o a2 c2, a1 = some ⟨b, o, none⟩ ∧ w2.cell? ⟨b, o + k, none⟩ = some (.slice a2 x.length c2) ∧ IntsAt wA (.slice a2 x.length c2) x ∧ x.length ≤ 17592186044416) := by
    obtain ⟨a3, c3, hv3, hc3⟩ := seg_wv (ps := ps') (by rw [hps]; exact hseg)
    cases hv3
    intro k x hx
    rw [HS.out, List.getElem?_map] at hx
    obtain ⟨p, hp, rfl⟩ := Option.map_eq_some_iff.1 hx
    obtain ⟨b, o, a2, c2, h1, h2, h3⟩ := hc3 k p hp
    refine ⟨b, o, a2, c2, h1, h2, h3, HL.out.2 _ ?_⟩
    rw [← HE.out]
    exact List.mem_map.2 ⟨p, (hperm.mem_iff).1 (List.mem_of_getElem? hp), rfl⟩
  have HSN : Hid (n = s.length) := by rw [Hid, HS.out, List.length_map, hps]
  have HM : Hid (sieveW [] s = mOf ls) := by
    refine sieve_rOf (fun x => ?_) (by rw [HS.out]; exact hpw)
    rw [HS.out, ← HE.out]
    exact (hperm.map WV.way).mem_iff
  have HB2 := hid hB2
  have HW2 : Hid (w.heap.size ≤ w2.heap.size) := by have := hB2.size; have := HSZ.out; show _ ≤ _; omega
  have HNL : Hid (n ≤ 1099511627776) := by rw [Hid, HN.out]; exact HL.out.1
  have hn := HNL.out
  clear hperm hpw hseg hB2 hps HSORT HCL
  go_wp2_with fail
  go_loopw [4, 13] (fun v4 v13 wr => ∃ (k : Nat) (o : List (List Int)), v13 = .int .i64 k ∧ k ≤ n ∧ Hid (RowsOwn WayP 68 1 0 w2.heap.size wr v4 o ∧ o.length ≤ k ∧ sieveW o (s.drop k) = mOf ls ∧ Below w2.heap.size w2 wr)) (fun _ v13 _ => n - (intOf v13).toNat)
  case atStart => exact ⟨0, [], rfl, by omega, RowsOwn.nil _ _ _ _ _ _, by simp, HM.out, Below.refl _ _⟩
  case round =>
    obtain ⟨k, o, rfl, hk, HI⟩ := hrel
    have hOF := HI.out.1.form
    obtain ⟨oa, oc, hoe⟩ := hOF
    obtain ⟨j, HJ⟩ : ∃ j, Hid (j = o.length) := ⟨_, rfl⟩
    rw [← HJ.out] at hoe
    subst hoe
    have hjk : j ≤ k := by rw [HJ.out]; exact HI.out.2.1
    by_cases hlt : k < n
    · obtain ⟨x, hx⟩ := way_get HSN.out hlt
      obtain ⟨b, q, xa, xc, ha, g0, hX, hxl⟩ := HGET.out k x hx
      replace g0 := below_keeps HI.out.2.2.2 _ _ g0
      have HXW := hid ((hX.below HB2.out).below HI.out.2.2.2)
      have HXL := hid hxl
      have hix := index_run1 Tryz.underlying28 size_ints ha k hlt (cap := c1)
      have HD := hid (drop_at hx)
      obtain ⟨m, HMM⟩ : ∃ m, Hid (m = x.length) := ⟨_, rfl⟩
      rw [← HMM.out] at g0 HXW
      have HX64 := hid hX.2
      clear hx hX ha hxl
      by_cases hm : m = 0
      · subst hm
        have HSK := hid (sieve_skip (o := o) (w := x) (r := s.drop (k + 1)) (.inl (List.length_eq_zero_iff.1 HMM.out.symm)))
        go_wp2_with fail
        go_roundw
        case rel => exact ⟨k + 1, o, by go_num, hlt, HI.out.1, by have := HI.out.2.1; omega, by rw [← HSK.out, ← HD.out]; exact HI.out.2.2.1, HI.out.2.2.2⟩
        case measure => simp [intOf]; omega
      · have HXN : Hid (x ≠ []) := fun e => hm (by rw [HMM.out, e]; rfl)
        have e1 : ((m : Int) == 0) = false := by simp; omega
        have e2 : (m == 0) = false := by simp; omega
        have e3 : decide ((m : Int) = 0) = false := by simp; omega
        by_cases hj : j = 0
        · subst hj
          have HO0 : Hid (o = []) := List.length_eq_zero_iff.1 HJ.out.symm
          have HTK := hid (sieve_take (o := o) (w := x) (r := s.drop (k + 1)) (by rw [HO0.out]; simp; exact HXN.out))
          go_wp2_with fail
          have hcl := clone_ints (HXW.out) HXL.out
          refine hcl.mono ?_
          clear hcl
          rintro e w4 ⟨v5, rfl, hO5, hB5⟩
          obtain ⟨a5, c5, hv5⟩ := hO5.form
          rw [← HMM.out] at hv5
          subst hv5
          obtain ⟨a', c', w6, hr, hO6, hB6, hB7⟩ := (HI.out.1).step hB5 (by decide) (Nat.zero_le _) HI.out.2.2.2.size HJ.out.symm (G := Tryz.prog) 28 (.slice none 0 0) 24 under_ways info_ints rfl #[.slice a5 m c5] rfl (by intro u hu; simp at hu; subst hu; exact ints_one hO5) x (hO5.apart (by have := HXL.out; omega) HX64.out) (by have := HNL.out; omega) (by decide)
          have HO6 := hid hO6
          have HB7 := hid hB7
          clear hO5 hB5 hO6 hB6 hB7
          go_wp2_with (at_builtin; refine wpList_append_eq rfl _ _ _ rfl _ _ rfl rfl hr ?_)
          go_roundw
          case rel => exact ⟨k + 1, o ++ [x], by go_num, hlt, HO6.out, by rw [List.length_append]; have := HI.out.2.1; simp; omega, by rw [← HTK.out, ← HD.out]; exact HI.out.2.2.1, HI.out.2.2.2.trans HB7.out⟩
          case measure => simp [intOf]; omega
        · have hj0 : 0 < j := by omega
          obtain ⟨u, HU⟩ : ∃ u, Hid (o[j - 1]? = some u) := way_get HJ.out (by omega)
          have HLAST : Hid (o.getLast? = some u) := by rw [Hid, List.getLast?_eq_getElem?, ← HJ.out]; exact HU.out
          have hWA := RowsOwn.at HI.out.1 (by have := HI.out.2.1; have := HNL.out; omega) (w' := wr) (fun _ _ _ => rfl)
          obtain ⟨-, oa', oc', hoe, -, hoat⟩ := WaysAt.open hWA
          rw [← HJ.out] at hoe
          cases hoe
          obtain ⟨b2, q2, ua, uc, ha2, g2, hU⟩ := hoat (j - 1) u HU.out
          have hix2 := index_run1 Tryz.underlying28 size_ints ha2 (j - 1) (by omega : j - 1 < j) (cap := oc)
          rw [show ((j - 1 : Nat) : Int) = (j : Int) - 1 by omega] at hix2
          have HUW := hid hU
          obtain ⟨um, HUM⟩ : ∃ um, Hid (um = u.length) := ⟨_, rfl⟩
          rw [← HUM.out] at g2 HUW
          have hBEG := mask_begins HXW.out HUW.out
          obtain ⟨y, HY⟩ : ∃ y, Hid (y = beginsW x u) := ⟨_, rfl⟩
          rw [← HY.out] at hBEG
          have HBEG := hid hBEG
          clear hBEG hWA hoat ha2 hU
          cases y with
          | true =>
            have HSK := hid (sieve_skip (o := o) (w := x) (r := s.drop (k + 1)) (.inr ⟨u, HLAST.out, (beginsW_iff _ _).1 HY.out.symm⟩))
            go_wp2_with (go_at_call 50; refine HBEG.out.mono ?_; rintro e w' ⟨rfl, hd⟩; have HDW := hid hd.below; clear hd)
            go_roundw
            case rel => exact ⟨k + 1, o, by go_num, hlt, HI.out.1.below HDW.out, by have := HI.out.2.1; omega, by rw [← HSK.out, ← HD.out]; exact HI.out.2.2.1, below_step HI.out.2.2.2 HDW.out HI.out.2.2.2.size⟩
            case measure => simp [intOf]; omega
          | false =>
            have HTK := hid (sieve_take (o := o) (w := x) (r := s.drop (k + 1)) (by rintro (e | ⟨u2, e, hp⟩); exact HXN.out e; rw [HLAST.out] at e; cases e; have := (beginsW_iff x u).2 hp; rw [← HY.out] at this; cases this))
            go_wp2_with (go_at_call 50; refine HBEG.out.mono ?_; rintro e w3 ⟨rfl, hd⟩; have HDW := hid hd.below; clear hd)
            have hcl := clone_ints (HXW.out.below HDW.out) HXL.out
            refine hcl.mono ?_
            clear hcl
            rintro e w4 ⟨v5, rfl, hO5, hB5⟩
            obtain ⟨a5, c5, hv5⟩ := hO5.form
            rw [← HMM.out] at hv5
            subst hv5
            obtain ⟨a', c', w6, hr, hO6, hB6, hB7⟩ := (HI.out.1.below HDW.out).step hB5 (by decide) (Nat.zero_le _) (Nat.le_trans HI.out.2.2.2.size HDW.out.size) HJ.out.symm (G := Tryz.prog) 28 (.slice none 0 0) 24 under_ways info_ints rfl #[.slice a5 m c5] rfl (by intro u hu; simp at hu; subst hu; exact ints_one hO5) x (hO5.apart (by have := HXL.out; omega) HX64.out) (by have := HNL.out; omega) (by decide)
            have HO6 := hid hO6
            have HB7 := hid hB7
            clear hO5 hB5 hO6 hB6 hB7
            go_wp2_with (at_builtin; refine wpList_append_eq rfl _ _ _ rfl _ _ rfl rfl hr ?_)
            go_roundw
            case rel => exact ⟨k + 1, o ++ [x], by go_num, hlt, HO6.out, by rw [List.length_append]; have := HI.out.2.1; simp; omega, by rw [← HTK.out, ← HD.out]; exact HI.out.2.2.1, (below_step HI.out.2.2.2 HDW.out HI.out.2.2.2.size).trans HB7.out⟩
            case measure => simp [intOf]; omega
    · obtain rfl : k = n := by omega
      have HEN : Hid (o = mOf ls) := by
        have := HI.out.2.2.1
        rw [List.drop_eq_nil_of_le (by rw [← HSN.out]; omega)] at this
        exact this
      have HBX2 := hid ((HBX.out.below HB2.out).below HI.out.2.2.2)
      have c0 := HBX2.out.cell 0 _ rfl
      have f0 := HBX2.out.free 0
      have hsz := HBX2.out.lt
      have HFIN : Hid (MaskPost w (mOf ls) (.returned (maskV (.slice oa j oc))) (wr.setCell ⟨w.heap.size, 0, none⟩ (.slice oa j oc))) := by
        have hw2 : w.heap.size + 1 ≤ w2.heap.size := by have := HB2.out.size; have := HSZ.out; omega
        refine ⟨_, rfl, ?_, ?_⟩
        · rw [← HEN.out]
          refine ⟨by rw [← HJ.out]; have := HNL.out; omega, w2.heap.size, by omega, ?_⟩
          exact HI.out.1.later (fun b hb hc => Below.heap_setCell _ _ _ _ (by show b ≠ w.heap.size; omega)) (by simp)
        · have h1 : Below w.heap.size w w2 := HWA.out.trans (HB2.out.mono (by have := HSZ.out; omega))
          exact (h1.trans (HI.out.2.2.2.mono (by omega))).setCell (Nat.le_refl _) _
      have HCS : Hid ((wr.setCell ⟨w.heap.size, 0, none⟩ (.slice oa j oc)).cell? ⟨w.heap.size, 0, none⟩ = some (.slice oa j oc)) := World.cell?_setCell_same' _ _ _ (by rw [c0]; rfl)
      clear hlt
      go_wp2_with fail
      rw [HQ.out]
      refine bodyPost_ret (v := maskV (.slice oa j oc)) (by simp [results, Tryz.results23, go_sem, maskV, HCS.out]) rfl HFIN.out
end Go.Proofs.YtaefpjecalnbcaaGreat
namespace Go.Proofs.YtaefpjecalnbcaaGreat
open Go.RowKit
theorem MaskPost.open {w : World} {o : List (List Int)} {e : Ending} {w' : World} (h : MaskPost w o e w') : ∃ a c, e = .returned (maskV (.slice a o.length c)) ∧ WaysAt w' (.slice a o.length c) o ∧ Below w.heap.size w w' ∧ NewWays w w' (.slice a o.length c) o := by
  obtain ⟨v', rfl, h2, h3⟩ := h
  have h2' := h2.here
  have h2'' := h2'
  obtain ⟨-, a, c, rfl, -, -⟩ := h2''.open
  exact ⟨a, c, rfl, h2', h3, h2⟩
theorem field_mask (a : Option Addr) (n c : Nat) (w : World) : (Instr.field 41 (.agg #[.slice a n c]) 0).run Tryz.prog w = .ok (.slice a n c) w := by kernel_rfl
set_option maxRecDepth 100000 in
set_option maxHeartbeats 4000000 in
theorem mask_Whole {w : World} {v : Value} {ls : List (List Int)} (h : WaysAt w v ls) (hL : LightW ls) (x : Int) :
    Calls Tryz.prog 79 #[maskV v, .int .i64 x] w fun e w' => e = .returned (.bool ((mOf ls).any (wholeW x))) ∧ Below w.heap.size w w' := by
  unfold maskV
  have HOF : Hid (∀ W, Below w.heap.size w W → Calls Tryz.prog 23 #[v] W (MaskPost W (mOf ls))) := fun W hW => mask_Of (h.keep (below_keeps hW)) hL
  obtain ⟨-, a, c, rfl, -, -⟩ := h.open
  obtain ⟨z, HZ⟩ : ∃ z, Hid (z = (mOf ls).any (wholeW x)) := ⟨_, rfl⟩
  rw [← HZ.out]
  clear h hL
  go_enter Tryz.func79, Tryz.ntmps79
  go_wp2_with fail
  refine (HOF.out _ ?_).mono ?_
  · (repeat (first | with_reducible exact Below.refl _ _ | with_reducible refine Below.setCell ?_ (by first | omega | (simp; omega) | (simp; done)) _ | with_reducible refine Below.alloc ?_ (by first | omega | (simp; omega) | (simp; done)) _ | with_reducible refine below_drewN ?_ _ | with_reducible refine Below.drew ?_))
  · intro e w1 hp
    obtain ⟨a2, c2, rfl, hW, hb, -⟩ := hp.open
    have hq : w1.cell? ⟨w.heap.size + 1, 0, none⟩ = some (.int .i64 x) := by
      refine below_keeps hb _ _ ?_
      simp [go_sem]
    have HC := hid (containsFunc_ways hW 119 #[.pointer (some ⟨w.heap.size + 1, 0, none⟩)] (wholeW x) (fun args w => by simp [go_sem]) fun y l wr hy hd => mask_Whole_1 (hd.keeps _ _ hq) hy)
    rw [← HZ.out] at HC
    have HB : Hid (Below w.heap.size w w1) := below_step (by (repeat (first | with_reducible exact Below.refl _ _ | with_reducible refine Below.setCell ?_ (by first | omega | (simp; omega) | (simp; done)) _ | with_reducible refine Below.alloc ?_ (by first | omega | (simp; omega) | (simp; done)) _ | with_reducible refine below_drewN ?_ _ | with_reducible refine Below.drew ?_))) hb (by simp; omega)
    unfold maskV
    have hfd := field_mask
    clear hW hb hq hp
    go_wp2_with fail
    refine HC.out.mono ?_
    rintro e w2 ⟨rfl, hd⟩
    have HB2 : Hid (Below w.heap.size w w2) := below_step HB.out hd.below HB.out.size
    clear hd
    go_wp2_with fail
    go_ret
    exact ⟨rfl, HB2.out⟩
theorem keep_old {w1 w' : World} (h : ∀ b, b < w1.heap.size → w'.heap[b]? = w1.heap[b]?) : ∀ p u, w1.cell? p = some u → w'.cell? p = some u := fun p _u hu =>
  (World.cell?_of_block (h _ (World.block_lt_of_cell? w1 p hu))).trans hu
theorem under_take {x : Int} {y : List Int} (r : List (List Int)) (h : 1 < y.length) (h0 : y[0]? = some x) : underW (y :: r) x = y.drop 1 :: underW r x := by
  unfold underW
  rw [List.filter_cons, if_pos (by simp [h, h0, List.head?_eq_getElem?])]
  simp
theorem under_skip1 {x : Int} {y : List Int} (r : List (List Int)) (h : ¬ 1 < y.length) : underW (y :: r) x = underW r x := by
  unfold underW
  rw [List.filter_cons, if_neg (by simp [h])]
theorem under_skip2 {x z : Int} {y : List Int} (r : List (List Int)) (h0 : y[0]? = some z) (hz : z ≠ x) : underW (y :: r) x = underW r x := by
  unfold underW
  rw [List.filter_cons, if_neg (by simp [h0, List.head?_eq_getElem?, hz])]
def UnderPost (w : World) (o : List (List Int)) (e : Ending) (w' : World) : Prop := ∃ v', e = .returned (.tuple #[maskV v', .bool (decide (0 < o.length))]) ∧ NewWays w w' v' o ∧ Below w.heap.size w w'
theorem mOf_light {ls : List (List Int)} (h : LightW ls) : LightW (mOf ls) := by
  have hm := mOf_mask ls
  refine ⟨?_, fun l hl => h.2 l ((hm.2 l).1 hl).1⟩
  exact Nat.le_trans (mOf_len ls) h.1
theorem underW_light {ls : List (List Int)} (h : LightW ls) (x : Int) : LightW (underW ls x) := by
  refine ⟨?_, fun l hl => ?_⟩
  · unfold underW
    rw [List.length_map]
    exact Nat.le_trans (List.length_filter_le _ _) h.1
  · obtain ⟨-, h2⟩ := (under_mem _ _ _).1 hl
    have := h.2 _ h2
    simp at this
    omega
set_option maxRecDepth 100000 in
set_option maxHeartbeats 4000000 in
theorem mask_Under {w : World} {v : Value} {ls : List (List Int)} (h : WaysAt w v ls) (hL : LightW ls) (x : Int) :
    Calls Tryz.prog 78 #[maskV v, .int .i64 x] w (UnderPost w (underW (mOf ls) x)) := by
  unfold maskV
  obtain ⟨wA, HA⟩ : ∃ wA, Hid (wA = (w.alloc (.cells #[v] 41)).alloc (.cells #[.slice none 0 0] 41)) := ⟨_, rfl⟩
  have hA : Below w.heap.size w wA := by rw [HA.out]; (repeat (first | with_reducible exact Below.refl _ _ | with_reducible refine Below.setCell ?_ (by first | omega | (simp; omega) | (simp; done)) _ | with_reducible refine Below.alloc ?_ (by first | omega | (simp; omega) | (simp; done)) _ | with_reducible refine below_drewN ?_ _ | with_reducible refine Below.drew ?_))
  have HWA := hid hA
  have HBX : Hid (Blk wA (w.heap.size + 1) [.slice none 0 0] 41) := by rw [HA.out]; exact Blk.new' _ [.slice none 0 0] _ _ (by simp)
  have HSZ : Hid (wA.heap.size = w.heap.size + 2) := by rw [HA.out]; simp [Hid]
  have HOF := hid (mask_Of (w := wA) (h.below hA) hL)
  obtain ⟨m, HM⟩ : ∃ m, Hid (m = mOf ls) := ⟨_, rfl⟩
  rw [← HM.out] at HOF ⊢
  have HML : Hid (LightW m) := by rw [HM.out]; exact mOf_light hL
  have HUU : Hid (mOf (underW m x) = underW m x) := by rw [HM.out]; exact under_self ls x
  obtain ⟨-, a, c, rfl, -, -⟩ := h.open
  obtain ⟨n0, HN0⟩ : ∃ n, Hid (n = ls.length) := ⟨_, rfl⟩
  rw [← HN0.out] at HA HOF ⊢
  obtain ⟨Q, HQ⟩ : ∃ Q : Ending → World → Prop, Hid (Q = UnderPost w (underW m x)) := ⟨_, rfl⟩
  rw [← HQ.out]
  clear h hL hA
  have hfd := field_mask
  go_enter Tryz.func78, Tryz.ntmps78
  go_wp2_with fail
  rw [← HA.out]
  refine HOF.out.mono ?_
  intro e w1 hp
  obtain ⟨a2, c2, rfl, hW, hb, -⟩ := hp.open
  obtain ⟨n, HN⟩ : ∃ n, Hid (n = m.length) := ⟨_, rfl⟩
  rw [← HN.out] at hW ⊢
  have hn : n ≤ 1099511627776 := by rw [HN.out]; exact HML.out.1
  obtain ⟨-, a', c', he, -, hat⟩ := hW.open
  rw [← HN.out] at he
  cases he
  have HAT := hid hat
  have HB := hid hb
  unfold maskV
  clear hW hb hp hat HOF
  go_wp2_with fail
  go_loopw [6, 14] (fun v6 v14 wr => ∃ (k : Nat) (o : List (List Int)), v14 = .int .i64 k ∧ k ≤ n ∧ Hid (RowsOwn WayP 68 1 w1.heap.size w1.heap.size wr v6 o ∧ o.length ≤ k ∧ o ++ underW (m.drop k) x = underW m x ∧ Below w1.heap.size w1 wr)) (fun _ v14 _ => n - (intOf v14).toNat)
  case atStart => exact ⟨0, [], rfl, by omega, RowsOwn.nil _ _ _ _ _ _, by simp, rfl, Below.refl _ _⟩
  case round =>
    obtain ⟨k, o, rfl, hk, HI⟩ := hrel
    obtain ⟨oa, oc, hoe⟩ := HI.out.1.form
    obtain ⟨j, HJ⟩ : ∃ j, Hid (j = o.length) := ⟨_, rfl⟩
    rw [← HJ.out] at hoe
    subst hoe
    have hjk : j ≤ k := by rw [HJ.out]; exact HI.out.2.1
    by_cases hlt : k < n
    · obtain ⟨y, hy⟩ := way_get HN.out hlt
      obtain ⟨b, q, ya, yc, ha, g0, hY⟩ := HAT.out k y hy
      replace g0 := below_keeps HI.out.2.2.2 _ _ g0
      have hix := index_run1 Tryz.underlying28 size_ints ha k hlt (cap := c2)
      have HD := hid (drop_at hy)
      have HYL : Hid (y.length ≤ 17592186044416) := HML.out.2 y (List.mem_of_getElem? hy)
      obtain ⟨q2, HQ2⟩ : ∃ q2, Hid (q2 = y.length) := ⟨_, rfl⟩
      rw [← HQ2.out] at g0 hY
      obtain ⟨-, ya', yc', hye, -, hyat⟩ := hY.open
      rw [← HQ2.out] at hye
      cases hye
      have HY := hid hY
      have HY64 := hid hY.2
      clear hy ha hY
      by_cases h1 : 1 < q2
      · obtain ⟨z, hz⟩ := int_get HQ2.out (by omega : 0 < q2)
        obtain ⟨hz64, b2, o2, ha2, g2⟩ := hyat 0 z hz
        have hix2 := index_0 Tryz.underlying68 size_int ha2 (by omega : 0 < q2) (cap := yc)
        replace g2 := below_keeps HI.out.2.2.2 _ _ g2
        rw [Nat.add_zero] at g2
        by_cases hzx : z = x
        · subst hzx
          have HTK := hid (under_take (m.drop (k + 1)) (by rw [← HQ2.out]; exact h1) hz)
          obtain ⟨ta, tc, hsl, hT⟩ := HY.out.l HQ2.out 1 (by omega)
          have hsl' : ∀ W, (Instr.slice 68 (.slice ya q2 yc) (some (.int .i64 1)) none none).run Tryz.prog W = .ok (.slice ta (q2 - 1) tc) W := hsl
          obtain ⟨a', c', w6, hr, hO6, hB6, hB7⟩ := (HI.out.1).step (Below.refl _ _) (by decide) (Nat.le_refl _) HI.out.2.2.2.size HJ.out.symm (G := Tryz.prog) 28 (.slice none 0 0) 24 under_ways info_ints rfl #[.slice ta (q2 - 1) tc] rfl (by intro u hu; simp at hu; subst hu; rfl) (y.drop 1)
            (fun w' hw' => ⟨_, rfl, hT.keep (keep_old fun b hb => (hw' b (Nat.lt_of_lt_of_le hb HI.out.2.2.2.size) (.inl hb)).trans (HI.out.2.2.2.block b hb))⟩) (by omega) (by decide)
          have HO6 := hid hO6
          have HB7 := hid hB7
          have hq1 : ((q2 - 1 : Nat) : Int) = (q2 : Int) - 1 := by omega
          clear hO6 hB6 hB7 hyat hz ha2 hT hsl hq1
          go_wp2_with (at_builtin; refine wpList_append_eq rfl _ _ _ rfl _ _ rfl rfl hr ?_)
          go_roundw
          case rel => exact ⟨k + 1, _, by go_num, hlt, HO6.out, by rw [List.length_append]; have := HI.out.2.1; simp; omega, by rw [← HI.out.2.2.1, HD.out, HTK.out, List.append_assoc]; rfl, HI.out.2.2.2.trans HB7.out⟩
          case measure => simp [intOf]; omega
        · have HTK := hid (under_skip2 (m.drop (k + 1)) hz hzx)
          have e1 : (z == x) = false := by simpa using hzx
          clear hzx hyat hz ha2
          go_wp2_with fail
          go_roundw
          case rel => exact ⟨k + 1, o, by go_num, hlt, HI.out.1, by have := HI.out.2.1; omega, by rw [← HI.out.2.2.1, HD.out, HTK.out], HI.out.2.2.2⟩
          case measure => simp [intOf]; omega
      · have HTK := hid (under_skip1 (x := x) (m.drop (k + 1)) (by rw [← HQ2.out]; exact h1))
        have e1 : decide ((1 : Int) < q2) = false := decide_eq_false (by omega)
        clear hyat h1
        go_wp2_with fail
        go_roundw
        case rel => exact ⟨k + 1, o, by go_num, hlt, HI.out.1, by have := HI.out.2.1; omega, by rw [← HI.out.2.2.1, HD.out, HTK.out], HI.out.2.2.2⟩
        case measure => simp [intOf]; omega
    · obtain rfl : k = n := by omega
      have HEN : Hid (o = underW m x) := by
        have := HI.out.2.2.1
        rw [List.drop_eq_nil_of_le (by rw [← HN.out]; omega)] at this
        rw [Hid, ← this]; simp [underW]
      have hWO := RowsOwn.at HI.out.1 (by have := HI.out.2.1; omega) (w' := wr) (fun _ _ _ => rfl)
      have HOF2 := hid (mask_Of (show WaysAt wr (.slice oa j oc) o from hWO) (by rw [HEN.out]; exact underW_light HML.out x))
      rw [HEN.out, HUU.out] at HOF2
      have HBX2 := hid ((HBX.out.below HB.out).below HI.out.2.2.2)
      clear hlt hWO
      go_wp2_with fail
      refine HOF2.out.mono ?_
      intro e w3 hp3
      obtain ⟨a3, c3, rfl, -, hb3, hW3⟩ := hp3.open
      have HJ2 : Hid ((underW m x).length = j) := by rw [Hid, HJ.out, HEN.out]
      rw [HJ2.out] at hW3 ⊢
      have HW3 := hid hW3
      have HBX3 := hid (HBX2.out.below hb3)
      have hsz3 := HBX3.out.lt
      have c0 := HBX3.out.cell 0 _ rfl
      have f0 := HBX3.out.free 0
      have HB3 : Hid (Below w.heap.size w w3) := (HWA.out.trans ((HB.out.trans (HI.out.2.2.2.mono HB.out.size)).mono (by have := HSZ.out; omega))).trans (hb3.mono (by have := HB.out.size; have := HI.out.2.2.2.size; have := HSZ.out; omega))
      have HCS : Hid ((w3.setCell ⟨w.heap.size + 1, 0, none⟩ (.slice a3 j c3)).cell? ⟨w.heap.size + 1, 0, none⟩ = some (.slice a3 j c3)) := World.cell?_setCell_same' _ _ _ (by rw [c0]; rfl)
      unfold maskV
      clear hW3 hb3 hp3
      have HFIN : Hid (Q (.returned (.tuple #[.agg #[.slice a3 j c3], .bool (decide (0 < j))])) (w3.setCell ⟨w.heap.size + 1, 0, none⟩ (.slice a3 j c3))) := by
        rw [HQ.out, ← HJ2.out]
        refine ⟨_, rfl, ?_, HB3.out.setCell (by simp) _⟩
        rw [HJ2.out]
        have hws : w.heap.size + 2 ≤ wr.heap.size := by have := HB.out.size; have := HI.out.2.2.2.size; have := HSZ.out; omega
        exact HW3.out.later (by omega) (by simp) fun b h1 h2 => Below.heap_setCell _ _ _ _ (by show b ≠ w.heap.size + 1; omega)
      by_cases hj0 : 0 < j
      · have e1 : decide (0 < j) = true := decide_eq_true hj0
        rw [e1] at HFIN
        clear e1
        go_wp2_with fail
        refine bodyPost_ret (v := .tuple #[.agg #[.slice a3 j c3], .bool true]) (by simp [results, Tryz.results78, go_sem, HCS.out]) rfl HFIN.out
      · have e1 : decide (0 < j) = false := decide_eq_false hj0
        rw [e1] at HFIN
        obtain rfl : j = 0 := by omega
        clear e1
        go_wp2_with fail
        refine bodyPost_ret (v := .tuple #[.agg #[.slice a3 0 c3], .bool false]) (by simp [results, Tryz.results78, go_sem, HCS.out]) rfl HFIN.out
end Go.Proofs.YtaefpjecalnbcaaGreat
