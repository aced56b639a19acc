/- slices.DeleteFunc of views in memory of the call's own; view.those, view.Of. At most 2^40 views. slices.DeleteFunc of views; view.those, view.Of. At most 2^40 views. view.those, view.Of. At most 2^40 bytes. Plain laws: does a way lead to a record (wayHas)? What is known of a view on a way. No condition. -/
import Derived.Test.YtfimpmennkfjcaaGreatDoorZ27
import Derived.Test.YtfimpmennkfjcaaGreatDoorZ39
import Derived.Test.YtfimpmennkfjcaaGreatDoorZ40
import Derived.Laws.IdiomCopy
namespace Go.Proofs.YtfimpmennkfjcaaGreatDoor
open Go.RowKit
/-- views of the call's own -/
def OwnV (w : World) (base : Nat) (v : Value) (l : List VW) : Prop := w.ownsRow base 140 7 v l.length (l.flatMap VW.cells)
theorem VW.cells_len (x : VW) : x.cells.length = 7 := rfl
theorem rows_views {l : List VW} : ∀ {rows : List (List Value)}, rows.length = l.length → (∀ (i : Nat) (r : List Value) (x : VW), rows[i]? = some r → l[i]? = some x → r = x.cells) → rows.flatten = l.flatMap VW.cells := by
  induction l with
  | nil => intro rows h _; rw [List.eq_nil_of_length_eq_zero h]; rfl
  | cons x t ih =>
    intro rows h hr
    match rows, h with
    | r :: rs, h =>
      rw [List.flatten_cons, List.flatMap_cons, hr 0 r x rfl rfl, ih (by simpa using h) fun i r' x' h1 h2 => hr (i + 1) r' x' (by simpa using h1) (by simpa using h2)]
theorem views_own {w : World} {base : Nat} {v : Value} {l : List VW} (h : RowsOwn viewP 140 7 0 base w v l) : OwnV w base v l := by
  obtain ⟨rows, h1, h2, h3, h4⟩ := h
  unfold OwnV
  rw [← rows_views h1 fun i r x hr hx => h4 w (fun _ _ _ _ => rfl) i r x hr hx]
  exact h3
theorem own_views {w : World} {base : Nat} {v : Value} {l : List VW} (h : OwnV w base v l) : RowsOwn viewP 140 7 0 base w v l := by
  refine ⟨l.map VW.cells, by simp, ?_, ?_, fun _ _ i r x hr hx => ?_⟩
  · intro r hr
    obtain ⟨x, -, rfl⟩ := List.mem_map.1 hr
    rfl
  · rw [← List.flatMap_def]; exact h
  · rw [List.getElem?_map, hx] at hr
    exact (Option.some.inj hr).symm
/-- the cells of a block, some of them written anew -/
theorem heap_setCells {g : Nat} {T : TypeId} {fz : Nat × Nat} : ∀ (vs : List Value) (o : Nat) (w : World) (cur : Array Value), w.heap[g]? = some (.cells cur T fz) → o + vs.length ≤ cur.size →
    (w.setCells g o vs).heap[g]? = some (.cells (cur.toList.take o ++ vs ++ cur.toList.drop (o + vs.length)).toArray T fz)
  | [], o, w, cur, h, _ => by
    rw [World.setCells, List.append_nil, List.length_nil, Nat.add_zero, List.take_append_drop]; simpa using h
  | v :: r, o, w, cur, h, hl => by
    rw [List.length_cons] at hl
    have h1 : (w.setCell ⟨g, o, none⟩ v).heap[g]? = some (.cells (cur.setIfInBounds o v) T fz) := by
      obtain ⟨hlt, hk⟩ := Array.getElem?_eq_some_iff.1 h
      show (w.heap.modify g _)[g]? = _
      rw [Array.getElem?_eq_getElem (by rw [Array.size_modify]; exact hlt), Array.getElem_modify_self, hk]
      simp
    have hlc : o < cur.toList.length := by rw [Array.length_toList]; omega
    rw [World.setCells, heap_setCells r (o + 1) _ _ h1 (by simp; omega), Array.toList_setIfInBounds, List.length_cons]
    congr 4
    · rw [List.take_set, List.set_eq_take_append_cons_drop, if_pos (by rw [List.length_take]; omega), List.take_take, Nat.min_eq_left (by omega), List.drop_eq_nil_of_le (by rw [List.length_take]; omega), List.append_assoc]; rfl
    · rw [show o + 1 + r.length = o + (r.length + 1) by omega, List.drop_set_of_lt (by omega)]
theorem setCells_below {B g : Nat} (hg : B ≤ g) : ∀ (vs : List Value) (o : Nat) (w w0 : World), Below B w0 w → Below B w0 (w.setCells g o vs)
  | [], _, _, _, h => h
  | v :: r, o, _w, w0, h => setCells_below hg r (o + 1) _ w0 (h.setCell (p := ⟨g, o, none⟩) hg v)
theorem vflat_len (l : List VW) : (l.flatMap VW.cells).length = l.length * 7 := by
  induction l with
  | nil => rfl
  | cons x t ih => rw [List.flatMap_cons, List.length_append, ih, VW.cells_len, List.length_cons]; omega
theorem vflat_take (l : List VW) (i : Nat) : (l.flatMap VW.cells).take (i * 7) = (l.take i).flatMap VW.cells := by
  induction l generalizing i with
  | nil => simp
  | cons x t ih =>
    cases i with
    | zero => simp
    | succ i =>
      rw [List.take_succ_cons, List.flatMap_cons, List.flatMap_cons, ← ih, List.take_append, VW.cells_len, List.take_of_length_le (by rw [VW.cells_len]; omega)]
      congr 2
      omega
theorem vflat_drop (l : List VW) (i : Nat) : (l.flatMap VW.cells).drop (i * 7) = (l.drop i).flatMap VW.cells := by
  induction l generalizing i with
  | nil => simp
  | cons x t ih =>
    cases i with
    | zero => simp
    | succ i =>
      rw [List.drop_succ_cons, List.flatMap_cons, ← ih, List.drop_append, VW.cells_len, List.drop_eq_nil_of_le (by rw [VW.cells_len]; omega), List.nil_append]
      congr 1
      omega
theorem vflat_at (l : List VW) (i : Nat) (x : VW) (h : l[i]? = some x) (j : Nat) (hj : j < 7) : (l.flatMap VW.cells)[i * 7 + j]? = x.cells[j]? := flat_get VW.cells 7 (fun _ => rfl) l i j x h hj
/-- one view written over another -/
theorem OwnV.put {w : World} {base g n c : Nat} {l : List VW} (h : OwnV w base (.slice (some ⟨g, 0, none⟩) n c) l) (i : Nat) (hi : i < l.length) (x : VW) :
    OwnV (w.setCells g (i * 7) x.cells) base (.slice (some ⟨g, 0, none⟩) n c) (l.set i x) := by
  unfold OwnV at *
  rw [List.length_set]
  refine ⟨by rw [vflat_len, List.length_set], .inr ?_⟩
  rcases h.2 with ⟨e, -⟩ | ⟨g', cap, cur, e, hb, hg, hnc, hcm, hcs, ht⟩
  · cases e
  · have hlast : (l.set i x).flatMap VW.cells = (l.flatMap VW.cells).take (i * 7) ++ x.cells ++ (l.flatMap VW.cells).drop (i * 7 + 7) := by
      rw [show i * 7 + 7 = (i + 1) * 7 by omega, vflat_take, vflat_drop, List.set_eq_take_append_cons_drop, if_pos hi, List.flatMap_append, List.flatMap_cons, List.append_assoc]
    have hsz : i * 7 + 7 ≤ cur.size := by rw [hcs]; omega
    have e1 : l.length = n := by injection e with e1 e2 e3; exact e2.symm
    injection e with e2 e3 e4
    injection e2 with e2
    injection e2 with e2
    subst e2
    refine ⟨g, cap, _, by rw [e1, e4], hb, heap_setCells x.cells (i * 7) w cur hg (by rw [VW.cells_len]; exact hsz), hnc, hcm, ?_, ?_⟩
    · simp only [List.size_toArray, List.length_append, List.length_take, List.length_drop, Array.length_toList, VW.cells_len]
      omega
    · rw [VW.cells_len, hlast, ← ht, List.take_take, Nat.min_eq_left (by omega), List.drop_take]
      show List.take (l.length * 7) (List.take (i * 7) cur.toList ++ x.cells ++ List.drop (i * 7 + 7) cur.toList) = _
      have hA : (List.take (i * 7) cur.toList ++ x.cells).length = i * 7 + 7 := by rw [List.length_append, List.length_take, Array.length_toList, VW.cells_len, Nat.min_eq_left (by omega)]
      rw [List.take_append, hA, List.take_of_length_le (by rw [hA]; omega)]
theorem OwnV.cell {w : World} {base g n c : Nat} {l : List VW} (h : OwnV w base (.slice (some ⟨g, 0, none⟩) n c) l) (i : Nat) (x : VW) (hi : l[i]? = some x) (j : Nat) (u : Value) (hu : x.cells[j]? = some u) :
    w.cell? ⟨g, i * 7 + j, none⟩ = some u ∧ w.frozen? ⟨g, i * 7 + j, none⟩ = false ∧ g < w.heap.size := by
  rcases h.2 with ⟨e, -⟩ | ⟨g', cap, cur, e, hb, hg, hnc, hcm, hcs, ht⟩
  · cases e
  · injection e with e2 e3 e4
    injection e2 with e2
    injection e2 with e2
    subst e2
    have hj : j < 7 := (List.getElem?_eq_some_iff.1 hu).1
    have h1 : (l.flatMap VW.cells)[i * 7 + j]? = some u := (vflat_at l i x hi j hj).trans hu
    rw [← ht, List.getElem?_take] at h1
    split at h1
    · refine ⟨?_, by simp [World.frozen?, hg], (Array.getElem?_eq_some_iff.1 hg).1⟩
      rw [cell_of_row _ _ _ _ _ _ hg]
      simpa using h1
    · cases h1
theorem OwnV.below_of {w w' : World} {base : Nat} {v : Value} {l : List VW} (h : OwnV w base v l) (hb : Below w.heap.size w w') : OwnV w' base v l :=
  row_keep h fun b _cur _ he => hb.block b (Array.getElem?_eq_some_iff.1 he).1
theorem OwnV.form {w : World} {base : Nat} {v : Value} {l : List VW} (h : OwnV w base v l) : ∃ a c, v = .slice a l.length c := (own_views h).form
theorem under_views : Tryz.prog.underlying 135 = some (.slice 140) := Tryz.underlying135
/-- the end is cleared, what is ahead of it stays -/
theorem OwnV.clear {w : World} {base g n c : Nat} {l : List VW} (h : OwnV w base (.slice (some ⟨g, 0, none⟩) n c) l) (i : Nat) (hi : i < n) (ty : TypeId) :
    ∃ w', (Builtin.clear_ #[135] ty #[.slice (some ⟨g, i * 7, none⟩) (n - i) (c - i)]).run Tryz.prog w = .ok (.tuple #[]) w' ∧ OwnV w' base (.slice (some ⟨g, 0, none⟩) i c) (l.take i) ∧ ∀ w0, Below base w0 w → Below base w0 w' := by
  obtain ⟨h0, h2⟩ := h
  rcases h2 with ⟨e, -⟩ | ⟨g', cap, cur, e, hb, hg, hnc, hcm, hcs, ht⟩
  · cases e
  injection e with e2 e3 e4
  injection e2 with e2
  injection e2 with e2
  subst e2
  have hcap : c = cap := e4
  subst hcap
  have hZ : (Builtin.zeroCells (Value.agg #[.int .i64 0, .int .i64 0, .int .i64 0, .int .i64 0, .int .i64 0, .int .i64 0, .bool false]).cells (n - i)).size = (n - i) * 7 := size_zeroCells _ _
  obtain ⟨Z, HZ⟩ : ∃ Z, Z = (Builtin.zeroCells (Value.agg #[.int .i64 0, .int .i64 0, .int .i64 0, .int .i64 0, .int .i64 0, .int .i64 0, .bool false]).cells (n - i)).toList := ⟨_, rfl⟩
  have hZl : Z.length = (n - i) * 7 := by rw [HZ, Array.length_toList, hZ]
  have hZ1 : ∀ v ∈ Z, v.oneCell' = true := by
    intro v hv
    rw [HZ] at hv
    unfold Builtin.zeroCells at hv
    rw [Array.toList_map, List.mem_map] at hv
    obtain ⟨k, -, rfl⟩ := hv
    have hk : k % 7 < 7 := Nat.mod_lt _ (by decide)
    show (#[Value.int .i64 0, .int .i64 0, .int .i64 0, .int .i64 0, .int .i64 0, .int .i64 0, .bool false][k % 7]!).oneCell' = true
    generalize k % 7 = m at hk
    match m, hk with
    | 0, _ => rfl
    | 1, _ => rfl
    | 2, _ => rfl
    | 3, _ => rfl
    | 4, _ => rfl
    | 5, _ => rfl
    | 6, _ => rfl
  have hn7 : n * 7 ≤ cur.size := by rw [hcs]; omega
  have hst := run_storeCells_cells (P := Tryz.prog) g (i * 7) Z 0 w (fun j hj => by
      rw [cell_of_row _ _ _ _ _ _ hg, Array.getElem?_eq_getElem (by omega)]; rfl) (fun j hj => by simp [World.frozen?, hg]) hZ1
  rw [Nat.add_zero] at hst
  refine ⟨w.setCells g (i * 7) Z, ?_, ?_, fun w0 hw0 => setCells_below hb Z _ w w0 hw0⟩
  · obtain ⟨m, hm⟩ : ∃ m, n - i = m + 1 := ⟨n - i - 1, by omega⟩
    rw [hm] at HZ ⊢
    simp [Builtin.clear_, run_underlying under_views, ← HZ, hst]
  · have hil : (l.take i).length = i := by rw [List.length_take]; omega
    unfold OwnV
    rw [hil]
    refine ⟨by rw [vflat_len, hil], .inr ⟨g, c, _, rfl, hb, heap_setCells Z (i * 7) w cur hg (by omega), by omega, hcm, ?_, ?_⟩⟩
    · simp only [List.size_toArray, List.length_append, List.length_take, List.length_drop, Array.length_toList]
      omega
    · show List.take (i * 7) (List.take (i * 7) cur.toList ++ Z ++ List.drop (i * 7 + Z.length) cur.toList) = _
      rw [List.append_assoc, List.take_append_of_le_length (by rw [List.length_take, Array.length_toList]; omega), List.take_of_length_le (by rw [List.length_take]; omega), ← vflat_take, ← ht, List.take_take, Nat.min_eq_left (by omega)]
end Go.Proofs.YtfimpmennkfjcaaGreatDoor
namespace Go.Proofs.YtfimpmennkfjcaaGreatDoor
open Go.RowKit
/-- clear, by its run -/
theorem wpList_clear_eq {P : Program} {w : World} {ops : Array Oper} {rest : List Oper} {o : Oper} {a : Act} {Q : Exit → Act → World → Prop} (hgd : o.guard = none) (x : Operand) (t : TypeId)
    (ho : o.op = .call { callee := .builtin .clear, args := #[x], argTypes := #[t] }) (xv : Value) (hx : a.eval x = xv) {v' : Value} {w' : World}
    (hr : (Builtin.clear_ #[t] o.type #[xv]).run P w = .ok v' w') (h : wpList P ops Q rest (a.put o.dst v') w') : wpList P ops Q (o :: rest) a w :=
  wpList_plain hgd fun K hK => by
    unfold Oper.wp execOp
    simp only [ho, resolve, invoke, builtin, Sem.run_bind, Sem.run_pure, Result.andThen_ok, List.map_toArray, List.map_cons, List.map_nil, hx, hr]
    exact hK _ _ h
def DelPost (w : World) (base : Nat) (l : List VW) (e : Ending) (w' : World) : Prop := ∃ v', e = .returned v' ∧ OwnV w' base v' l ∧ Below base w w'
set_option maxRecDepth 100000 in
set_option maxHeartbeats 4000000 in
theorem deleteFunc_views {w : World} {base : Nat} {v : Value} {l : List VW} (h : OwnV w base v l) (hl : l.length ≤ 1099511627776) (hbase : base ≤ w.heap.size) (F : Nat) (cap : Array Value) (p : VW → Bool) (hcf : ∀ (args : Array Value) (w : World), (callFunc F args).run Tryz.prog w = .ok (.enter F args) w)
    (hcl : ∀ (x : VW) (wr : World), x ∈ l → Below base w wr → Calls Tryz.prog F (#[viewV x.r x.k x.run] ++ cap) wr fun e w' => e = .returned (.bool (p x)) ∧ Below wr.heap.size wr w') :
    Calls Tryz.prog 144 #[v, .func (.func F) #[] cap] w (DelPost w base (l.filter fun x => !p x)) := by
  obtain ⟨a, c, rfl⟩ := h.form
  have HIX := hid (indexFunc_views (views_read (own_views h) hl) F cap p hcf fun x wr hx hb => hcl x wr hx (hb.mono hbase))
  obtain ⟨z, HZ⟩ : ∃ z, Hid (z = l.findIdx? p) := ⟨_, rfl⟩
  rw [← HZ.out] at HIX
  obtain ⟨n, HN⟩ : ∃ n, Hid (n = l.length) := ⟨_, rfl⟩
  rw [← HN.out] at HIX hl ⊢
  have HO := hid h
  rw [← HN.out] at HO
  have HCL := hid hcl
  have HBS := hid hbase
  obtain ⟨Q, HQ⟩ : ∃ Q : Ending → World → Prop, Hid (Q = DelPost w base (l.filter fun x => !p x)) := ⟨_, rfl⟩
  rw [← HQ.out]
  clear h hcl hbase
  unfold IdxPost at HIX
  cases z with
  | none =>
    have HE : Hid (∀ w', Below base w w' → Below w.heap.size w w' → Q (.returned (.slice a n c)) w') := by
      intro w' hb hb2
      have hf : (l.filter fun x => !p x) = l := by
        rw [List.filter_eq_self]
        intro x hx
        have := List.findIdx?_eq_none_iff.1 HZ.out.symm x hx
        rw [this]; rfl
      rw [HQ.out, hf]
      exact ⟨_, rfl, HO.out.below_of hb2, hb⟩
    simp only at HIX
    go_enter Tryz.func144, Tryz.ntmps144
    go_wp2_with fail
    refine HIX.out.mono ?_
    rintro e w1 ⟨rfl, hb⟩
    have HE1 := hid (HE.out w1 (hb.mono HBS.out) hb)
    clear hb
    go_wp2_with fail
    exact HE1.out
  | some i0 =>
    obtain ⟨hi0, hpi, hpre⟩ := List.findIdx?_eq_some_iff_getElem.1 HZ.out.symm
    obtain ⟨g, rfl⟩ : ∃ g, a = some ⟨g, 0, none⟩ := by
      rcases HO.out.2 with ⟨e, h0⟩ | ⟨g, cap, cur, e, -⟩
      · omega
      · injection e with e1 e2 e3
        exact ⟨g, e1⟩
    have hcap : n ≤ c := by
      rcases HO.out.2 with ⟨e, h0⟩ | ⟨g', cap, cur, e, -, -, h, -⟩
      · cases e
      · injection e with e1 e2 e3
        rw [e3, HN.out]; exact h
    have hgb : Hid (base ≤ g) := (own_views HO.out).own g rfl |>.1
    have HI0 : Hid (l.take i0 = (l.take (i0 + 1)).filter fun x => !p x) := by
      rw [Hid, List.take_add_one, List.getElem?_eq_getElem hi0, List.filter_append]
      have e1 : (l.take i0).filter (fun x => !p x) = l.take i0 := by
        rw [List.filter_eq_self]
        intro x hx
        obtain ⟨j, hj, rfl⟩ := List.mem_take_iff_getElem.1 hx
        have := hpre j (by omega)
        simpa using this
      rw [e1]
      simp [hpi]
    have hi0n : i0 < n := by rw [HN.out]; exact hi0
    clear hi0 hpi hpre
    simp only at HIX
    go_enter Tryz.func144, Tryz.ntmps144
    go_wp2_with fail
    refine HIX.out.mono ?_
    rintro e w1 ⟨rfl, hb⟩
    have HB1 := hid (hb.mono HBS.out)
    have HO1 := hid (HO.out.below_of hb)
    have e1 : ((i0 : Int) == -1) = false := by
      rw [Bool.eq_false_iff]
      intro h
      simp at h
    clear hb
    go_wp2_with fail
    clear e1
    go_loopw [5, 6] (fun v5 v6 wr => ∃ (i j : Nat) (L : List VW), v5 = .int .i64 (i : Int) ∧ v6 = .int .i64 (j : Int) ∧ i < j ∧ j ≤ n ∧ Hid (OwnV wr base (.slice (some ⟨g, 0, none⟩) n c) L ∧ L.length = n ∧ Below base w wr ∧ L.take i = (l.take j).filter (fun x => !p x) ∧ L.drop j = l.drop j)) (fun _ v6 _ => n - (intOf v6).toNat)
    case atStart => exact ⟨i0, i0 + 1, l, rfl, by go_num, by omega, by omega, HO1.out, HN.out.symm, HB1.out, HI0.out, rfl⟩
    case round =>
      obtain ⟨i, j, L, rfl, rfl, hij, hj, HJ⟩ := hrel
      by_cases hlt : j < n
      · obtain ⟨x, hx⟩ : ∃ x, l[j]? = some x := ⟨_, List.getElem?_eq_getElem (by rw [← HN.out]; exact hlt)⟩
        have hLx : L[j]? = some x := by
          have h1 : (L.drop j)[0]? = (l.drop j)[0]? := by rw [HJ.out.2.2.2.2]
          rw [List.getElem?_drop, List.getElem?_drop, Nat.add_zero] at h1
          rw [h1]; exact hx
        obtain ⟨n0, -, hgl⟩ := HJ.out.1.cell j x hLx 0 _ rfl
        have n1 := (HJ.out.1.cell j x hLx 1 _ rfl).1
        have n2 := (HJ.out.1.cell j x hLx 2 _ rfl).1
        have n3 := (HJ.out.1.cell j x hLx 3 _ rfl).1
        have n4 := (HJ.out.1.cell j x hLx 4 _ rfl).1
        have n5 := (HJ.out.1.cell j x hLx 5 _ rfl).1
        have n6 := (HJ.out.1.cell j x hLx 6 _ rfl).1
        rw [Nat.add_zero] at n0
        have hix := index_run under_views size_vw (a := some ⟨g, 0, none⟩) rfl j hlt (cap := c)
        rw [Nat.zero_add] at hix
        have HX := hid (And.intro hx hLx)
        obtain ⟨B, HB⟩ : ∃ B, Hid (B = wr.heap.size) := ⟨_, rfl⟩
        obtain ⟨W, HW⟩ : ∃ W, Hid (W = wr.alloc (.cells #[.int .i64 x.r.number, .int .i64 x.r.wire, .int .i64 x.r.start, .int .i64 x.r.at', .int .i64 x.r.to, .int .i64 x.k, .bool x.run] 140)) := ⟨_, rfl⟩
        have hbw : Below wr.heap.size wr W := by rw [HW.out]; exact (Below.refl _ _).alloc (Nat.le_refl _) _
        have hkw : Blk W B x.cells 140 := by rw [HW.out, HB.out]; exact Blk.new wr x.cells _
        have HKW := hid hkw
        have HBW := hid hbw
        have hbwr := HJ.out.2.2.1
        have hbw2 : Below base w W := hbwr.trans (hbw.mono (Nat.le_trans HBS.out hbwr.size))
        have HC := hid (HCL.out x W (List.mem_of_getElem? hx) hbw2)
        have HB2 := hid hbw2
        obtain ⟨P0, HP0⟩ : ∃ b, Hid (b = p x) := ⟨_, rfl⟩
        rw [← HP0.out] at HC
        unfold viewV at HC
        have k0 := hkw.cell 0 _ rfl
        have k1 := hkw.cell 1 _ rfl
        have k2 := hkw.cell 2 _ rfl
        have k3 := hkw.cell 3 _ rfl
        have k4 := hkw.cell 4 _ rfl
        have k5 := hkw.cell 5 _ rfl
        have k6 := hkw.cell 6 _ rfl
        have kl := hkw.lt
        have HOW := hid (HJ.out.1.below_of hbw)
        clear hx hLx hbw hkw hbwr hbw2
        go_upto_region 8 with fail
        rw [← HW.out, ← HB.out]
        clear n0 n1 n2 n3 n4 n5 n6 hix hgl
        go_wp2_with fail
        refine HC.out.mono ?_
        rintro e w5 ⟨rfl, hb5⟩
        have HO5 := hid (HOW.out.below_of hb5)
        have HB5 := hid (HB2.out.trans (hb5.mono (Nat.le_trans HBS.out HB2.out.size)))
        have HK5 := hid (HKW.out.below hb5)
        clear hb5 k0 k1 k2 k3 k4 k5 k6 kl
        have HTJ : Hid ((l.take (j + 1)).filter (fun x => !p x) = (l.take j).filter (fun x => !p x) ++ if P0 = true then [] else [x]) := by
          rw [Hid, List.take_add_one, HX.out.1, List.filter_append, HP0.out]
          cases h : p x <;> simp [h]
        cases P0 with
        | true =>
          go_wp2_with fail
          go_roundw
          case rel => exact ⟨i, j + 1, L, rfl, by go_num, by omega, hlt, HO5.out, HJ.out.2.1, HB5.out, by rw [HTJ.out]; simpa using HJ.out.2.2.2.1, by
            have h := congrArg (List.drop 1) HJ.out.2.2.2.2
            rwa [List.drop_drop, List.drop_drop] at h⟩
          case measure => simp [intOf]; omega
        | false =>
          obtain ⟨y, hy⟩ : ∃ y, L[i]? = some y := ⟨_, List.getElem?_eq_getElem (by rw [HJ.out.2.1]; omega)⟩
          obtain ⟨m0, z0, hgl⟩ := HO5.out.cell i y hy 0 _ rfl
          obtain ⟨m1, z1, -⟩ := HO5.out.cell i y hy 1 _ rfl
          obtain ⟨m2, z2, -⟩ := HO5.out.cell i y hy 2 _ rfl
          obtain ⟨m3, z3, -⟩ := HO5.out.cell i y hy 3 _ rfl
          obtain ⟨m4, z4, -⟩ := HO5.out.cell i y hy 4 _ rfl
          obtain ⟨m5, z5, -⟩ := HO5.out.cell i y hy 5 _ rfl
          obtain ⟨m6, z6, -⟩ := HO5.out.cell i y hy 6 _ rfl
          rw [Nat.add_zero] at m0 z0
          have hix := index_run under_views size_vw (a := some ⟨g, 0, none⟩) rfl i (show i < n by omega) (cap := c)
          rw [Nat.zero_add] at hix
          have k0 := HK5.out.cell 0 _ rfl
          have k1 := HK5.out.cell 1 _ rfl
          have k2 := HK5.out.cell 2 _ rfl
          have k3 := HK5.out.cell 3 _ rfl
          have k4 := HK5.out.cell 4 _ rfl
          have k5 := HK5.out.cell 5 _ rfl
          have k6 := HK5.out.cell 6 _ rfl
          have kl := HK5.out.lt
          have HPUT := hid (HO5.out.put i (by rw [HJ.out.2.1]; omega) x)
          have HBP := hid (setCells_below hgb.out x.cells (i * 7) w5 w HB5.out)
          clear hy
          go_wp2_with fail
          go_roundw
          case rel => exact ⟨i + 1, j + 1, L.set i x, by go_num, by go_num, by omega, hlt, HPUT.out, by rw [List.length_set]; exact HJ.out.2.1, HBP.out, by
            rw [HTJ.out, if_neg (by decide), ← HJ.out.2.2.2.1, List.take_add_one, List.take_set_of_le (Nat.le_refl _), List.getElem?_set_self (by rw [HJ.out.2.1]; omega)]; rfl, by
            have h := congrArg (List.drop 1) HJ.out.2.2.2.2
            rw [List.drop_drop, List.drop_drop] at h
            rw [List.drop_set_of_lt (by omega)]; exact h⟩
          case measure => simp [intOf]; omega
      · obtain rfl : j = n := by omega
        have hic : c ≠ i := by omega
        have hslc : ∀ W, (Instr.slice 135 (.slice (some ⟨g, 0, none⟩) j c) (some (.int .i64 (i : Int))) none none).run Tryz.prog W = .ok (.slice (some ⟨g, i * 7, none⟩) (j - i) (c - i)) W := by
          intro W
          rw [slice_l_run under_views size_vw (some ⟨g, 0, none⟩) j c i (by omega)]
          simp [sliced, hic, addr_add]
        have hslh : ∀ W, (Instr.slice 135 (.slice (some ⟨g, 0, none⟩) j c) none (some (.int .i64 (i : Int))) none).run Tryz.prog W = .ok (.slice (some ⟨g, 0, none⟩) i c) W := by
          intro W
          rw [slice_h_run under_views size_vw (some ⟨g, 0, none⟩) j c i (by omega)]
          simp [sliced, addr_add]
        obtain ⟨w6, hr6, hO6, hB6⟩ := HJ.out.1.clear i hij 0
        have HE : Hid (Q (.returned (.slice (some ⟨g, 0, none⟩) i c)) w6) := by
          have e : L.take i = l.filter (fun x => !p x) := by rw [HJ.out.2.2.2.1, List.take_of_length_le (by rw [HN.out]; exact Nat.le_refl _)]
          rw [e] at hO6
          rw [HQ.out]
          exact ⟨_, rfl, hO6, hB6 w HJ.out.2.2.1⟩
        have HR6 := hid hr6
        clear hr6 hO6 hB6 hic
        go_wp2_with (refine wpList_clear_eq (o := ⟨none, _, _, _, _, _⟩) rfl _ _ rfl _ rfl HR6.out ?_)
        exact HE.out
end Go.Proofs.YtfimpmennkfjcaaGreatDoor
namespace Go.Proofs.YtfimpmennkfjcaaGreatDoor
open Go.RowKit
theorem enter_those (args : Array Value) (w : World) : (callFunc 145 args).run Tryz.prog w = .ok (.enter 145 args) w := (enters_of Tryz.func145 (by kernel_rfl) rfl) args w
theorem enter_of1 (args : Array Value) (w : World) : (callFunc 109 args).run Tryz.prog w = .ok (.enter 109 args) w := (enters_of Tryz.func109 (by kernel_rfl) rfl) args w
theorem OwnV.mono {w : World} {base base' : Nat} {v : Value} {l : List VW} (h : OwnV w base v l) (hb : base' ≤ base) : OwnV w base' v l :=
  ⟨h.1, h.2.imp id (fun ⟨g, cap, cur, hv, hg, r⟩ => ⟨g, cap, cur, hv, Nat.le_trans hb hg, r⟩)⟩
set_option maxRecDepth 100000 in
set_option maxHeartbeats 4000000 in
theorem those_fn {w : World} {B F : Nat} {cap : Array Value} {q : Bool} (hB : w.cell? ⟨B, 0, none⟩ = some (.func (.func F) #[] cap)) (hcf : ∀ (args : Array Value) (w : World), (callFunc F args).run Tryz.prog w = .ok (.enter F args) w) (x : VW)
    (hcl : ∀ W, Below w.heap.size w W → Calls Tryz.prog F (#[viewV x.r x.k x.run] ++ cap) W fun e w' => e = .returned (.bool q) ∧ Below W.heap.size W w') :
    Calls Tryz.prog 145 #[viewV x.r x.k x.run, .pointer (some ⟨B, 0, none⟩)] w fun e w' => e = .returned (.bool (!q)) ∧ Below w.heap.size w w' := by
  obtain ⟨⟨x1, x2, x3, x4, x5⟩, xk, xrun⟩ := x
  have hl := World.block_lt_of_cell? w _ hB
  obtain ⟨W1, HW1⟩ : ∃ W1, Hid (W1 = w.alloc (.cells #[.int .i64 x1, .int .i64 x2, .int .i64 x3, .int .i64 x4, .int .i64 x5, .int .i64 xk, .bool xrun] 140)) := ⟨_, rfl⟩
  have hb1 : Below w.heap.size w W1 := by rw [HW1.out]; exact (Below.refl _ _).alloc (Nat.le_refl _) _
  have HB1 := hid hb1
  have HCL := hid (hcl W1 hb1)
  unfold viewV at HCL
  unfold viewV
  simp only at HCL ⊢
  clear hcl hb1
  go_enter Tryz.func145, Tryz.ntmps145
  go_wp2_with fail
  rw [← HW1.out]
  refine HCL.out.mono ?_
  rintro e w2 ⟨rfl, hb2⟩
  have HB2 := hid (HB1.out.trans (hb2.mono HB1.out.size))
  clear hb2
  go_wp2_with fail
  go_ret
  exact ⟨rfl, HB2.out⟩
set_option maxRecDepth 100000 in
set_option maxHeartbeats 4000000 in
theorem of_fn {w : World} {B : Nat} {n : Int} (hB : w.cell? ⟨B, 0, none⟩ = some (.int .i64 n)) (x : VW) :
    Calls Tryz.prog 109 #[viewV x.r x.k x.run, .pointer (some ⟨B, 0, none⟩)] w fun e w' => e = .returned (.bool (decide ((x.r.number : Int) = n))) ∧ Below w.heap.size w w' := by
  obtain ⟨⟨x1, x2, x3, x4, x5⟩, xk, xrun⟩ := x
  have hl := World.block_lt_of_cell? w _ hB
  unfold viewV
  simp only
  have hb1 : Below w.heap.size w (w.alloc (.cells #[.int .i64 x1, .int .i64 x2, .int .i64 x3, .int .i64 x4, .int .i64 x5, .int .i64 xk, .bool xrun] 140)) := (Below.refl _ _).alloc (Nat.le_refl _) _
  have HB1 := hid hb1
  clear hb1
  go_enter Tryz.func109, Tryz.ntmps109
  go_wp2_with fail
  go_ret
  exact ⟨rfl, HB1.out⟩
set_option maxRecDepth 100000 in
set_option maxHeartbeats 4000000 in
theorem view_those {w : World} {v vf : Value} {l : List UInt8} {fs : List Fld} (h : Bytes w v l) (hl : l.length ≤ 1099511627776) (hf : FieldsAt w vf fs) (nm : ByteArray) (F : Nat) (cap : Array Value) (p : VW → Bool) (hcf : ∀ (args : Array Value) (w : World), (callFunc F args).run Tryz.prog w = .ok (.enter F args) w)
    (hcl : ∀ (x : VW) (wr : World), Below w.heap.size w wr → Calls Tryz.prog F (#[viewV x.r x.k x.run] ++ cap) wr fun e w' => e = .returned (.bool (p x)) ∧ Below wr.heap.size wr w') :
    Calls Tryz.prog 108 #[.agg #[.string nm, vf], v, .func (.func F) #[] cap] w fun e w' => ∃ v' base, e = .returned v' ∧ w.heap.size ≤ base ∧ OwnV w' base v' ((vall fs l).1.filter p) ∧ Below w.heap.size w w' := by
  obtain ⟨-, a, c, rfl, -⟩ := h.open
  obtain ⟨-, fa, fc, rfl, -⟩ := hf.open
  obtain ⟨n, HN⟩ : ∃ n, Hid (n = l.length) := ⟨_, rfl⟩
  obtain ⟨fn, HFN⟩ : ∃ n, Hid (n = fs.length) := ⟨_, rfl⟩
  rw [← HN.out] at h ⊢
  rw [← HFN.out] at hf ⊢
  obtain ⟨X, HX⟩ : ∃ X, Hid (X = w.heap.size) := ⟨_, rfl⟩
  obtain ⟨W1, HW1⟩ : ∃ W1, Hid (W1 = (w.alloc (.cells #[.string nm, .slice fa fn fc] 67)).alloc (.cells #[.func (.func F) #[] cap] 142)) := ⟨_, rfl⟩
  have hb1 : Below w.heap.size w W1 := by rw [HW1.out]; (repeat (first | with_reducible exact Below.refl _ _ | with_reducible refine Below.setCell ?_ (by first | omega | (simp; omega) | (simp; done)) _ | with_reducible refine Below.alloc ?_ (by first | omega | (simp; omega) | (simp; done)) _ | with_reducible refine below_drewN ?_ _ | with_reducible refine Below.drew ?_))
  have hk1 : Blk W1 X [.string nm, .slice fa fn fc] 67 := by rw [HW1.out, HX.out]; exact (Blk.new w [.string nm, .slice fa fn fc] _).alloc _
  have hk2 : Blk W1 (X + 1) [.func (.func F) #[] cap] 142 := by rw [HW1.out, HX.out]; exact Blk.new' _ [.func (.func F) #[] cap] _ _ (by simp)
  have HA := hid (view_All (h.below hb1) hl (hf.below hb1) nm)
  have HB1 := hid hb1
  have HK2 := hid hk2
  have HCL := hid hcl
  obtain ⟨Q, HQ⟩ : ∃ Q : Ending → World → Prop, Hid (Q = fun e w' => ∃ v' base, e = .returned v' ∧ w.heap.size ≤ base ∧ OwnV w' base v' ((vall fs l).1.filter p) ∧ Below w.heap.size w w') := ⟨_, rfl⟩
  rw [← HQ.out]
  have HQ' := HQ
  have HLL : Hid ((vall fs l).1.length ≤ 1099511627776) := by have := vall_len fs l; show _ ≤ _; omega
  have k0 := hk1.cell 0 _ rfl
  have k1 := hk1.cell 1 _ rfl
  have kl := hk1.lt
  clear h hf hb1 hk1 hk2 hcl HQ
  go_enter Tryz.func108, Tryz.ntmps108
  go_upto_region 1 with fail
  rw [← HW1.out, ← HX.out]
  go_wp2_with fail
  refine HA.out.mono ?_
  rintro e w2 ⟨v2, base, rfl, hbase, hrows, hb2⟩
  obtain ⟨va, vc, rfl⟩ := hrows.form
  have HO2 := hid (views_own hrows)
  have HB2 := hid (HB1.out.trans (hb2.mono HB1.out.size))
  have k2 := (HK2.out.below hb2).cell 0 _ rfl
  have k2l := (HK2.out.below hb2).lt
  have hX1 : X + 1 < W1.heap.size := HK2.out.lt
  have hB2 : Below W1.heap.size W1 w2 := hb2
  have HD := hid (deleteFunc_views (base := W1.heap.size) (HO2.out.mono hbase) HLL.out hb2.size 145 #[.pointer (some ⟨X + 1, 0, none⟩)] (fun x => !p x) enter_those (fun x wr _ hb => those_fn ((show Blk wr (X + 1) _ _ from (hb.block (X + 1) hX1).trans (HK2.out.below hB2)).cell 0 _ rfl) hcf x fun W hW => HCL.out x W (HB2.out.trans ((hb.mono HB1.out.size).trans (hW.mono (Nat.le_trans HB2.out.size hb.size))))))
  unfold DelPost at HD
  obtain ⟨n2, HN2⟩ : ∃ n, Hid (n = (vall fs l).1.length) := ⟨_, rfl⟩
  rw [← HN2.out] at HD ⊢
  have HB1W := hid hbase
  clear hrows hb2 hX1 hB2 hbase
  go_wp2_with fail
  refine HD.out.mono ?_
  rintro e w3 ⟨v3, rfl, hO3, hb3⟩
  have HE : Hid (Q (.returned v3) w3) := by
    rw [HQ'.out]
    refine ⟨v3, W1.heap.size, rfl, HB1.out.size, ?_, HB2.out.trans (hb3.mono HB1.out.size)⟩
    simpa using hO3
  clear hO3 hb3
  go_wp2_with fail
  exact HE.out
set_option maxRecDepth 100000 in
set_option maxHeartbeats 4000000 in
theorem view_Of {w : World} {v vf : Value} {l : List UInt8} {fs : List Fld} (h : Bytes w v l) (hl : l.length ≤ 1099511627776) (hf : FieldsAt w vf fs) (nm : ByteArray) (n : Int) :
    Calls Tryz.prog 79 #[.agg #[.string nm, vf], v, .int .i64 n] w fun e w' => ∃ v' base, e = .returned v' ∧ w.heap.size ≤ base ∧ OwnV w' base v' ((vall fs l).1.filter fun x => decide ((x.r.number : Int) = n)) ∧ Below w.heap.size w w' := by
  obtain ⟨-, a, c, rfl, -⟩ := h.open
  obtain ⟨-, fa, fc, rfl, -⟩ := hf.open
  obtain ⟨ln, HN⟩ : ∃ n, Hid (n = l.length) := ⟨_, rfl⟩
  obtain ⟨fn, HFN⟩ : ∃ n, Hid (n = fs.length) := ⟨_, rfl⟩
  rw [← HN.out] at h ⊢
  rw [← HFN.out] at hf ⊢
  obtain ⟨X, HX⟩ : ∃ X, Hid (X = w.heap.size) := ⟨_, rfl⟩
  obtain ⟨W1, HW1⟩ : ∃ W1, Hid (W1 = (w.alloc (.cells #[.string nm, .slice fa fn fc] 67)).alloc (.cells #[.int .i64 n] 3)) := ⟨_, rfl⟩
  have hb1 : Below w.heap.size w W1 := by rw [HW1.out]; (repeat (first | with_reducible exact Below.refl _ _ | with_reducible refine Below.setCell ?_ (by first | omega | (simp; omega) | (simp; done)) _ | with_reducible refine Below.alloc ?_ (by first | omega | (simp; omega) | (simp; done)) _ | with_reducible refine below_drewN ?_ _ | with_reducible refine Below.drew ?_))
  have hk1 : Blk W1 X [.string nm, .slice fa fn fc] 67 := by rw [HW1.out, HX.out]; exact (Blk.new w [.string nm, .slice fa fn fc] _).alloc _
  have hk2 : Blk W1 (X + 1) [.int .i64 n] 3 := by rw [HW1.out, HX.out]; exact Blk.new' _ [.int .i64 n] _ _ (by simp)
  have HT := hid (view_those (h.below hb1) hl (hf.below hb1) nm 109 #[.pointer (some ⟨X + 1, 0, none⟩)] (fun x => decide ((x.r.number : Int) = n)) enter_of1 (fun x wr hb => of_fn ((hk2.below hb).cell 0 _ rfl) x))
  have HB1 := hid hb1
  obtain ⟨Q, HQ⟩ : ∃ Q : Ending → World → Prop, Hid (Q = fun e w' => ∃ v' base, e = .returned v' ∧ w.heap.size ≤ base ∧ OwnV w' base v' ((vall fs l).1.filter fun x => decide ((x.r.number : Int) = n)) ∧ Below w.heap.size w w') := ⟨_, rfl⟩
  rw [← HQ.out]
  have HQ' := HQ
  have k0 := hk1.cell 0 _ rfl
  have k1 := hk1.cell 1 _ rfl
  have kl := hk1.lt
  clear h hf hb1 hk1 hk2 HQ
  go_enter Tryz.func79, Tryz.ntmps79
  go_upto_region 1 with fail
  rw [← HW1.out, ← HX.out]
  go_wp2_with fail
  refine HT.out.mono ?_
  rintro e w2 ⟨v2, base, rfl, hbase, hO2, hb2⟩
  have HE : Hid (Q (.returned v2) w2) := by
    rw [HQ'.out]
    exact ⟨v2, base, rfl, Nat.le_trans HB1.out.size hbase, hO2, HB1.out.trans (hb2.mono HB1.out.size)⟩
  clear hO2 hb2
  go_wp2_with fail
  exact HE.out
end Go.Proofs.YtfimpmennkfjcaaGreatDoor
namespace Go.Proofs.YtfimpmennkfjcaaGreatDoor
open Go.RowKit
def wayHas (s : List Mes) : List Int → Nat → List UInt8 → Bool
  | [], _, _ => false
  | n :: r, m, l => (vall (s.getD m .zero).fields l).1.any fun x => decide ((x.r.number : Int) = n) && (decide (r = []) || wayHas s r ((s.getD m .zero).fields.getD x.k.toNat .zero).of.toNat (vbytes l x))
theorem firstAt_none {α : Type} (p : α → Bool) : ∀ (l : List α) (i : Nat), firstAt p l i = -1 → ∀ f ∈ l, p f = false
  | [], _, _, f, hf => by simp at hf
  | a :: r, i, h, f, hf => by
    rw [firstAt] at h
    by_cases ha : p a = true
    · rw [if_pos ha] at h; omega
    · rw [if_neg ha] at h
      rcases List.mem_cons.1 hf with rfl | hf
      · simpa using ha
      · exact firstAt_none p r (i + 1) h f hf
theorem vlook_unknown {fs : List Fld} {l : List UInt8} {j : Nat} {r : Rec} {run : Bool} (h : vlook fs l j = (r, -1, run, 0)) : fieldAt fs r.number < 0 := by
  unfold vlook at h
  by_cases h1 : (rnext l j).2 ≠ 0
  · rw [if_pos h1] at h
    have := congrArg (fun t => t.2.2.2) h
    exact absurd this h1
  · rw [if_neg h1] at h
    by_cases h2 : fieldAt fs (rnext l j).1.number < 0
    · rw [if_pos h2] at h
      have := congrArg (fun t => t.1) h
      simp only at this
      rw [← this]; exact h2
    · rw [if_neg h2] at h
      simp only at h
      split at h
      · have := congrArg (fun t => t.2.1) h
        simp only at this
        omega
      · split at h
        · have := congrArg (fun t => t.2.2.2) h
          simp at this
        · have := congrArg (fun t => t.2.1) h
          simp only at this
          omega
theorem getD_in' {α : Type} (l : List α) (k : Nat) (z : α) (h : k < l.length) : l.getD k z = l[k] := by simp [List.getD, h]
theorem way_field {s : List Mes} (hs : sright s = true) {d m : Nat} {l : List UInt8} {x : VW} (hm : m < s.length) (hx : ViewOk s d m l x) {n : Int} {r : List Int} {ns : List (List UInt8)} (hn : namesW s (m : Int) (n :: r) = some ns)
    (hxn : (x.r.number : Int) = n) (hr : r ≠ []) :
    ∃ q d' o : Nat, x.k = q ∧ q < (s.getD m .zero).fields.length ∧ ((s.getD m .zero).fields.getD q .zero).of = o ∧ o < s.length ∧ d = d' + 1 ∧ (vmsg s d' o (vbytes l x)).2 = 0 ∧ ∃ ns', namesW s (o : Int) r = some ns' := by
  rw [namesW] at hn
  cases hf : fieldOfNum s (m : Int) n with
  | none => rw [hf] at hn; cases hn
  | some f =>
    rw [hf] at hn
    simp only at hn
    by_cases hc : r ≠ [] ∧ (f.rep = true ∨ f.kind ≠ 17)
    · rw [if_pos hc] at hn; cases hn
    · rw [if_neg hc] at hn
      have h17 : f.kind = 17 := by
        by_cases h : f.kind = 17
        · exact h
        · exact absurd ⟨hr, .inr h⟩ hc
      obtain ⟨ns', hns, -⟩ := Option.map_eq_some_iff.1 hn
      unfold fieldOfNum at hf
      rw [Int.toNat_natCast] at hf
      have hfm := List.mem_of_find?_eq_some hf
      have hfn : f.number = n := by simpa using List.find?_some hf
      obtain ⟨j, hj⟩ := hx.look
      have hmem : s.getD m .zero ∈ s := by
        rw [getD_in' _ _ _ hm]; exact List.getElem_mem hm
      rcases vlook_cases (s.getD m .zero).fields l j with ⟨c, hc', e, -⟩ | ⟨r', h1, h2, h3, h4, h5, e | ⟨k, run, hk, e, h6, -⟩⟩
      · rw [e] at hj
        exact absurd (congrArg (fun t => t.2.2.2) hj) (by simpa using hc')
      · have hu := vlook_unknown e
        rw [e] at hj
        have e1 : r' = x.r := congrArg (fun t => t.1) hj
        rw [e1, hxn] at hu
        have h7 : fieldAt (s.getD m .zero).fields n = -1 := by
          rcases fieldAt_cases (s.getD m .zero).fields n with h | ⟨k, -, h, -⟩
          · exact h
          · omega
        have := firstAt_none _ _ 0 h7 f hfm
        simp at this
        exact absurd hfn this
      · rw [e] at hj
        have e1 : r' = x.r := congrArg (fun t => t.1) hj
        have e2 : (k : Int) = x.k := congrArg (fun t => t.2.1) hj
        rw [e1] at h6
        have hgm : (s.getD m .zero).fields.getD k .zero ∈ (s.getD m .zero).fields := by
          rw [getD_in' _ _ _ hk]; exact List.getElem_mem hk
        have hfa := find_apart _ (sright_apart hs _ hmem) _ hgm
        rw [h6, hxn] at hfa
        have hff : f = (s.getD m .zero).fields.getD k .zero := by
          rw [hf] at hfa
          exact Option.some.inj hfa
        obtain ⟨d', hd', hv⟩ := hx.sub (k := k) e2.symm (by rw [← hff]; exact h17)
        have hof := (sright_field hs m hm f hfm).2.1 h17
        obtain ⟨o, ho⟩ : ∃ o : Nat, f.of = o := ⟨f.of.toNat, by omega⟩
        rw [← hff, ho, Int.toNat_natCast] at hv
        exact ⟨k, d', o, e2.symm, hk, by rw [← hff]; exact ho, by omega, hd', hv, ns', by rw [← ho]; exact hns⟩
end Go.Proofs.YtfimpmennkfjcaaGreatDoor
