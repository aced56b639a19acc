/- Slices of the call's own: append as an equation of the run, whatever the source (nil too); slices.Clone of bytes. -/
import Derived.Test.YtgephhmkaonahaaValid
import Derived.Maps.AppendAt
import Derived.OwnWalk
import Derived.OwnWalkIn
namespace Go.Proofs.Ytgephhmkaonahaa
open Go.RowKit

theorem run_append_of_nil {P : Program} (w : World) (base : Nat) (t ty e : TypeId) (i : TypeInfo) (size : Nat) (ht : P.underlying t = some (.slice e)) (hi : P.info? e = some i)
    (v : Value) (n : Nat) (xs : List Value) (hown : w.ownsRow base e size v n xs) (c : Nat) : (Builtin.append_ #[t, t] ty #[v, .slice none 0 c]).run P w = .ok v w := by
  rcases hown.2 with ⟨rfl, rfl⟩ | ⟨g, cap, cur, rfl, _, _, hnc, _⟩
  · simp [Builtin.append_, run_underlying ht, sizeOf, typeInfo, hi, Builtin.lenOf, Builtin.firstCells]
  · simp [Builtin.append_, run_underlying ht, sizeOf, typeInfo, hi, Builtin.lenOf, Builtin.firstCells, hnc, storeCells]

/-- append onto a row of the call's own, from whatever reads as cells -/
theorem seg_append {P : Program} (w : World) (base : Nat) (t ty e : TypeId) (z : Value) (size bytes : Nat) (ht : P.underlying t = some (.slice e)) (hinfo : (P.info? e).map (fun i => (i.zero, i.size, i.bytes)) = some (some z, size, bytes))
    (hzs : z.cells.size = size) (hsz : 0 < size) (v x : Value) (n m : Nat) (xs news : List Value) (hown : w.ownsRow base e size v n xs) (hx : Seg w x size m news) (h1 : ∀ u ∈ news, u.oneCell' = true)
    (h63 : n + m ≤ 140737488355328) (hbytes : (n + m) * bytes ≤ 140737488355328) (hbase : base ≤ w.heap.size) :
    ∃ v' w', (Builtin.append_ #[t, t] ty #[v, x]).run P w = .ok v' w' ∧ w'.ownsRow base e size v' (n + m) (xs ++ news) ∧ w.grownBy w' v.ownBlock ∧ (v'.ownBlock = v.ownBlock ∨ v'.ownBlock = some w.heap.size) := by
  obtain ⟨i, hi, hz, hsize, hby⟩ := info_parts hinfo
  obtain ⟨hl, hm, a, cap, rfl, hmc, hcap, hnil, hc⟩ := hx
  cases a with
  | none =>
    have hm0 : m = 0 := by have := hnil rfl; omega
    subst hm0
    have hn : news = [] := List.eq_nil_of_length_eq_zero (by simpa using hl)
    subst hn
    exact ⟨v, w, run_append_of_nil w base t ty e i size ht hi v n xs hown cap, by simpa using hown, World.grownBy.refl w _, .inl rfl⟩
  | some ad =>
    have hcells : ∀ j u, news[j]? = some u → w.cell? (ad.add j) = some u := fun j u hu => by
      obtain ⟨b, o, e', h⟩ := hc j u hu
      cases e'
      rw [addr_add]; exact h
    obtain ⟨v', w', hrun, h2, h3, -, h5⟩ := run_append_own_at (P := P) w base t ty e i z size bytes ht hi hz hsize hby hzs hsz v n xs hown ad m cap news hl hcells h1 (by unfold maxLen; omega) hbytes hbase
    exact ⟨v', w', hrun, h2, h3, h5⟩

/-- the operation, by its run -/
theorem wp_append_eq {P : Program} {w : World} {o : Oper} {a : Act} {K : Act → World → Prop} {Q : Exit → Act → World → Prop} (s x : Operand) (t : TypeId)
    (ho : o.op = .call { callee := .builtin .append, args := #[s, x], argTypes := #[t, t] }) (v xv : Value) (hs : a.eval s = v) (hx : a.eval x = xv) {v' : Value} {w' : World}
    (hr : (Builtin.append_ #[t, t] o.type #[v, xv]).run P w = .ok v' w') (h : K (a.put o.dst v') w') : o.wp P a w K Q := by
  unfold Oper.wp execOp
  simp only [ho, resolve, invoke, builtin, Sem.run_bind, Sem.run_pure, Result.andThen_ok, List.map_toArray, List.map_cons, List.map_nil, hs, hx, hr]
  exact h
theorem wpList_append_eq {P : Program} {w : World} {ops : Array Oper} {rest : List Oper} {o : Oper} {a : Act} {Q : Exit → Act → World → Prop} (hgd : o.guard = none) (s x : Operand) (t : TypeId)
    (ho : o.op = .call { callee := .builtin .append, args := #[s, x], argTypes := #[t, t] }) (v xv : Value) (hs : a.eval s = v) (hx : a.eval x = xv) {v' : Value} {w' : World}
    (hr : (Builtin.append_ #[t, t] o.type #[v, xv]).run P w = .ok v' w') (h : wpList P ops Q rest (a.put o.dst v') w') : wpList P ops Q (o :: rest) a w :=
  wpList_plain hgd fun _ hK => wp_append_eq s x t ho v xv hs hx hr (hK _ _ h)
theorem step_append_eq {P : Program} {w : World} {ops : Array Oper} {o : Oper} {a : Act} {K : Act → World → Prop} {Q : Exit → Act → World → Prop} {E : Prop} (hgd : o.guard = none) (s x : Operand) (t : TypeId)
    (ho : o.op = .call { callee := .builtin .append, args := #[s, x], argTypes := #[t, t] }) (v xv : Value) (hs : a.eval s = v) (hx : a.eval x = xv) {v' : Value} {w' : World}
    (hr : (Builtin.append_ #[t, t] o.type #[v, xv]).run P w = .ok v' w') (h : K (a.put o.dst v') w') :
    if Region.wanted o (yielded ops a.tmps) = true then Oper.wp P o a w K Q else E := by
  have hw : Region.wanted o (yielded ops a.tmps) = true := by simp [Region.wanted, hgd]
  rw [if_pos hw]
  exact wp_append_eq s x t ho v xv hs hx hr h

theorem wpListIn_append_eq {F : Fence} {n : Nat} {P : Program} {w : World} {ops : Array Oper} {rest : List Oper} {o : Oper} {a : Act} {Q : Exit → Act → World → Prop} (hgd : o.guard = none) (s x : Operand) (t : TypeId)
    (ho : o.op = .call { callee := .builtin .append, args := #[s, x], argTypes := #[t, t] }) (v xv : Value) (hs : a.eval s = v) (hx : a.eval x = xv) {v' : Value} {w' : World}
    (hr : (Builtin.append_ #[t, t] o.type #[v, xv]).run P w = .ok v' w') (h : wpListIn F n P ops Q rest (a.put o.dst v') w') : wpListIn F n P ops Q (o :: rest) a w := by
  refine wpListIn_plain hgd fun K hK => ?_
  unfold Oper.wpIn
  refine ⟨?_, ?_⟩
  · simp [Oper.about, ho, resolve, Target.leads, Sem.run_pure]
  · rw [Oper.semAt_plain F _ _ (by rw [ho]; intro c hc'; cases hc')]
    simp [execOp, ho, resolve, invoke, builtin, hs, hx, hr, Result.andThen]
    exact hK _ _ h

theorem stepIn_append_eq {F : Fence} {n : Nat} {P : Program} {w : World} {ops : Array Oper} {o : Oper} {a : Act} {K : Act → World → Prop} {Q : Exit → Act → World → Prop} {E : Prop} (hgd : o.guard = none) (s x : Operand) (t : TypeId)
    (ho : o.op = .call { callee := .builtin .append, args := #[s, x], argTypes := #[t, t] }) (v xv : Value) (hs : a.eval s = v) (hx : a.eval x = xv) {v' : Value} {w' : World}
    (hr : (Builtin.append_ #[t, t] o.type #[v, xv]).run P w = .ok v' w') (h : K (a.put o.dst v') w') :
    if Region.wanted o (yielded ops a.tmps) = true then Oper.wpIn F n P o a w K Q else E := by
  have hw : Region.wanted o (yielded ops a.tmps) = true := by simp [Region.wanted, hgd]
  rw [if_pos hw]
  unfold Oper.wpIn
  refine ⟨?_, ?_⟩
  · simp [Oper.about, ho, resolve, Target.leads, Sem.run_pure]
  · rw [Oper.semAt_plain F _ _ (by rw [ho]; intro c hc'; cases hc')]
    simp [execOp, ho, resolve, invoke, builtin, hs, hx, hr, Result.andThen]
    exact h

theorem info_u8 : (Try.prog.info? 5).map (fun i => (i.zero, i.size, i.bytes)) = some (some (.int .u8 0), 1, 1) := by kernel_rfl

/-- A []byte of the call's own (blocks from base on). -/
def Own (w : World) (base : Nat) (v : Value) (l : List UInt8) : Prop := w.ownsRow base 5 1 v l.length (l.map byteV)

theorem own_nil (w : World) (base : Nat) : Own w base (.slice none 0 0) [] := World.ownsRow_nil _ _ _ _

theorem row_seg {w : World} {base size n : Nat} {e : TypeId} {v : Value} {xs : List Value} (h : w.ownsRow base e size v n xs) (hn : n ≤ 140737488355328) : Seg w v size n xs := by
  refine ⟨h.1, hn, ?_⟩
  rcases h.2 with ⟨rfl, rfl⟩ | ⟨g, cap, cur, rfl, hb, hg, hnc, hcm, hcs, ht⟩
  · exact ⟨none, 0, rfl, Nat.le_refl _, by omega, fun _ => rfl, fun j u hu => by
      have := h.1
      simp at this
      subst this
      simp at hu⟩
  · refine ⟨some ⟨g, 0, none⟩, cap, rfl, hnc, hcm, by simp, fun j u hu => ⟨g, 0, rfl, ?_⟩⟩
    have := h.cells (g := g) rfl j u hu
    rwa [addr_add] at this
theorem Own.bytes {w : World} {base : Nat} {v : Value} {l : List UInt8} (h : Own w base v l) (hn : l.length ≤ 140737488355328) : Bytes w v l := row_seg h hn

theorem own_append {w : World} {base : Nat} {v x : Value} {l m : List UInt8} (h : Own w base v l) (hx : Bytes w x m) (hlen : l.length + m.length ≤ 140737488355328) (hbase : base ≤ w.heap.size) :
    ∃ v' w', (Builtin.append_ #[22, 22] 22 #[v, x]).run Try.prog w = .ok v' w' ∧ Own w' base v' (l ++ m) ∧ w.grownBy w' v.ownBlock ∧ (v'.ownBlock = v.ownBlock ∨ v'.ownBlock = some w.heap.size) := by
  obtain ⟨v', w', h1, h2, h3, h4⟩ := seg_append (P := Try.prog) w base 22 22 5 (.int .u8 0) 1 1 under_bytes info_u8 rfl (by decide) v x l.length m.length _ _ h hx (by
    intro u hu
    obtain ⟨c, -, rfl⟩ := List.mem_map.1 hu
    rfl) hlen (by omega) hbase
  exact ⟨v', w', h1, by unfold Own; rw [List.length_append, List.map_append]; exact h2, h3, h4⟩

theorem Own.below_of {w w' : World} {base : Nat} {v : Value} {l : List UInt8} (h : Own w base v l) (hb : Below w.heap.size w w') : Own w' base v l :=
  World.ownsRow.kept (row := none) h (below_grown hb none) (by cases hv : v.ownBlock with | none => exact .inl rfl | some k => exact .inr (by simp))
theorem own_grown {w w0 w' : World} {v : Value} {l : List UInt8} (h : Own w w0.heap.size v l) (hB : Below w0.heap.size w0 w) (hg : w.grownBy w' v.ownBlock) : Below w0.heap.size w0 w' :=
  hB.grown hg hB.size (fun q e => (World.ownsRow.lt h q e).1)

/-- a literal -/
theorem own_lit (w : World) (cells : Array Value) (l : List UInt8) (n : Nat) (hn : n = l.length) (h : cells.toList = l.map byteV) (hl : l.length ≤ 140737488355328) :
    Own (w.alloc (.cells cells 5)) w.heap.size (.slice (some ⟨w.heap.size, 0, none⟩) n n) l := by
  subst hn
  have hs : cells.size = l.length := by have := congrArg List.length h; simpa using this
  refine ⟨by simp, .inr ⟨w.heap.size, l.length, cells, rfl, Nat.le_refl _, heap_alloc_new w _, Nat.le_refl _, by unfold maxLen; omega, by omega, ?_⟩⟩
  rw [h, List.take_of_length_le (by simp)]

theorem bytes_one (w : World) (T : TypeId) (c : UInt8) (z : Int) (hz : z = c.toNat) : Bytes (w.alloc (.cells #[.int .u8 z] T)) (.slice (some ⟨w.heap.size, 0, none⟩) 1 1) [c] :=
  bytes_new w T #[.int .u8 z] [c] (by simp [byteV, hz]) (by simp)

set_option maxRecDepth 100000 in
set_option maxHeartbeats 4000000 in
theorem clone_bytes {w : World} {v : Value} {l : List UInt8} (h : Bytes w v l) :
    Calls Try.prog 75 #[v] w fun e w' => ∃ v', e = .returned v' ∧ Own w' w.heap.size v' l ∧ Below w.heap.size w w' := by
  have H := hid h
  obtain ⟨hlen, a, cap, rfl, -, -, hnil, -⟩ := h.open
  obtain ⟨n, HN⟩ : ∃ n, Hid (n = l.length) := ⟨_, rfl⟩
  rw [← HN.out] at hlen H ⊢
  clear h
  cases a with
  | none =>
    have := hnil rfl
    go_enter Try.func75, Try.ntmps75
    have eqn := fun W a n c n' c' => Lib.run_eql_slice_nil (P := Try.prog) W 22 _ a n c n' c' under_bytes
    go_wp2
    go_ret
    refine ⟨_, rfl, ?_, Below.refl _ _⟩
    obtain rfl : l = [] := List.eq_nil_of_length_eq_zero (by have := HN.out; have := H.out.2.2; obtain ⟨a', c', e, h1, -⟩ := this; cases e; omega)
    exact own_nil _ _
  | some ad =>
    have hO : Own (w.alloc (.cells #[] 5)) w.heap.size (.slice (some ⟨w.heap.size, 0, none⟩) 0 0) [] := by
      exact World.ownsRow_made (base := w.heap.size) (e := 5) (size := 1) w #[] 0 (Nat.le_refl _) (by unfold maxLen; omega) rfl
    obtain ⟨v', w', hr, hO', hg, -⟩ := own_append hO (H.out.below ((Below.refl _ _).alloc (Nat.le_refl _) _)) (by rw [← HN.out]; simp; omega) (by simp)
    have hg' : Below w.heap.size w w' := ((Below.refl w.heap.size w).alloc (Nat.le_refl _) (.cells #[] 5)).grown hg (by simp) (by intro q e; simp [Value.ownBlock] at e; omega)
    have HO := hid hO'
    have HG := hid hg'
    clear hO' hg' hg hO
    go_enter Try.func75, Try.ntmps75
    have eqn := fun W a n c n' c' => Lib.run_eql_slice_nil (P := Try.prog) W 22 _ a n c n' c' under_bytes
    go_wp2_with (at_builtin; refine wpList_append_eq rfl _ _ _ rfl _ _ rfl rfl hr ?_)
    go_ret
    exact ⟨_, rfl, HO.out, HG.out⟩

end Go.Proofs.Ytgephhmkaonahaa
