/- What valid.Args and the document's Args return: argsCode; which field has a number, by the document's Field, by slices.IndexFunc with any closure, by view.field. No condition beyond that the arguments read as data. Blocks known whole: their cells, what leaves them as they are; two results in boxes of their own; rows kept. No condition. -/
import Derived.Test.YtphkmpnahnakaaaZ01
import Derived.Test.YtphkmpnahnakaaaZ06
import Derived.Maps.AppendAt
import Derived.RangeFuncFrom
namespace Go.Proofs.Ytphkmpnahnakaaa
open Go.RowKit
def argsCode (s : List Mes) (root d : Int) : Nat := if sright s = false then 9 else if root < 0 ∨ (s.length : Int) ≤ root ∨ d < 0 ∨ 64 < d then 2 else 0
set_option maxRecDepth 100000 in
set_option maxHeartbeats 2000000 in
theorem valid_Args {w : World} {v : Value} {s : List Mes} (h : SchemaAt w v s) (root d : Int) :
    Calls Try.prog 39 #[v, .int .i64 root, .int .i64 d] w fun e w' => e = .returned (.int .u8 (argsCode s root d)) ∧ Below w.heap.size w w' := by
  obtain ⟨hlen, a, cap, rfl, -⟩ := h.open
  obtain ⟨n, HN⟩ : ∃ n, Hid (n = s.length) := ⟨_, rfl⟩
  obtain ⟨x, HX⟩ : ∃ x, Hid (x = argsCode s root d) := ⟨_, rfl⟩
  rw [← HX.out]
  unfold argsCode at HX
  rw [← HN.out] at HX hlen h ⊢
  cases hs : sright s with
  | false =>
    have HS := hid hs
    clear hs
    obtain rfl : x = 9 := by rw [HX.out, if_pos HS.out]
    go_enter Try.func39, Try.ntmps39
    go_wp2_with (go_at_call 58; refine (schema_Right h).mono ?_; rintro e w1 ⟨rfl, hb⟩; rw [HS.out])
    go_ret
    exact ⟨rfl, hb⟩
  | true =>
    have HS := hid hs
    clear hs
    have HX1 : Hid (x = if root < 0 ∨ (n : Int) ≤ root ∨ d < 0 ∨ 64 < d then 2 else 0) := by rw [Hid, HX.out, if_neg (by rw [HS.out]; decide)]
    by_cases c1 : root < 0
    · obtain rfl : x = 2 := by rw [HX1.out, if_pos (by omega)]
      go_enter Try.func39, Try.ntmps39
      go_wp2_with (go_at_call 58; refine (schema_Right h).mono ?_; rintro e w1 ⟨rfl, hb⟩; rw [HS.out])
      go_ret
      exact ⟨rfl, hb⟩
    · by_cases c2 : (n : Int) ≤ root
      · obtain rfl : x = 2 := by rw [HX1.out, if_pos (by omega)]
        go_enter Try.func39, Try.ntmps39
        go_wp2_with (go_at_call 58; refine (schema_Right h).mono ?_; rintro e w1 ⟨rfl, hb⟩; rw [HS.out])
        go_ret
        exact ⟨rfl, hb⟩
      · by_cases c3 : d < 0
        · obtain rfl : x = 2 := by rw [HX1.out, if_pos (by omega)]
          go_enter Try.func39, Try.ntmps39
          go_wp2_with (go_at_call 58; refine (schema_Right h).mono ?_; rintro e w1 ⟨rfl, hb⟩; rw [HS.out])
          go_ret
          exact ⟨rfl, hb⟩
        · by_cases c4 : 64 < d
          · obtain rfl : x = 2 := by rw [HX1.out, if_pos (by omega)]
            go_enter Try.func39, Try.ntmps39
            go_wp2_with (go_at_call 58; refine (schema_Right h).mono ?_; rintro e w1 ⟨rfl, hb⟩; rw [HS.out])
            go_ret
            exact ⟨rfl, hb⟩
          · obtain rfl : x = 0 := by rw [HX1.out, if_neg (by omega)]
            go_enter Try.func39, Try.ntmps39
            go_wp2_with (go_at_call 58; refine (schema_Right h).mono ?_; rintro e w1 ⟨rfl, hb⟩; rw [HS.out])
            go_ret
            exact ⟨rfl, hb⟩
/-- the place of the first that is so; -1: none -/
def firstAt {α : Type} (p : α → Bool) : List α → Nat → Int
  | [], _ => -1
  | f :: r, i => if p f then i else firstAt p r (i + 1)
def fieldAt (fs : List Fld) (n : Int) : Int := firstAt (fun f => decide (f.number = n)) fs 0
theorem firstAt_at (p : Fld → Bool) (fs : List Fld) (k : Nat) (hk : k < fs.length) : firstAt p (fs.drop k) k = if p (fs.getD k .zero) then (k : Int) else firstAt p (fs.drop (k + 1)) (k + 1) := by
  have e : fs.getD k .zero = fs[k] := by simp [List.getD, hk]
  rw [e, List.drop_eq_getElem_cons hk, firstAt]
theorem firstAt_bd {α : Type} (p : α → Bool) : ∀ (fs : List α) (i : Nat), firstAt p fs i = -1 ∨ ∃ k : Nat, firstAt p fs i = k ∧ i ≤ k ∧ k < i + fs.length
  | [], _ => .inl rfl
  | f :: r, i => by
    simp only [firstAt]
    split
    · exact .inr ⟨i, rfl, by omega, by simp⟩
    · rcases firstAt_bd p r (i + 1) with h | ⟨k, h, h1, h2⟩
      · exact .inl h
      · exact .inr ⟨k, h, by omega, by simp; omega⟩
set_option maxRecDepth 100000 in
theorem indexFunc_fld {w : World} {v : Value} {fs : List Fld} (h : FieldsAt w v fs) (F : Nat) (cap : Array Value) (p : Fld → Bool) (hcf : ∀ (args : Array Value) (w : World), (callFunc F args).run Try.prog w = .ok (.enter F args) w)
    (hcl : ∀ (f : Fld) (wr : World), f.Ok → Below w.heap.size w wr → Calls Try.prog F (#[f.val] ++ cap) wr fun e w' => e = .returned (.bool (p f)) ∧ Below wr.heap.size wr w') :
    Calls Try.prog 78 #[v, .func (.func F) #[] cap] w fun e w' => e = .returned (.int .i64 (firstAt p fs 0)) ∧ Below w.heap.size w w' := by
  obtain ⟨hlen, a, c, rfl, hat⟩ := h.open
  obtain ⟨n, HN⟩ : ∃ n, Hid (n = fs.length) := ⟨_, rfl⟩
  rw [← HN.out] at hat hlen ⊢
  have HAT := hid hat
  have HCL := hid hcl
  clear hat hcl
  go_enter Try.func78, Try.ntmps78
  go_wp2
  go_loopw [8] (fun v8 wr => ∃ k : Nat, k ≤ n ∧ v8 = .int .i64 k ∧ Hid (firstAt p (fs.drop k) k = firstAt p fs 0) ∧ Hid (Below w.heap.size w wr)) (fun v8 _ => n - (intOf v8).toNat)
  case atStart => exact ⟨0, by omega, rfl, hid rfl, Below.refl _ _⟩
  case round =>
    obtain ⟨k, hk, rfl, HK, HB⟩ := hrel
    by_cases hlt : k < n
    · have hat := HAT.out
      obtain ⟨b, o, ha, hfok, g0, g1, g2, g3, g4, g5⟩ := hat k hlt
      clear hat
      have hkw : ∀ p u, w.cell? p = some u → wr.cell? p = some u := fun p u hu => (Below.cell (p := p) HB.out (World.block_lt_of_cell? w p hu)).trans hu
      have r0 := hkw _ _ g0
      have r1 := hkw _ _ g1
      have r2 := hkw _ _ g2
      have r3 := hkw _ _ g3
      have r4 := hkw _ _ g4
      have r5 := hkw _ _ g5
      have hix := index_run Try.underlying45 size_fld ha k hlt (cap := c)
      have HA := hid ha
      have hst := hid (firstAt_at p fs k (by rw [← HN.out]; exact hlt))
      obtain ⟨f, HF⟩ : ∃ f, Hid (f = fs.getD k .zero) := ⟨_, rfl⟩
      rw [← HF.out] at hfok r0 r1 r2 r3 r4 r5 hst
      have HFO := hid hfok
      clear ha hkw g0 g1 g2 g3 g4 g5 hfok
      go_wp2_with fail
      have hcl := HCL.out
      refine (hcl f _ HFO.out HB.out).mono ?_
      rintro e w5 ⟨rfl, hb5⟩
      clear hcl
      have HB5 : Hid (Below w.heap.size w w5) := below_step HB.out hb5 HB.out.size
      clear hb5
      cases hp : p f with
      | true =>
        have e : firstAt p fs 0 = k := by rw [← HK.out, hst.out, if_pos hp]
        have HE := hid e
        clear hp e
        go_wp2
        go_ret
        exact ⟨by rw [HE.out]; rfl, HB5.out⟩
      | false =>
        have e : firstAt p (fs.drop (k + 1)) (k + 1) = firstAt p fs 0 := by rw [← HK.out, hst.out, if_neg (by rw [hp]; decide)]
        have HE := hid e
        clear hp e
        go_wp2
        go_roundw
        case rel => exact ⟨k + 1, by omega, by go_num, HE.out, HB5.out⟩
        case measure => simp [intOf]; omega
    · go_wp2
      go_ret
      have e : firstAt p fs 0 = -1 := by
        rw [← HK.out, List.drop_of_length_le (by rw [← HN.out]; omega)]; rfl
      exact ⟨by rw [e]; rfl, HB.out⟩
set_option maxRecDepth 100000 in
theorem view_field_1 {w : World} {q : Nat} {x : Int} (hq : w.cell? ⟨q, 0, none⟩ = some (.int .i64 x)) (f : Fld) :
    Calls Try.prog 79 #[f.val, .pointer (some ⟨q, 0, none⟩)] w fun e w' => e = .returned (.bool (decide (f.number = x))) ∧ Below w.heap.size w w' := by
  obtain ⟨name, number, kind, rep, packed, of⟩ := f
  simp only [Fld.val]
  have hql : q < w.heap.size := World.block_lt_of_cell? w _ hq
  go_enter Try.func79, Try.ntmps79
  go_wp2
  go_ret
  refine ⟨ret1 ?_, by (repeat (first | with_reducible exact Below.refl _ _ | with_reducible refine Below.setCell ?_ (by first | omega | (simp; omega) | (simp; done)) _ | with_reducible refine Below.alloc ?_ (by first | omega | (simp; omega) | (simp; done)) _ | with_reducible refine below_drewN ?_ _ | with_reducible refine Below.drew ?_))⟩
  show Value.bool (number == x) = _
  congr 1
set_option maxRecDepth 100000 in
theorem view_field {w : World} {v : Value} {fs : List Fld} (h : FieldsAt w v fs) (nm : ByteArray) (x : Int) :
    Calls Try.prog 61 #[.agg #[.string nm, v], .int .i64 x] w fun e w' => e = .returned (.int .i64 (fieldAt fs x)) ∧ Below w.heap.size w w' := by
  obtain ⟨hlen, a, c, rfl, -⟩ := h.open
  go_enter Try.func61, Try.ntmps61
  go_wp2_with fail
  refine (indexFunc_fld (h.keep (w' := (w.alloc _).alloc _) (below_keeps (Below.alloc ((Below.refl _ _).alloc (Nat.le_refl _) _) (by simp) _))) 79 _ (fun f => decide (f.number = x)) (fun args w => by simp [go_sem]) ?_).mono ?_
  · intro f wr hok hb
    refine view_field_1 ?_ f
    have := below_keeps hb ⟨w.heap.size + 1, 0, none⟩ (.int .i64 x) (by simp [go_sem])
    exact this
  · rintro e w5 ⟨rfl, hb⟩
    go_wp2
    go_ret
    exact ⟨rfl, below_step (Below.alloc ((Below.refl _ _).alloc (Nat.le_refl _) _) (by simp) _) hb (by simp; omega)⟩
end Go.Proofs.Ytphkmpnahnakaaa
namespace Go.Proofs.Ytphkmpnahnakaaa
open Go.RowKit
/-- a block of one's own, known whole -/
def Blk (w : World) (b : Nat) (cs : List Value) (T : TypeId) : Prop := w.heap[b]? = some (.cells cs.toArray T (0, 0))
theorem Blk.cell {w : World} {b : Nat} {cs : List Value} {T : TypeId} (h : Blk w b cs T) (j : Nat) (u : Value) (hu : cs[j]? = some u) : w.cell? ⟨b, j, none⟩ = some u := by
  rw [cell_of_row _ _ _ _ T (0, 0) h]; simpa using hu
theorem Blk.free {w : World} {b : Nat} {cs : List Value} {T : TypeId} (h : Blk w b cs T) (j : Nat) : w.frozen? ⟨b, j, none⟩ = false := by
  unfold Blk at h
  simp [World.frozen?, h]
theorem Blk.lt {w : World} {b : Nat} {cs : List Value} {T : TypeId} (h : Blk w b cs T) : b < w.heap.size := by
  unfold Blk at h
  rw [Array.getElem?_eq_some_iff] at h
  exact h.1
theorem Blk.below {w w' : World} {b : Nat} {cs : List Value} {T : TypeId} (h : Blk w b cs T) (hb : Below w.heap.size w w') : Blk w' b cs T := (hb.block b h.lt).trans h
theorem Blk.alloc {w : World} {b : Nat} {cs : List Value} {T : TypeId} (h : Blk w b cs T) (o : Obj) : Blk (w.alloc o) b cs T := (Below.heap_alloc w o b h.lt).trans h
theorem Blk.new (w : World) (cs : List Value) (T : TypeId) : Blk (w.alloc (.cells cs.toArray T)) w.heap.size cs T := heap_alloc_new w _
theorem Blk.set_other {w : World} {b : Nat} {cs : List Value} {T : TypeId} (h : Blk w b cs T) (a : Addr) (v : Value) (hne : b ≠ a.block) : Blk (w.setCell a v) b cs T := (Below.heap_setCell w a v b hne).trans h
theorem Blk.set {w : World} {b : Nat} {cs : List Value} {T : TypeId} (h : Blk w b cs T) (j : Nat) (v : Value) : Blk (w.setCell ⟨b, j, none⟩ v) b (cs.set j v) T := by
  unfold Blk at *
  obtain ⟨hlt, hk⟩ := Array.getElem?_eq_some_iff.1 h
  show (w.heap.modify b _)[b]? = _
  rw [Array.getElem?_eq_getElem (by rw [Array.size_modify]; exact hlt), Array.getElem_modify_self, hk]
  simp
theorem cell_set_other (w : World) (a : Addr) (v : Value) (q j : Nat) (hne : q ≠ a.block) : (w.setCell a v).cell? ⟨q, j, none⟩ = w.cell? ⟨q, j, none⟩ := World.cell?_of_block (Below.heap_setCell w a v q hne)
theorem cell_set7 (w : World) (p q j : Nat) (hne : q ≠ p) (v0 v1 v2 v3 v4 v5 v6 : Value) :
    (((((((w.setCell ⟨p, 0, none⟩ v0).setCell ⟨p, 1, none⟩ v1).setCell ⟨p, 2, none⟩ v2).setCell ⟨p, 3, none⟩ v3).setCell ⟨p, 4, none⟩ v4).setCell ⟨p, 5, none⟩ v5).setCell ⟨p, 6, none⟩ v6).cell? ⟨q, j, none⟩ = w.cell? ⟨q, j, none⟩ := by
  repeat rw [cell_set_other _ _ _ _ _ hne]
theorem Blk.new' (w : World) (cs : List Value) (T : TypeId) (n : Nat) (h : n = w.heap.size) : Blk (w.alloc (.cells cs.toArray T)) n cs T := by subst h; exact Blk.new w cs T
theorem row_keep {w w' : World} {base size n : Nat} {e : TypeId} {v : Value} {xs : List Value} (h : w.ownsRow base e size v n xs)
    (hk : ∀ b cur, base ≤ b → w.heap[b]? = some (.cells cur e (0, 0)) → w'.heap[b]? = w.heap[b]?) : w'.ownsRow base e size v n xs := by
  refine ⟨h.1, ?_⟩
  rcases h.2 with h2 | ⟨g, cap, cur, hv, hb, hg, hnc, hcm, hcs, ht⟩
  · exact .inl h2
  · exact .inr ⟨g, cap, cur, hv, hb, (hk g cur hb hg).trans hg, hnc, hcm, hcs, ht⟩
theorem Blk.grown {w w' : World} {b r : Nat} {cs : List Value} {T : TypeId} (h : Blk w b cs T) (hg : w.grownBy w' (some r)) (hne : b ≠ r) : Blk w' b cs T :=
  (hg.block b h.lt (fun e => hne (Option.some.inj e))).trans h
theorem grown_grown {w w1 w2 : World} {r : Nat} (h : w.grownBy w1 (some r)) (hg : w1.grownBy w2 (some r)) : w.grownBy w2 (some r) :=
  ⟨hg.os.trans h.os, hg.tape.trans h.tape, hg.output.trans h.output, Nat.le_trans h.size hg.size, fun k hk hr => (hg.block k (Nat.lt_of_lt_of_le hk h.size) hr).trans (h.block k hk hr)⟩
theorem Blk.put {W : World} {b r : Nat} {cs : List Value} {T : TypeId} (h : Blk W b cs T) (o : Obj) (hne : b ≠ r) : Blk (W.putObj r o) b cs T :=
  (World.putObj_heap_other hne).trans h
theorem below_put {H : Nat} (W : World) (l : Nat) (o : Obj) (h : H ≤ l) : Below H W (W.putObj l o) :=
  ⟨rfl, rfl, rfl, by simp [World.putObj], fun b hb => World.putObj_heap_other (by omega)⟩
/-- Two results in boxes of their own are stored, then the block of the rounds' deferred calls is shut. -/
theorem two_results {w W : World} {H B0 B1 BD : Nat} {u0 u1 : Value} {T0 T1 : TypeId} (r0 : Blk W B0 [u0] T0) (r1 : Blk W B1 [u1] T1) (hD : W.heap[BD]? = some (.deferred (some [])))
    (h01 : B0 ≠ B1) (h0 : H ≤ B0) (h1 : H ≤ B1) (hHD : H ≤ BD) (hB : Below H w W) (x y : Value) :
    ((W.setCell ⟨B0, 0, none⟩ x).setCell ⟨B1, 0, none⟩ y).heap[BD]? = some (.deferred (some [])) ∧
    (((W.setCell ⟨B0, 0, none⟩ x).setCell ⟨B1, 0, none⟩ y).putObj BD (.deferred none)).cell? ⟨B0, 0, none⟩ = some x ∧
    (((W.setCell ⟨B0, 0, none⟩ x).setCell ⟨B1, 0, none⟩ y).putObj BD (.deferred none)).cell? ⟨B1, 0, none⟩ = some y ∧
    Below H w (((W.setCell ⟨B0, 0, none⟩ x).setCell ⟨B1, 0, none⟩ y).putObj BD (.deferred none)) := by
  have n0 : BD ≠ B0 := by rintro rfl; unfold Blk at r0; rw [r0] at hD; cases hD
  have n1 : BD ≠ B1 := by rintro rfl; unfold Blk at r1; rw [r1] at hD; cases hD
  have d1 : (W.setCell ⟨B0, 0, none⟩ x).heap[BD]? = some (.deferred (some [])) := (Below.heap_setCell W _ _ _ n0).trans hD
  have d2 : ((W.setCell ⟨B0, 0, none⟩ x).setCell ⟨B1, 0, none⟩ y).heap[BD]? = some (.deferred (some [])) := (Below.heap_setCell _ _ _ _ n1).trans d1
  have s0 : Blk (W.setCell ⟨B0, 0, none⟩ x) B0 [x] T0 := r0.set 0 x
  have s1 : Blk (W.setCell ⟨B0, 0, none⟩ x) B1 [u1] T1 := r1.set_other _ _ (Ne.symm h01)
  have t0 : Blk ((W.setCell ⟨B0, 0, none⟩ x).setCell ⟨B1, 0, none⟩ y) B0 [x] T0 := s0.set_other _ _ h01
  have t1 : Blk ((W.setCell ⟨B0, 0, none⟩ x).setCell ⟨B1, 0, none⟩ y) B1 [y] T1 := s1.set 0 y
  refine ⟨d2, (t0.put _ (Ne.symm n0)).cell 0 _ rfl, (t1.put _ (Ne.symm n1)).cell 0 _ rfl, ?_⟩
  have b2 : Below H w ((W.setCell ⟨B0, 0, none⟩ x).setCell ⟨B1, 0, none⟩ y) := (hB.setCell h0 _).setCell h1 _
  exact b2.trans (below_put _ _ _ hHD)
/-- Results that a round has stored already. -/
theorem two_results0 {w W : World} {H B0 B1 BD : Nat} {u0 u1 : Value} {T0 T1 : TypeId} (r0 : Blk W B0 [u0] T0) (r1 : Blk W B1 [u1] T1) (hD : W.heap[BD]? = some (.deferred (some [])))
    (hHD : H ≤ BD) (hB : Below H w W) :
    (W.putObj BD (.deferred none)).cell? ⟨B0, 0, none⟩ = some u0 ∧ (W.putObj BD (.deferred none)).cell? ⟨B1, 0, none⟩ = some u1 ∧ Below H w (W.putObj BD (.deferred none)) := by
  have n0 : BD ≠ B0 := by rintro rfl; unfold Blk at r0; rw [r0] at hD; cases hD
  have n1 : BD ≠ B1 := by rintro rfl; unfold Blk at r1; rw [r1] at hD; cases hD
  exact ⟨(r0.put _ (Ne.symm n0)).cell 0 _ rfl, (r1.put _ (Ne.symm n1)).cell 0 _ rfl, hB.trans (below_put _ _ _ hHD)⟩
theorem seg_blk {w : World} {g : Nat} {cs : List Value} {T : TypeId} (h : Blk w g cs T) (size n : Nat) (hl : cs.length = n * size) (hn : n ≤ 140737488355328) : Seg w (.slice (some ⟨g, 0, none⟩) n n) size n cs :=
  ⟨hl, hn, _, _, rfl, Nat.le_refl _, by omega, by simp, fun j u hu => ⟨g, 0, rfl, by rw [Nat.zero_add]; exact h.cell j u hu⟩⟩
end Go.Proofs.Ytphkmpnahnakaaa
