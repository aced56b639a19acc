/- What the document's Check, Right and Field of schemas return, of any schema: scheck, sright, fieldAt. No condition beyond that the argument reads as a schema. What valid.Args and the document's Args return: argsCode; which field has a number, by the document's Field, by slices.IndexFunc with any closure, by view.field. No condition beyond that the arguments read as data. schema.by, ByNumber, ByName: the first field that is so. No condition. -/
import Derived.Test.YtaefpjecalnbcaaGreatZ05
namespace Go.Proofs.YtaefpjecalnbcaaGreat
open Go.RowKit
end Go.Proofs.YtaefpjecalnbcaaGreat
namespace Go.Proofs.YtaefpjecalnbcaaGreat
open Go.RowKit
/-- the place of the first that is so; -1: none -/
def firstAt {α : Type} (p : α → Bool) : List α → Nat → Int
  | [], _ => -1
  | f :: r, i => if p f then i else firstAt p r (i + 1)
def fieldAt (fs : List Fld) (n : Int) : Int := firstAt (fun f => decide (f.number = n)) fs 0
theorem firstAt_at (p : Fld → Bool) (fs : List Fld) (k : Nat) (hk : k < fs.length) : firstAt p (fs.drop k) k = if p (fs.getD k .zero) then (k : Int) else firstAt p (fs.drop (k + 1)) (k + 1) := by
  have e : fs.getD k .zero = fs[k] := by simp [List.getD, hk]
  rw [e, List.drop_eq_getElem_cons hk, firstAt]
theorem firstAt_bd {α : Type} (p : α → Bool) : ∀ (fs : List α) (i : Nat), firstAt p fs i = -1 ∨ ∃ k : Nat, firstAt p fs i = k ∧ i ≤ k ∧ k < i + fs.length
  | [], _ => .inl rfl
  | f :: r, i => by
    simp only [firstAt]
    split
    · exact .inr ⟨i, rfl, by omega, by simp⟩
    · rcases firstAt_bd p r (i + 1) with h | ⟨k, h, h1, h2⟩
      · exact .inl h
      · exact .inr ⟨k, h, by omega, by simp; omega⟩
set_option maxRecDepth 100000 in
theorem indexFunc_fld {w : World} {v : Value} {fs : List Fld} (h : FieldsAt w v fs) (F : Nat) (cap : Array Value) (p : Fld → Bool) (hcf : ∀ (args : Array Value) (w : World), (callFunc F args).run Tryz.prog w = .ok (.enter F args) w)
    (hcl : ∀ (f : Fld) (wr : World), f.Ok → Below w.heap.size w wr → Calls Tryz.prog F (#[f.val] ++ cap) wr fun e w' => e = .returned (.bool (p f)) ∧ Below wr.heap.size wr w') :
    Calls Tryz.prog 134 #[v, .func (.func F) #[] cap] w fun e w' => e = .returned (.int .i64 (firstAt p fs 0)) ∧ Below w.heap.size w w' := by
  obtain ⟨hlen, a, c, rfl, hat⟩ := h.open
  obtain ⟨n, HN⟩ : ∃ n, Hid (n = fs.length) := ⟨_, rfl⟩
  rw [← HN.out] at hat hlen ⊢
  have HAT := hid hat
  have HCL := hid hcl
  clear hat hcl
  go_enter Tryz.func134, Tryz.ntmps134
  go_wp2
  go_loopw [8] (fun v8 wr => ∃ k : Nat, k ≤ n ∧ v8 = .int .i64 k ∧ Hid (firstAt p (fs.drop k) k = firstAt p fs 0) ∧ Hid (Below w.heap.size w wr)) (fun v8 _ => n - (intOf v8).toNat)
  case atStart => exact ⟨0, by omega, rfl, hid rfl, Below.refl _ _⟩
  case round =>
    obtain ⟨k, hk, rfl, HK, HB⟩ := hrel
    by_cases hlt : k < n
    · have hat := HAT.out
      obtain ⟨b, o, ha, hfok, g0, g1, g2, g3, g4, g5⟩ := hat k hlt
      clear hat
      have hkw : ∀ p u, w.cell? p = some u → wr.cell? p = some u := fun p u hu => (Below.cell (p := p) HB.out (World.block_lt_of_cell? w p hu)).trans hu
      have r0 := hkw _ _ g0
      have r1 := hkw _ _ g1
      have r2 := hkw _ _ g2
      have r3 := hkw _ _ g3
      have r4 := hkw _ _ g4
      have r5 := hkw _ _ g5
      have hix := index_run Tryz.underlying60 size_fld ha k hlt (cap := c)
      have HA := hid ha
      have hst := hid (firstAt_at p fs k (by rw [← HN.out]; exact hlt))
      obtain ⟨f, HF⟩ : ∃ f, Hid (f = fs.getD k .zero) := ⟨_, rfl⟩
      rw [← HF.out] at hfok r0 r1 r2 r3 r4 r5 hst
      have HFO := hid hfok
      clear ha hkw g0 g1 g2 g3 g4 g5 hfok
      go_wp2_with fail
      have hcl := HCL.out
      refine (hcl f _ HFO.out HB.out).mono ?_
      rintro e w5 ⟨rfl, hb5⟩
      clear hcl
      have HB5 : Hid (Below w.heap.size w w5) := below_step HB.out hb5 HB.out.size
      clear hb5
      cases hp : p f with
      | true =>
        have e : firstAt p fs 0 = k := by rw [← HK.out, hst.out, if_pos hp]
        have HE := hid e
        clear hp e
        go_wp2
        go_ret
        exact ⟨by rw [HE.out]; rfl, HB5.out⟩
      | false =>
        have e : firstAt p (fs.drop (k + 1)) (k + 1) = firstAt p fs 0 := by rw [← HK.out, hst.out, if_neg (by rw [hp]; decide)]
        have HE := hid e
        clear hp e
        go_wp2
        go_roundw
        case rel => exact ⟨k + 1, by omega, by go_num, HE.out, HB5.out⟩
        case measure => simp [intOf]; omega
    · go_wp2
      go_ret
      have e : firstAt p fs 0 = -1 := by
        rw [← HK.out, List.drop_of_length_le (by rw [← HN.out]; omega)]; rfl
      exact ⟨by rw [e]; rfl, HB.out⟩
end Go.Proofs.YtaefpjecalnbcaaGreat
namespace Go.Proofs.YtaefpjecalnbcaaGreat
open Go.RowKit
set_option maxRecDepth 100000 in
theorem schema_ByNumber_1 {w : World} {q : Nat} {x : Int} (hq : w.cell? ⟨q, 0, none⟩ = some (.int .i64 x)) (f : Fld) :
    Calls Tryz.prog 96 #[f.val, .pointer (some ⟨q, 0, none⟩)] w fun e w' => e = .returned (.bool (decide (f.number = x))) ∧ Below w.heap.size w w' := by
  obtain ⟨name, number, kind, rep, packed, of⟩ := f
  simp only [Fld.val]
  have hql : q < w.heap.size := World.block_lt_of_cell? w _ hq
  go_enter Tryz.func96, Tryz.ntmps96
  go_wp2
  go_ret
  refine ⟨ret1 ?_, by (repeat (first | with_reducible exact Below.refl _ _ | with_reducible refine Below.setCell ?_ (by first | omega | (simp; omega) | (simp; done)) _ | with_reducible refine Below.alloc ?_ (by first | omega | (simp; omega) | (simp; done)) _ | with_reducible refine below_drewN ?_ _ | with_reducible refine Below.drew ?_))⟩
  show Value.bool (number == x) = _
  congr 1
theorem firstAt_bds {α : Type} (p : α → Bool) (l : List α) (h : l.length ≤ 140737488355328) : -1 ≤ firstAt p l 0 ∧ firstAt p l 0 ≤ 140737488355328 := by
  rcases firstAt_bd p l 0 with h | ⟨j, h, h1, h2⟩
  · rw [h]; omega
  · rw [h]; omega
set_option maxRecDepth 100000 in
set_option maxHeartbeats 4000000 in
theorem schema_by {w : World} {v : Value} {fs : List Fld} (h : FieldsAt w v fs) (nm : ByteArray) (F : Nat) (cap : Array Value) (p : Fld → Bool) (hcf : ∀ (args : Array Value) (w : World), (callFunc F args).run Tryz.prog w = .ok (.enter F args) w)
    (hcl : ∀ (f : Fld) (wr : World), f.Ok → Below w.heap.size w wr → Calls Tryz.prog F (#[f.val] ++ cap) wr fun e w' => e = .returned (.bool (p f)) ∧ Below wr.heap.size wr w') :
    Calls Tryz.prog 95 #[.agg #[.string nm, v], .func (.func F) #[] cap] w fun e w' => e = .returned (.tuple #[.int .i64 (if 0 ≤ firstAt p fs 0 then firstAt p fs 0 else 0), .bool (decide (0 ≤ firstAt p fs 0))]) ∧ Below w.heap.size w w' := by
  have hB1 : Below w.heap.size w (w.alloc (.cells #[.string nm, v] 62)) := (Below.refl _ _).alloc (Nat.le_refl _) _
  have HI := hid (indexFunc_fld (h.keep (w' := w.alloc (.cells #[.string nm, v] 62)) (below_keeps hB1)) F cap p hcf (fun f wr hok hb => hcl f wr hok (hB1.trans (hb.mono (by simp)))))
  have hbd := firstAt_bds p fs h.1.2.1
  obtain ⟨hlen, a, c, rfl, -⟩ := h.open
  generalize firstAt p fs 0 = k at *
  clear h hcl
  by_cases hk : 0 ≤ k
  · rw [if_pos hk]
    go_enter Tryz.func95, Tryz.ntmps95
    go_wp2_with fail
    refine HI.out.mono ?_
    rintro e w1 ⟨rfl, hb1⟩
    go_wp2_with fail
    go_ret2
    refine ⟨?_, below_step hB1 hb1 (by simp)⟩
    first | rfl | (simp [hk]) | (simp [hk]; omega)
  · rw [if_neg hk]
    go_enter Tryz.func95, Tryz.ntmps95
    go_wp2_with fail
    refine HI.out.mono ?_
    rintro e w1 ⟨rfl, hb1⟩
    go_wp2_with fail
    go_ret2
    refine ⟨?_, below_step hB1 hb1 (by simp)⟩
    first | rfl | (simp [hk]) | (simp [hk]; omega)
set_option maxRecDepth 100000 in
set_option maxHeartbeats 4000000 in
theorem schema_ByNumber {w : World} {v : Value} {fs : List Fld} (h : FieldsAt w v fs) (nm : ByteArray) (x : Int) :
    Calls Tryz.prog 67 #[.agg #[.string nm, v], .int .i64 x] w fun e w' => e = .returned (.tuple #[.int .i64 (if 0 ≤ fieldAt fs x then fieldAt fs x else 0), .bool (decide (0 ≤ fieldAt fs x))]) ∧ Below w.heap.size w w' := by
  have H := hid h
  obtain ⟨hlen, a, c, rfl, -⟩ := h.open
  obtain ⟨k, HK⟩ : ∃ k, Hid (firstAt (fun f : Fld => decide (f.number = x)) fs 0 = k) := ⟨_, rfl⟩
  rw [show fieldAt fs x = k from HK.out]
  clear h
  by_cases hk : 0 ≤ k
  all_goals
    go_enter Tryz.func67, Tryz.ntmps67
    go_wp2_with fail
    refine (schema_by (H.out.keep (w' := (w.alloc _).alloc _) (below_keeps (Below.alloc ((Below.refl _ _).alloc (Nat.le_refl _) _) (by simp) _))) nm 96 _ (fun f => decide (f.number = x)) (fun args w => by simp [go_sem]) ?_).mono ?_
    · intro f wr hok hb
      refine schema_ByNumber_1 ?_ f
      have := below_keeps hb ⟨w.heap.size + 1, 0, none⟩ (.int .i64 x) (by simp [go_sem])
      exact this
    · rintro e w5 ⟨rfl, hb⟩
      rw [HK.out]
      first | rw [if_pos hk] | rw [if_neg (by omega)]
      go_wp2_with fail
      go_ret2
      refine ⟨?_, below_step (Below.alloc ((Below.refl _ _).alloc (Nat.le_refl _) _) (by simp) _) hb (by simp; omega)⟩
      first | rfl | (simp [hk])
end Go.Proofs.YtaefpjecalnbcaaGreat
