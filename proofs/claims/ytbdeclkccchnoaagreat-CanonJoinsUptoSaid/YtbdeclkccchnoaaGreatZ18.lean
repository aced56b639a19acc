/- Parts of a proof: texts of the author, merged. No condition of their own. -/
import Derived.Test.YtbdeclkccchnoaaGreatZ05
import Derived.Test.YtbdeclkccchnoaaGreatZ11
import Derived.Test.YtbdeclkccchnoaaGreatZ15
import Derived.StillTailTactics
import Derived.BigRegion
namespace Go.Proofs.YtbdeclkccchnoaaGreat
variable {T : Type}
def swpL (d : T) (l : List T) (i j : Nat) : List T := (l.set i (l.getD j d)).set j (l.getD i d)
theorem getD_mid (d : T) (A : List T) (x : T) (B : List T) (n : Nat) (h : n = A.length) : (A ++ x :: B).getD n d = x := by
  subst h; simp [List.getD]
theorem set_mid (A : List T) (x y : T) (B : List T) (n : Nat) (h : n = A.length) : (A ++ x :: B).set n y = A ++ y :: B := by
  subst h; simp
theorem swpL_two (d : T) (A B C : List T) (x y : T) (i j : Nat) (hi : i = A.length) (hj : j = A.length + 1 + B.length) :
    swpL d (A ++ x :: (B ++ y :: C)) i j = A ++ y :: (B ++ x :: C) := by
  unfold swpL
  have e : ∀ z : T, A ++ z :: (B ++ y :: C) = (A ++ z :: B) ++ y :: C := fun z => by simp
  rw [getD_mid d A x _ i hi, set_mid A x _ _ i hi, e x, getD_mid d (A ++ x :: B) y C j (by simp; omega), e y, set_mid (A ++ y :: B) y x C j (by simp; omega)]
  simp
theorem swpL_two' (d : T) (A B C : List T) (x y : T) (i j : Nat) (hi : i = A.length) (hj : j = A.length + 1 + B.length) :
    swpL d (A ++ x :: (B ++ y :: C)) j i = A ++ y :: (B ++ x :: C) := by
  unfold swpL
  have e : ∀ z : T, A ++ z :: (B ++ y :: C) = (A ++ z :: B) ++ y :: C := fun z => by simp
  rw [getD_mid d A x _ i hi, e x, getD_mid d (A ++ x :: B) y C j (by simp; omega), set_mid (A ++ x :: B) y x C j (by simp; omega)]
  rw [show (A ++ x :: B) ++ x :: C = A ++ x :: (B ++ x :: C) by simp, set_mid A x y _ i hi]
def putAt (P Z : List T) (k : Nat) (x : T) (S : List T) : List T := P ++ (Z.take k ++ x :: Z.drop k) ++ S
theorem putAt_len (P Z : List T) (k : Nat) (x : T) (S : List T) : (putAt P Z k x S).length = P.length + Z.length + 1 + S.length := by
  unfold putAt
  simp only [List.length_append, List.length_cons, List.length_take, List.length_drop]
  omega
theorem putAt_get (d : T) (P Z : List T) (k : Nat) (x : T) (S : List T) (hk : k ≤ Z.length) (n : Nat) (hn : n = P.length + k) : (putAt P Z k x S).getD n d = x := by
  unfold putAt
  rw [← List.append_assoc, List.append_assoc, List.cons_append]
  exact getD_mid d _ x _ n (by rw [List.length_append, List.length_take]; omega)
theorem putAt_eq (P Z : List T) (k : Nat) (x y : T) (S : List T) (hy : Z[k]? = some y) : putAt P Z k x S = (P ++ Z.take k) ++ x :: ([] ++ y :: (Z.drop (k + 1) ++ S)) ∧ putAt P Z (k + 1) x S = (P ++ Z.take k) ++ y :: ([] ++ x :: (Z.drop (k + 1) ++ S)) := by
  obtain ⟨hl, e⟩ := List.getElem?_eq_some_iff.1 hy
  unfold putAt
  constructor
  · rw [List.drop_eq_getElem_cons hl, e]; simp
  · rw [List.take_succ_eq_append_getElem hl, e]; simp
theorem putAt_up (d : T) (P Z : List T) (k : Nat) (x y : T) (S : List T) (hy : Z[k]? = some y) (i j : Nat) (hi : i = P.length + k) (hj : j = i + 1) :
    (putAt P Z k x S).getD j d = y ∧ swpL d (putAt P Z k x S) i j = putAt P Z (k + 1) x S ∧ swpL d (putAt P Z (k + 1) x S) j i = putAt P Z k x S ∧ (putAt P Z (k + 1) x S).getD i d = y := by
  have hk : k < Z.length := (List.getElem?_eq_some_iff.1 hy).1
  obtain ⟨e1, e2⟩ := putAt_eq P Z k x y S hy
  have hl : (P ++ Z.take k).length = i := by rw [List.length_append, List.length_take]; omega
  refine ⟨?_, ?_, ?_, ?_⟩
  · rw [e1, show (P ++ Z.take k) ++ x :: ([] ++ y :: (Z.drop (k + 1) ++ S)) = (P ++ Z.take k ++ [x]) ++ y :: (Z.drop (k + 1) ++ S) by simp]
    exact getD_mid d _ y _ j (by rw [List.length_append, hl]; simp; omega)
  · rw [e1, e2, swpL_two d (P ++ Z.take k) [] (Z.drop (k + 1) ++ S) x y i j hl.symm (by rw [hl]; simp; omega)]
  · rw [e1, e2, swpL_two' d (P ++ Z.take k) [] (Z.drop (k + 1) ++ S) y x i j hl.symm (by rw [hl]; simp; omega)]
  · rw [e2]; exact getD_mid d _ y _ i hl.symm
def swpRun (U X V Y W : List T) (k : Nat) : List T := U ++ (Y.take k ++ X.drop k) ++ V ++ (X.take k ++ Y.drop k) ++ W
theorem swpRun_zero (U X V Y W : List T) : swpRun U X V Y W 0 = U ++ X ++ V ++ Y ++ W := by simp [swpRun]
theorem swpRun_end (U X V Y W : List T) (k : Nat) (hx : X.length = k) (hy : Y.length = k) : swpRun U X V Y W k = U ++ Y ++ V ++ X ++ W := by
  unfold swpRun
  rw [List.take_of_length_le (by omega), List.take_of_length_le (by omega), List.drop_eq_nil_of_le (by omega), List.drop_eq_nil_of_le (by omega)]
  simp
theorem swpRun_len (U X V Y W : List T) (k : Nat) (h : X.length = Y.length) : (swpRun U X V Y W k).length = U.length + X.length + V.length + Y.length + W.length := by
  unfold swpRun
  simp only [List.length_append, List.length_take, List.length_drop]
  omega
theorem swpRun_step (d : T) (U X V Y W : List T) (k n : Nat) (hx : X.length = n) (hy : Y.length = n) (hk : k < n) (i j : Nat) (hi : i = U.length + k) (hj : j = U.length + n + V.length + k) :
    ∃ x y, (swpRun U X V Y W k).getD i d = x ∧ (swpRun U X V Y W k).getD j d = y ∧ swpL d (swpRun U X V Y W k) i j = swpRun U X V Y W (k + 1) := by
  have hX : X[k]? = some (X[k]'(by omega)) := List.getElem?_eq_getElem (by omega)
  have hY : Y[k]? = some (Y[k]'(by omega)) := List.getElem?_eq_getElem (by omega)
  generalize hxe : X[k]'(by omega) = x at hX
  generalize hye : Y[k]'(by omega) = y at hY
  have e1 : swpRun U X V Y W k = (U ++ Y.take k) ++ x :: ((X.drop (k + 1) ++ V ++ X.take k) ++ y :: (Y.drop (k + 1) ++ W)) := by
    unfold swpRun
    rw [List.drop_eq_getElem_cons (l := X) (by omega), List.drop_eq_getElem_cons (l := Y) (by omega), hxe, hye]; simp
  have e2 : swpRun U X V Y W (k + 1) = (U ++ Y.take k) ++ y :: ((X.drop (k + 1) ++ V ++ X.take k) ++ x :: (Y.drop (k + 1) ++ W)) := by
    unfold swpRun
    rw [List.take_succ_eq_append_getElem (l := X) (by omega), List.take_succ_eq_append_getElem (l := Y) (by omega), hxe, hye]; simp
  have hl : (U ++ Y.take k).length = i := by rw [List.length_append, List.length_take]; omega
  refine ⟨_, _, rfl, rfl, ?_⟩
  rw [e1, e2]
  exact swpL_two d _ _ _ x y i j hl.symm (by rw [hl]; simp only [List.length_append, List.length_drop, List.length_take]; omega)
end Go.Proofs.YtbdeclkccchnoaaGreat
namespace Go.Proofs.YtbdeclkccchnoaaGreat
open Go.RowKit
def IRow (w : World) (g : Nat) (l : List Int) : Prop := ∃ cur : Array Value, w.heap[g]? = some (.cells cur 3 (0, 0)) ∧ l.length ≤ cur.size ∧ cur.toList.take l.length = l.map intV
theorem IRow.lt {w : World} {g : Nat} {l : List Int} (h : IRow w g l) : g < w.heap.size := by
  obtain ⟨cur, h1, -⟩ := h
  exact (Array.getElem?_eq_some_iff.1 h1).1
theorem IRow.cell {w : World} {g : Nat} {l : List Int} (h : IRow w g l) (k : Nat) (hk : k < l.length) : w.cell? ⟨g, k, none⟩ = some (.int .i64 (l.getD k 0)) := by
  obtain ⟨cur, h1, h2, h3⟩ := h
  rw [cell_of_row _ _ _ cur _ (0, 0) h1]
  have h4 := congrArg (fun l : List Value => l[k]?) h3
  simp only [List.getElem?_take, hk, if_true, List.getElem?_map, Array.getElem?_toList] at h4
  rw [h4, List.getD_eq_getElem?_getD, List.getElem?_eq_getElem hk]
  rfl
theorem IRow.free {w : World} {g : Nat} {l : List Int} (h : IRow w g l) (k : Nat) : w.frozen? ⟨g, k, none⟩ = false := by
  obtain ⟨cur, h1, -⟩ := h
  simp [World.frozen?, h1]
theorem IRow.of_block {w w' : World} {g : Nat} {l : List Int} (h : IRow w g l) (hb : w'.heap[g]? = w.heap[g]?) : IRow w' g l := by
  obtain ⟨cur, h1, h2⟩ := h
  exact ⟨cur, hb.trans h1, h2⟩
theorem IRow.below {w w' : World} {g : Nat} {l : List Int} (h : IRow w g l) (hb : Below w.heap.size w w') : IRow w' g l := h.of_block (hb.block g h.lt)
theorem IRow.set {w : World} {g : Nat} {l : List Int} (h : IRow w g l) (k : Nat) (_hk : k < l.length) (x : Int) : IRow (w.setCell ⟨g, k, none⟩ (.int .i64 x)) g (l.set k x) := by
  obtain ⟨cur, h1, h2, h3⟩ := h
  obtain ⟨hlt, hc⟩ := Array.getElem?_eq_some_iff.1 h1
  refine ⟨cur.set! k (.int .i64 x), ?_, by simpa using h2, ?_⟩
  · show (w.heap.modify g _)[g]? = _
    rw [Array.getElem?_eq_getElem (by rw [Array.size_modify]; exact hlt), Array.getElem_modify_self, hc]
    simp
  · rw [Array.set!_eq_setIfInBounds, Array.toList_setIfInBounds, List.length_set, List.take_set, h3, List.map_set]
    rfl
theorem IRow.swap {w : World} {g : Nat} {l : List Int} (h : IRow w g l) (i j : Nat) (hi : i < l.length) (hj : j < l.length) (x y : Int) (hx : l.getD i 0 = x) (hy : l.getD j 0 = y) :
    IRow ((w.setCell ⟨g, i, none⟩ (.int .i64 y)).setCell ⟨g, j, none⟩ (.int .i64 x)).drew g (swpL 0 l i j) := by
  have h1 := (h.set i hi y).set j (by simpa using hj) x
  subst hx
  subst hy
  exact h1.of_block rfl
theorem grown_setS {w0 w : World} {g : Nat} (h : w0.grownBy w (some g)) (k : Nat) (v : Value) : w0.grownBy (w.setCell ⟨g, k, none⟩ v) (some g) :=
  ⟨h.os, h.tape, h.output, by simpa using h.size, fun b hb hne => (Below.heap_setCell w _ v b (fun e => hne (by rw [e]))).trans (h.block b hb hne)⟩
theorem grown_drew {w0 w : World} {r : Option Nat} (h : w0.grownBy w r) : w0.grownBy w.drew r := ⟨h.os, h.tape, h.output, h.size, h.block⟩
theorem grown_belowS {w0 w w' : World} {r : Option Nat} (h : w0.grownBy w r) (hb : Below w.heap.size w w') : w0.grownBy w' r :=
  ⟨hb.os.trans h.os, hb.tape.trans h.tape, hb.output.trans h.output, Nat.le_trans h.size hb.size, fun k hk hr => (hb.block k (Nat.lt_of_lt_of_le hk h.size)).trans (h.block k hk hr)⟩
theorem grown_drewN {w0 w : World} {r : Option Nat} (h : w0.grownBy w r) (n : Nat) : w0.grownBy (w.drewN n) r := ⟨h.os, h.tape, h.output, h.size, h.block⟩
theorem cell_set_some {w : World} {g : Nat} (i j : Nat) (u v : Value) (h : w.cell? ⟨g, j, none⟩ = some u) (_hi : ∃ u', w.cell? ⟨g, i, none⟩ = some u') : ∃ u', (w.setCell ⟨g, i, none⟩ v).cell? ⟨g, j, none⟩ = some u' := by
  by_cases e : i = j
  · subst e; exact ⟨v, World.cell?_setCell_same _ _ _ h⟩
  · exact ⟨_, (World.cell?_setCell_other _ _ _ _ (by intro e'; simp only [Addr.mk.injEq] at e'; omega)).trans h⟩
def CmpI (F : Nat) (cap : Array Value) (cf : Int → Int → Int) (w0 : World) (g : Nat) (X : List Int) : Prop :=
  ∀ (x y : Int) (wr : World), x ∈ X → y ∈ X → w0.grownBy wr (some g) → Calls Tryz.prog F (#[.int .i64 x, .int .i64 y] ++ cap) wr fun e w' => e = .returned (.int .i64 (cf x y)) ∧ Below wr.heap.size wr w'
theorem CmpI.sub {F : Nat} {cap : Array Value} {cf : Int → Int → Int} {w0 : World} {g : Nat} {X Y : List Int} (h : CmpI F cap cf w0 g X) (hs : ∀ x ∈ Y, x ∈ X) : CmpI F cap cf w0 g Y :=
  fun x y wr hx hy hw => h x y wr (hs x hx) (hs y hy) hw
def Agree (cf : Int → Int → Int) (R : Int → Int → Prop) (x y : Int) : Prop := (cf y x < 0 ↔ R y x) ∧ (R x y ∨ R y x)
def SortPost (w0 : World) (g : Nat) (R : Int → Int → Prop) (P X S : List Int) (e : Ending) (w' : World) : Prop :=
  e = .returned (.tuple #[]) ∧ ∃ Z : List Int, Z.Perm X ∧ Z.Pairwise R ∧ IRow w' g (P ++ Z ++ S) ∧ w0.grownBy w' (some g)
theorem agree_at {cf : Int → Int → Int} {R : Int → Int → Prop} {X : List Int} (h : X.Pairwise (Agree cf R)) {k : Nat} {x z : Int} (hx : X[k]? = some x) (hz : z ∈ X.take k) : Agree cf R z x := by
  have h' := h
  rw [← List.take_append_drop k X, drop_at hx] at h'
  exact (List.pairwise_append.1 h').2.2 z hz x (by simp)
theorem size_intw (w : World) : (sizeOf 3).run Tryz.prog w = .ok 1 w := by kernel_rfl
set_option maxRecDepth 100000 in
set_option maxHeartbeats 8000000 in
theorem insSort_int {w0 w : World} {g c N : Nat} {P X S : List Int} (hN : N = (P ++ X ++ S).length) (hN40 : N ≤ 1099511627776) (F : Nat) (cap : Array Value) (cf : Int → Int → Int) (hcf : ∀ (args : Array Value) (w : World), (callFunc F args).run Tryz.prog w = .ok (.enter F args) w)
    (hcmp : CmpI F cap cf w0 g X) {R : Int → Int → Prop} (ht : ∀ x y z, R x y → R y z → R x z) (hA : X.Pairwise (Agree cf R)) (hI : IRow w g (P ++ X ++ S)) (hG : w0.grownBy w (some g)) (a b : Nat) (ha : a = P.length) (hb : b = P.length + X.length) :
    Calls Tryz.prog 123 #[.slice (some ⟨g, 0, none⟩) N c, .int .i64 (a : Int), .int .i64 (b : Int), .func (.func F) #[] cap] w (SortPost w0 g R P X S) := by
  have HCM := hid hcmp
  have HT := hid ht
  have HA := hid hA
  have HI := hid (And.intro hI hG)
  have HAB := hid (And.intro ha hb)
  have HN := hid hN
  have hbN : b ≤ N := by rw [hb, hN]; simp only [List.length_append]; omega
  have haN : a ≤ b := by rw [ha, hb]; omega
  obtain ⟨Q, HQ⟩ : ∃ Q : Ending → World → Prop, Hid (Q = SortPost w0 g R P X S) := ⟨_, rfl⟩
  rw [← HQ.out]
  have HIX : Hid (∀ k : Nat, k < N → ∀ W, (Instr.indexAt 100 (.slice (some ⟨g, 0, none⟩) N c) (.int .i64 (k : Int))).run Tryz.prog W = .ok (.pointer (some ⟨g, k, none⟩)) W) := by
    intro k hk W
    have := index_run1 Tryz.underlying100 size_intw (a := some ⟨g, 0, none⟩) rfl k hk W (cap := c)
    rwa [Nat.zero_add] at this
  clear hcmp ht hA hI hG ha hb hN
  go_enter Tryz.func123, Tryz.ntmps123
  go_wp2_with fail
  go_loopw [8] (fun v8 wr => ∃ (i k : Nat) (Z : List Int), v8 = .int .i64 (i : Int) ∧ a + 1 ≤ i ∧ i ≤ b + 1 ∧ Hid (i = a + k ∧ k ≤ max 1 X.length ∧ Z.Perm (X.take k) ∧ Z.Pairwise R ∧ IRow wr g (P ++ Z ++ (X.drop k ++ S)) ∧ w0.grownBy wr (some g))) (fun v8 _ => b + 1 - (intOf v8).toNat)
  case atStart =>
    refine ⟨a + 1, 1, X.take 1, by go_num, by omega, by omega, rfl, by omega, List.Perm.refl _, ?_, ?_, HI.out.2⟩
    · rcases X with _ | ⟨x, r⟩ <;> simp
    · have := HI.out.1
      rw [← List.append_assoc, List.append_assoc P, List.take_append_drop]; exact this
  case round =>
    obtain ⟨i, k, Z, rfl, hk1, hkb, HZ'⟩ := hrel
    have HIK : Hid (i = a + k) := HZ'.out.1
    have HZ := hid HZ'.out.2
    clear HZ'
    by_cases hlt : i < b
    · have hkX : k < X.length := by have := HAB.out; have := HIK.out; omega
      obtain ⟨x, hx⟩ : ∃ x, X[k]? = some x := ⟨_, List.getElem?_eq_getElem hkX⟩
      have hZl : Z.length = k := by rw [HZ.out.2.1.length_eq, List.length_take]; omega
      obtain ⟨SS, HSS⟩ : ∃ SS, Hid (SS = X.drop (k + 1) ++ S) := ⟨_, rfl⟩
      have HX := hid hx
      have HZL := hid hZl
      have HKX := hid hkX
      clear hx hZl hkX
      obtain ⟨wo, rfl⟩ : ∃ wo : World, wo = wr := ⟨_, rfl⟩
      go_wp2_with fail
      go_loopw [9] (fun v9 wr2 => ∃ j t : Nat, v9 = .int .i64 (j : Int) ∧ a ≤ j ∧ j ≤ i ∧ Hid (j = a + t ∧ (Z.length ≤ t ∨ ∃ y, Z[t]? = some y ∧ R x y) ∧ IRow wr2 g (putAt P Z t x SS) ∧ w0.grownBy wr2 (some g))) (fun v9 _ => (intOf v9).toNat)
      case atStart =>
        refine ⟨i, k, rfl, by omega, Nat.le_refl _, HIK.out, .inl (by rw [HZL.out]; exact Nat.le_refl _), ?_, HZ.out.2.2.2.2⟩
        have h1 := HZ.out.2.2.2.1
        rw [drop_at HX.out, List.cons_append, ← HSS.out] at h1
        have h2 : putAt P Z k x SS = P ++ Z ++ x :: SS := by
          unfold putAt
          rw [List.take_of_length_le (by rw [HZL.out]; omega), List.drop_eq_nil_of_le (by rw [HZL.out]; omega)]
          simp
        rw [h2]; exact h1
      case round =>
        obtain ⟨j, t, rfl, hja, hji, HT2'⟩ := hrel
        have HJ : Hid (j = a + t) := HT2'.out.1
        have HT2 := hid HT2'.out.2
        have ht : t ≤ k := by have := HIK.out; have := HJ.out; omega
        clear HT2'
        have HL : Hid (N = (putAt P Z t x SS).length) := by
          rw [Hid, putAt_len, HN.out, HSS.out, HZL.out]
          simp only [List.length_append, List.length_drop]
          have := HKX.out
          omega
        have HGX : Hid ((putAt P Z t x SS).getD j 0 = x) := putAt_get 0 P Z t x SS (by rw [HZL.out]; exact ht) _ (by rw [HJ.out, HAB.out.1])
        have HOUT : Hid (t = 0 ∨ (∃ y, Z[t - 1]? = some y ∧ R y x) → (Z.take t ++ x :: Z.drop t).Perm (X.take (k + 1)) ∧ (Z.take t ++ x :: Z.drop t).Pairwise R) := by
          intro h
          refine ⟨(perm_insert x t).trans ?_, srt_insert HT.out HZ.out.2.2.1 t h HT2.out.1⟩
          rw [List.take_add_one, HX.out]
          exact (List.Perm.cons x HZ.out.2.1).trans (List.perm_append_singleton x _).symm
        have hjN : j < N := by omega
        have hix := HIX.out j hjN
        have g0 := HT2.out.2.1.cell j (by rw [← HL.out]; exact hjN)
        rw [HGX.out] at g0
        by_cases ht0 : t = 0
        · have hjl : decide ((j : Int) > (a : Int)) = false := decide_eq_false (by rw [HJ.out]; omega)
          have hjl2 : decide ((a : Int) < (j : Int)) = false := decide_eq_false (by rw [HJ.out]; omega)
          have hjl3 : decide (a < j) = false := decide_eq_false (by rw [HJ.out]; omega)
          have HO := hid (HOUT.out (.inl ht0))
          clear ht0
          go_wp2_with fail
          go_quiet (fail)
          go_wp2_with fail
          go_roundw
          case rel => exact ⟨i + 1, k + 1, _, by go_num, by omega, by omega, by have := HIK.out; omega, by have := HKX.out; omega, HO.out.1, HO.out.2, by have h := HT2.out.2.1; unfold putAt at h; rw [HSS.out] at h; refine IRow.of_block (w := wr) ?_ rfl; simpa using h, grown_drewN HT2.out.2.2 _⟩
          case measure => simp [intOf]; omega
        · obtain ⟨tp, rfl⟩ : ∃ tp, t = tp + 1 := ⟨t - 1, by omega⟩
          obtain ⟨y, hy⟩ : ∃ y, Z[tp]? = some y := ⟨_, List.getElem?_eq_getElem (by rw [HZL.out]; omega)⟩
          have HY := hid hy
          obtain ⟨jp, HJP⟩ : ∃ jp, Hid (jp = a + tp) := ⟨_, rfl⟩
          have hj1 : a + 1 ≤ j := by rw [HJ.out]; omega
          have hjp : (jp : Int) = (j : Int) - 1 := by have := HJP.out; have := HJ.out; omega
          have hjpN : jp < N := by omega
          have HUP := hid (putAt_up 0 P Z tp x y SS hy jp j (by rw [HJP.out, HAB.out.1]) (by omega))
          have hix2 := HIX.out jp hjpN
          rw [hjp] at hix2
          have g1 := HT2.out.2.1.cell jp (by rw [← HL.out]; exact hjpN)
          rw [HUP.out.2.2.2] at g1
          have HAG : Hid (Agree cf R y x) := agree_at HA.out HX.out (HZ.out.2.1.mem_iff.1 (List.mem_of_getElem? hy))
          have HC1 := hid (HCM.out x y wr.drew (List.mem_of_getElem? HX.out) (List.mem_of_mem_take (HZ.out.2.1.mem_iff.1 (List.mem_of_getElem? hy))) (grown_drew HT2.out.2.2))
          have hw1 : IntKind.i64.wrap ((j : Int) - 1) = (j : Int) - 1 := by rw [IntKind.wrap_i64]; omega
          have hjl : decide ((j : Int) > (a : Int)) = true := decide_eq_true (by rw [HJ.out]; omega)
          have hjl2 : decide ((a : Int) < (j : Int)) = true := decide_eq_true (by rw [HJ.out]; omega)
          have hjl3 : decide (a < j) = true := decide_eq_true (by rw [HJ.out]; omega)
          clear hy ht0 hjp hj1
          go_wp2_with fail
          go_still_tail 14, (by kernel_rfl)
          change wpList _ _ _ _ _ wr.drew
          go_wp2_with fail
          refine HC1.out.mono ?_
          rintro e w3 ⟨rfl, hb3⟩
          have HT3 : Hid (IRow w3 g (putAt P Z (tp + 1) x SS) ∧ w0.grownBy w3 (some g)) := ⟨(HT2.out.2.1.of_block (w' := wr.drew) rfl).below hb3, grown_belowS (grown_drew HT2.out.2.2) hb3⟩
          by_cases hc : cf x y < 0
          · have hc1 : decide (cf x y < 0) = true := decide_eq_true hc
            have HRY : Hid (R x y) := HAG.out.1.1 hc
            have g0 := HT3.out.1.cell j (by rw [← HL.out]; exact hjN)
            rw [HGX.out] at g0
            have g1 := HT3.out.1.cell jp (by rw [← HL.out]; exact hjpN)
            rw [HUP.out.2.2.2] at g1
            have f0 := HT3.out.1.free j
            have f1 := HT3.out.1.free jp
            obtain ⟨u2, g2⟩ := cell_set_some j jp _ (.int .i64 y) g1 ⟨_, g0⟩
            have HSW := hid (HT3.out.1.swap j jp (by rw [← HL.out]; exact hjN) (by rw [← HL.out]; exact hjpN) x y HGX.out HUP.out.2.2.2)
            rw [HUP.out.2.2.1] at HSW
            clear hb3 hc
            go_wp2_with fail
            go_big_region
            go_wp2_with fail
            go_roundw
            case rel => exact ⟨jp, tp, by have := HJP.out; have := HJ.out; go_num, by have := HJP.out; omega, by have := HJP.out; have := HJ.out; omega, HJP.out, .inr ⟨y, HY.out, HRY.out⟩, HSW.out, grown_drew (grown_setS (grown_setS HT3.out.2 _ _) _ _)⟩
            case measure => simp [intOf]; have := HJP.out; have := HJ.out; omega
          · have hc1 : decide (cf x y < 0) = false := decide_eq_false hc
            have HRY : Hid (R y x) := HAG.out.2.resolve_right fun h => hc (HAG.out.1.2 h)
            have HO := hid (HOUT.out (.inr ⟨y, by simpa using HY.out, HRY.out⟩))
            clear hb3 hc
            go_wp2_with fail
            go_roundw
            case rel => exact ⟨i + 1, k + 1, _, by go_num, by omega, by omega, by have := HIK.out; omega, by have := HKX.out; omega, HO.out.1, HO.out.2, by have h := HT3.out.1; unfold putAt at h; rw [HSS.out] at h; simpa using h, HT3.out.2⟩
            case measure => simp [intOf]; omega
    · go_wp2_with fail
      go_end0
      have hkX : X.length ≤ k := by have := HAB.out; have := HIK.out; omega
      rw [HQ.out]
      refine ⟨rfl, Z, ?_, HZ.out.2.2.1, ?_, HZ.out.2.2.2.2⟩
      · have := HZ.out.2.1
        rwa [List.take_of_length_le hkX] at this
      · have := HZ.out.2.2.2.1
        rwa [List.drop_eq_nil_of_le hkX, List.nil_append] at this
end Go.Proofs.YtbdeclkccchnoaaGreat
namespace Go.Proofs.YtbdeclkccchnoaaGreat
open Go.RowKit
def RowPost (w0 : World) (g : Nat) (l : List Int) (e : Ending) (w' : World) : Prop := e = .returned (.tuple #[]) ∧ IRow w' g l ∧ w0.grownBy w' (some g)
set_option maxRecDepth 100000 in
set_option maxHeartbeats 8000000 in
theorem swapRange_int {w0 w : World} {g c N : Nat} {U X V Y W : List Int} (hN : N = (U ++ X ++ V ++ Y ++ W).length) (hN40 : N ≤ 1099511627776) (fv : Value)
    (hI : IRow w g (U ++ X ++ V ++ Y ++ W)) (hG : w0.grownBy w (some g)) (a b n : Nat) (ha : a = U.length) (hx : X.length = n) (hy : Y.length = n) (hb : b = U.length + n + V.length) :
    Calls Tryz.prog 147 #[.slice (some ⟨g, 0, none⟩) N c, .int .i64 (a : Int), .int .i64 (b : Int), .int .i64 (n : Int), fv] w (RowPost w0 g (U ++ Y ++ V ++ X ++ W)) := by
  have HI := hid (And.intro hI hG)
  have HXY := hid (And.intro hx hy)
  have HLN : Hid (∀ k, (swpRun U X V Y W k).length = N) := by
    intro k
    rw [swpRun_len _ _ _ _ _ _ (by rw [hx, hy]), hN]
    simp only [List.length_append]
  have hbN : b + n ≤ N := by rw [hb, hN]; simp only [List.length_append]; omega
  have hab : a + n ≤ b := by rw [ha, hb]; omega
  have HAB := hid (And.intro ha hb)
  obtain ⟨Q, HQ⟩ : ∃ Q : Ending → World → Prop, Hid (Q = RowPost w0 g (U ++ Y ++ V ++ X ++ W)) := ⟨_, rfl⟩
  rw [← HQ.out]
  have HIX : Hid (∀ k : Nat, k < N → ∀ W, (Instr.indexAt 100 (.slice (some ⟨g, 0, none⟩) N c) (.int .i64 (k : Int))).run Tryz.prog W = .ok (.pointer (some ⟨g, k, none⟩)) W) := by
    intro k hk W
    have := index_run1 Tryz.underlying100 size_intw (a := some ⟨g, 0, none⟩) rfl k hk W (cap := c)
    rwa [Nat.zero_add] at this
  clear hI hG hx hy ha hb hN
  go_enter Tryz.func147, Tryz.ntmps147
  go_wp2_with fail
  go_loopw [10] (fun v10 wr => ∃ i : Nat, v10 = .int .i64 (i : Int) ∧ i ≤ n ∧ Hid (IRow wr g (swpRun U X V Y W i) ∧ w0.grownBy wr (some g))) (fun v10 _ => n - (intOf v10).toNat)
  case atStart => exact ⟨0, rfl, by omega, by rw [swpRun_zero]; exact HI.out.1, HI.out.2⟩
  case round =>
    obtain ⟨i, rfl, hi, HZ⟩ := hrel
    by_cases hlt : i < n
    · obtain ⟨p, HP⟩ : ∃ p, Hid (p = a + i) := ⟨_, rfl⟩
      obtain ⟨q, HP2⟩ : ∃ q, Hid (q = b + i) := ⟨_, rfl⟩
      have hpN : p < N := by have := HP.out; omega
      have hqN : q < N := by have := HP2.out; omega
      obtain ⟨x, y, gx, gy, hsw⟩ := swpRun_step 0 U X V Y W i n HXY.out.1 HXY.out.2 hlt p q (by rw [HP.out, HAB.out.1]) (by rw [HP2.out, HAB.out.2])
      have hix := HIX.out p hpN
      have hix2 := HIX.out q hqN
      rw [HP.out, Int.natCast_add, ← HP.out] at hix
      rw [HP2.out, Int.natCast_add, ← HP2.out] at hix2
      have g0 := HZ.out.1.cell p (by rw [HLN.out]; exact hpN)
      have g1 := HZ.out.1.cell q (by rw [HLN.out]; exact hqN)
      rw [gx] at g0
      rw [gy] at g1
      have f0 := HZ.out.1.free p
      have f1 := HZ.out.1.free q
      obtain ⟨u2, g2⟩ := cell_set_some p q _ (.int .i64 y) g1 ⟨_, g0⟩
      have HSW := hid (HZ.out.1.swap p q (by rw [HLN.out]; exact hpN) (by rw [HLN.out]; exact hqN) x y gx gy)
      rw [hsw] at HSW
      have hw1 : IntKind.i64.wrap ((a : Int) + (i : Int)) = (a : Int) + (i : Int) := by rw [IntKind.wrap_i64]; omega
      have hw2 : IntKind.i64.wrap ((b : Int) + (i : Int)) = (b : Int) + (i : Int) := by rw [IntKind.wrap_i64]; omega
      clear gx gy hsw
      go_wp2_with fail
      go_big_region
      go_wp2_with fail
      go_roundw
      case rel => exact ⟨i + 1, by go_num, hlt, HSW.out, grown_drew (grown_setS (grown_setS HZ.out.2 _ _) _ _)⟩
      case measure => simp [intOf]; omega
    · obtain rfl : i = n := by omega
      have HE := hid HZ.out.1
      rw [swpRun_end _ _ _ _ _ _ HXY.out.1 HXY.out.2] at HE
      go_wp2_with fail
      go_end0
      rw [HQ.out]
      exact ⟨rfl, HE.out, HZ.out.2⟩
theorem rot_cut {l : List Int} (n : Nat) (h : n ≤ l.length) : ∃ l1 l2 : List Int, l = l1 ++ l2 ∧ l1.length = n ∧ l2.length = l.length - n :=
  ⟨l.take n, l.drop n, (List.take_append_drop n l).symm, by rw [List.length_take]; omega, by rw [List.length_drop]⟩
set_option maxRecDepth 100000 in
set_option maxHeartbeats 8000000 in
theorem rotate_int {w0 w : World} {g c N : Nat} {U X Y W : List Int} (hN : N = (U ++ X ++ Y ++ W).length) (hN40 : N ≤ 1099511627776) (fv : Value)
    (hI : IRow w g (U ++ X ++ Y ++ W)) (hG : w0.grownBy w (some g)) (a m b : Nat) (ha : a = U.length) (hm : m = U.length + X.length) (hb : b = U.length + X.length + Y.length) (hX : 0 < X.length) (hY : 0 < Y.length) :
    Calls Tryz.prog 140 #[.slice (some ⟨g, 0, none⟩) N c, .int .i64 (a : Int), .int .i64 (m : Int), .int .i64 (b : Int), fv] w (RowPost w0 g (U ++ Y ++ X ++ W)) := by
  have HI := hid (And.intro hI hG)
  have HN := hid hN
  have HM := hid hm
  have HXY := hid (And.intro hX hY)
  obtain ⟨i0, HI0⟩ : ∃ i0, Hid (i0 = X.length) := ⟨_, rfl⟩
  obtain ⟨j0, HJ0⟩ : ∃ j0, Hid (j0 = Y.length) := ⟨_, rfl⟩
  have hma : m = a + i0 := by rw [hm, ha, HI0.out]
  have hbm : b = m + j0 := by rw [hb, hm, HJ0.out]
  have hbN : b ≤ N := by rw [hb, hN]; simp only [List.length_append]; omega
  have HMA := hid hma
  have HBM := hid hbm
  have ham : a ≤ m := by omega
  have hmb : m ≤ b := by omega
  have HA := hid ha
  obtain ⟨Q, HQ⟩ : ∃ Q : Ending → World → Prop, Hid (Q = RowPost w0 g (U ++ Y ++ X ++ W)) := ⟨_, rfl⟩
  rw [← HQ.out]
  have HS0 : Hid ((m : Int) - (a : Int) = (i0 : Int) ∧ (b : Int) - (m : Int) = (j0 : Int)) := by constructor <;> omega
  clear hI hG hX hY ha hm hb hN hma hbm
  go_enter Tryz.func140, Tryz.ntmps140
  go_wp2_with fail
  simp only [HS0.out.1, HS0.out.2]
  go_loopw [10, 11] (fun v10 v11 wr => ∃ i j : Nat, v10 = .int .i64 (i : Int) ∧ v11 = .int .i64 (j : Int) ∧ 0 < i ∧ 0 < j ∧ i ≤ m ∧ m + j ≤ N ∧ Hid (w0.grownBy wr (some g) ∧ ∃ U' X' Y' W' : List Int, IRow wr g (U' ++ X' ++ Y' ++ W') ∧ N = (U' ++ X' ++ Y' ++ W').length ∧ X'.length = i ∧ Y'.length = j ∧ m = U'.length + i ∧ U' ++ Y' ++ X' ++ W' = U ++ Y ++ X ++ W)) (fun v10 v11 _ => (intOf v10).toNat + (intOf v11).toNat)
  case atStart =>
    have h1 := HI0.out
    have h2 := HJ0.out
    have h3 := HM.out
    have h4 := HN.out
    simp only [List.length_append] at h4
    exact ⟨i0, j0, rfl, rfl, by rw [h1]; exact HXY.out.1, by rw [h2]; exact HXY.out.2, by omega, by omega, HI.out.2, U, X, Y, W, HI.out.1, HN.out, h1.symm, h2.symm, by omega, rfl⟩
  case round =>
    obtain ⟨i, j, rfl, rfl, hi, hj, him, hjN, HZ⟩ := hrel
    obtain ⟨U', X', Y', W', hrow, hlen, hx, hy, hmm, heq⟩ := HZ.out.2
    obtain ⟨s, HS⟩ : ∃ s, Hid (s = m - i) := ⟨_, rfl⟩
    have hs : (m : Int) - (i : Int) = (s : Int) := by have := HS.out; omega
    have HSS := hid hs
    by_cases hij : i = j
    · subst hij
      have hc := swapRange_int (c := c) (V := []) (by simpa using hlen) hN40 fv (by simpa using hrow) HZ.out.1 s m i (by have := HS.out; omega) hx hy (by simp; omega)
      have HC := hid hc
      have HE := hid heq
      have HGO := hid HZ.out.1
      clear hrow hlen hx hy hmm heq hc HZ
      have b1 : ((i : Int) != (i : Int)) = false := by simp
      go_wp2_with fail
      refine HC.out.mono ?_
      rintro e w3 ⟨rfl, h1, h2⟩
      go_wp2_with fail
      go_end0
      rw [HQ.out]
      exact ⟨rfl, by rw [← HE.out]; simpa using h1, h2⟩
    · have b1 : ((i : Int) != (j : Int)) = true := by simp; omega
      have b2 : (i != j) = true := by simp; omega
      by_cases hgt : j < i
      · obtain ⟨X1, X2, hX12, hl1, hl2⟩ := rot_cut j (l := X') (by omega)
        subst hX12
        have hc := swapRange_int (c := c) (U := U') (X := X1) (V := X2) (Y := Y') (W := W') (by rw [hlen]; simp only [List.append_assoc]) hN40 fv (by simpa only [List.append_assoc] using hrow) HZ.out.1 s m j (by have := HS.out; omega) hl1 hy (by omega)
        have HC := hid hc
        have HE := hid heq
        have HLE := hid hlen
        have HLL := hid (And.intro hl1 (And.intro hl2 (And.intro hy (And.intro hx hmm))))
        have hg1 : (j : Int) < (i : Int) := by omega
        clear hrow hlen hx hy hmm heq hc HZ hl1 hl2
        go_wp2_with fail
        refine HC.out.mono ?_
        rintro e w3 ⟨rfl, h1, h2⟩
        have H12 := hid (And.intro h1 h2)
        clear h1 h2
        go_wp2_with fail
        go_roundw
        case rel =>
          obtain ⟨l1, l2, l3, l4, l5⟩ := HLL.out
          simp only [List.length_append] at l4
          refine ⟨i - j, j, by congr 1; omega, rfl, by omega, hj, by omega, hjN, H12.out.2, U' ++ Y', X2, X1, W', H12.out.1, ?_, by rw [l2]; simp only [List.length_append]; omega, l1, by simp only [List.length_append]; omega, ?_⟩
          · rw [HLE.out]; simp only [List.length_append]; omega
          · rw [← HE.out]; simp only [List.append_assoc]
        case measure => simp [intOf]; omega
      · have hgt' : i < j := by omega
        obtain ⟨Y1, Y2, hY12, hl1, hl2⟩ := rot_cut (j - i) (l := Y') (by omega)
        subst hY12
        have hl2' : Y2.length = i := by omega
        obtain ⟨q, HQ2⟩ : ∃ q, Hid (q = m + j - i) := ⟨_, rfl⟩
        have hq : (m : Int) + (j : Int) - (i : Int) = (q : Int) := by have := HQ2.out; omega
        have hc := swapRange_int (c := c) (U := U') (X := X') (V := Y1) (Y := Y2) (W := W') (by rw [hlen]; simp only [List.append_assoc]) hN40 fv (by simpa only [List.append_assoc] using hrow) HZ.out.1 s q i (by have := HS.out; omega) hx hl2' (by have := HQ2.out; omega)
        have HC := hid hc
        have HE := hid heq
        have HLE := hid hlen
        have HLL := hid (And.intro hl1 (And.intro hl2' (And.intro hx hmm)))
        have hg1 : ¬ (j : Int) < (i : Int) := by omega
        clear hrow hlen hx hy hmm heq hc HZ hl1 hl2 hl2'
        go_wp2_with fail
        refine HC.out.mono ?_
        rintro e w3 ⟨rfl, h1, h2⟩
        have H12 := hid (And.intro h1 h2)
        clear h1 h2
        go_wp2_with fail
        go_roundw
        case rel =>
          obtain ⟨l1, l2, l4, l5⟩ := HLL.out
          refine ⟨i, j - i, rfl, by congr 1; omega, hi, by omega, him, by omega, H12.out.2, U', Y2, Y1, X' ++ W', by simpa only [List.append_assoc] using H12.out.1, ?_, l2, l1, l5, ?_⟩
          · rw [HLE.out]; simp only [List.length_append]; omega
          · rw [← HE.out]; simp only [List.append_assoc]
        case measure => simp [intOf]; omega
end Go.Proofs.YtbdeclkccchnoaaGreat
namespace Go.Proofs.YtbdeclkccchnoaaGreat
open Go.RowKit
theorem row_get_left {P L : List Int} {r : List Int} (k t : Nat) (x : Int) (hk : k = P.length + t) (hx : L[t]? = some x) : (P ++ L ++ r).getD k 0 = x := by
  have hl : t < L.length := (List.getElem?_eq_some_iff.1 hx).1
  subst hk
  rw [List.append_assoc, List.getD_eq_getElem?_getD, List.getElem?_append_right (by omega), Nat.add_sub_cancel_left, List.getElem?_append_left hl, hx]; rfl
set_option maxRecDepth 100000 in
set_option maxHeartbeats 8000000 in
theorem symMerge_left {w0 w : World} {g c N : Nat} {P Q S : List Int} {x : Int} (hN : N = (P ++ [x] ++ Q ++ S).length) (hN40 : N ≤ 1099511627776) (F : Nat) (cap : Array Value) (cf : Int → Int → Int) (hcf : ∀ (args : Array Value) (w : World), (callFunc F args).run Tryz.prog w = .ok (.enter F args) w)
    (hcmp : CmpI F cap cf w0 g (x :: Q)) {R : Int → Int → Prop} (ht : ∀ x y z, R x y → R y z → R x z) (hQ : Q.Pairwise R) (hA : ∀ y ∈ Q, Agree cf R x y) (hI : IRow w g (P ++ [x] ++ Q ++ S)) (hG : w0.grownBy w (some g))
    (a m b : Nat) (ha : a = P.length) (hm : m = a + 1) (hb : b = m + Q.length) :
    Calls Tryz.prog 124 #[.slice (some ⟨g, 0, none⟩) N c, .int .i64 (a : Int), .int .i64 (m : Int), .int .i64 (b : Int), .func (.func F) #[] cap] w (SortPost w0 g R P ([x] ++ Q) S) := by
  have HCM := hid hcmp
  have HT := hid ht
  have HA := hid hA
  have HQS := hid hQ
  have HI := hid (And.intro hI hG)
  have HP := hid (And.intro ha hb)
  have HN := hid hN
  have hbN : b ≤ N := by rw [hb, hm, ha, hN]; simp only [List.length_append, List.length_singleton]; omega
  have hmb : m ≤ b := by omega
  have HMA : Hid (m = a + 1) := hm
  have hma : (m : Int) - (a : Int) = 1 := by omega
  have ham : a < m := by omega
  obtain ⟨QQ, HQ⟩ : ∃ QQ : Ending → World → Prop, Hid (QQ = SortPost w0 g R P ([x] ++ Q) S) := ⟨_, rfl⟩
  rw [← HQ.out]
  have HIX : Hid (∀ k : Nat, k < N → ∀ W, (Instr.indexAt 100 (.slice (some ⟨g, 0, none⟩) N c) (.int .i64 (k : Int))).run Tryz.prog W = .ok (.pointer (some ⟨g, k, none⟩)) W) := by
    intro k hk W
    have := index_run1 Tryz.underlying100 size_intw (a := some ⟨g, 0, none⟩) rfl k hk W (cap := c)
    rwa [Nat.zero_add] at this
  have HGX : Hid ((P ++ [x] ++ Q ++ S).getD a 0 = x) := by
    rw [Hid, List.append_assoc]; exact row_get_left (L := [x]) a 0 x ha rfl
  clear hcmp ht hQ hA hI hG ha hm hb hN
  go_enter Tryz.func124, Tryz.ntmps124
  go_wp2_with fail
  go_loopw [10, 11] (fun v10 v11 wr => ∃ i j : Nat, v10 = .int .i64 (i : Int) ∧ v11 = .int .i64 (j : Int) ∧ m ≤ i ∧ i ≤ j ∧ j ≤ b ∧ Hid ((i = m ∨ ∃ y, Q[i - m - 1]? = some y ∧ R y x) ∧ (j = b ∨ ∃ y, Q[j - m]? = some y ∧ R x y) ∧ IRow wr g (P ++ [x] ++ Q ++ S) ∧ w0.grownBy wr (some g))) (fun v10 v11 _ => (intOf v11).toNat - (intOf v10).toNat)
  case atStart => exact ⟨m, b, rfl, rfl, by omega, by omega, by omega, .inl rfl, .inl rfl, HI.out⟩
  case round =>
    obtain ⟨i, j, rfl, rfl, hmi, hij, hjb, HZ⟩ := hrel
    by_cases hlt : i < j
    · obtain ⟨h, HH⟩ : ∃ h, Hid (h = (i + j) / 2) := ⟨_, rfl⟩
      have hh : ((i : Int) + (j : Int)) / 2 = (h : Int) := by have := HH.out; omega
      have hih : i ≤ h := by have := HH.out; omega
      have hhj : h < j := by have := HH.out; omega
      have hhN : h < N := by omega
      have haN : a < N := by omega
      obtain ⟨y, hy⟩ : ∃ y, Q[h - m]? = some y := ⟨_, List.getElem?_eq_getElem (by have := HP.out.2; omega)⟩
      have HY := hid hy
      have hix := HIX.out h hhN
      have hix2 := HIX.out a haN
      have HLT := hid (And.intro hhj hih)
      have g0 := HZ.out.2.2.1.cell h (by rw [← HN.out]; exact hhN)
      have HGY : Hid ((P ++ [x] ++ Q ++ S).getD h 0 = y) := row_get_left h (h - m) y (by have := HP.out.1; have := HMA.out; simp only [List.length_append, List.length_singleton]; omega) hy
      rw [HGY.out] at g0
      have g1 := HZ.out.2.2.1.cell a (by rw [← HN.out]; exact haN)
      rw [HGX.out] at g1
      have HC1 := hid (HCM.out y x wr.drew (by simp [List.mem_of_getElem? hy]) (by simp) (grown_drew HZ.out.2.2.2))
      have HAG := hid (HA.out y (List.mem_of_getElem? hy))
      clear hy
      go_wp2_with fail
      go_still_tail 9, (by kernel_rfl)
      change wpList _ _ _ _ _ wr.drew
      go_wp2_with fail
      refine HC1.out.mono ?_
      rintro e w3 ⟨rfl, hb3⟩
      have HZ3 : Hid (IRow w3 g (P ++ [x] ++ Q ++ S) ∧ w0.grownBy w3 (some g)) := ⟨(HZ.out.2.2.1.of_block (w' := wr.drew) rfl).below hb3, grown_belowS (grown_drew HZ.out.2.2.2) hb3⟩
      clear hb3
      by_cases hc : cf y x < 0
      · have hc1 : decide (cf y x < 0) = true := decide_eq_true hc
        have HRY : Hid (R y x) := HAG.out.1.1 hc
        clear hc
        go_wp2_with fail
        go_roundw
        case rel => exact ⟨h + 1, j, by go_num, rfl, by omega, by omega, hjb, .inr ⟨y, by rw [show h + 1 - m - 1 = h - m by omega]; exact HY.out, HRY.out⟩, HZ.out.2.1, HZ3.out⟩
        case measure => simp [intOf]; omega
      · have hc1 : decide (cf y x < 0) = false := decide_eq_false hc
        have HRY : Hid (R x y) := HAG.out.2.resolve_right fun h => hc (HAG.out.1.2 h)
        clear hc
        go_wp2_with fail
        go_roundw
        case rel => exact ⟨i, h, rfl, rfl, hmi, hih, by omega, HZ.out.1, .inr ⟨y, HY.out, HRY.out⟩, HZ3.out⟩
        case measure => simp [intOf]; omega
    · obtain rfl : i = j := by omega
      obtain ⟨p, HPP⟩ : ∃ p, Hid (p = i - m) := ⟨_, rfl⟩
      have hpi : i = m + p := by have := HPP.out; omega
      have HPI := hid hpi
      have hpQ : p ≤ Q.length := by have := HP.out.2; omega
      have HPQ := hid hpQ
      have HRES : Hid ((Q.take p ++ x :: Q.drop p).Pairwise R ∧ (Q.take p ++ x :: Q.drop p).Perm ([x] ++ Q)) := by
        refine ⟨srt_insert HT.out HQS.out p ?_ ?_, perm_insert x p⟩
        · rcases HZ.out.1 with h | h
          · exact .inl (by omega)
          · rw [show i - m - 1 = p - 1 by omega] at h; exact .inr h
        · rcases HZ.out.2.1 with h | h
          · exact .inl (by have := HP.out.2; omega)
          · rw [show i - m = p by omega] at h; exact .inr h
      have hmw : (i : Int) - 1 = (a : Int) + (p : Int) := by have := HMA.out; omega
      have hpN : a + p < N := by have := HMA.out; omega
      obtain ⟨wo, rfl⟩ : ∃ wo : World, wo = wr := ⟨_, rfl⟩
      clear hpi hpQ hlt
      go_wp2_with fail
      go_loopw [13] (fun v13 wr => ∃ k t : Nat, v13 = .int .i64 (k : Int) ∧ a ≤ k ∧ k ≤ a + p ∧ Hid (k = a + t ∧ IRow wr g (putAt P Q t x S) ∧ w0.grownBy wr (some g))) (fun v13 _ => a + p - (intOf v13).toNat)
      case atStart =>
        refine ⟨a, 0, rfl, by omega, by omega, rfl, ?_, HZ.out.2.2.2⟩
        have := HZ.out.2.2.1
        unfold putAt
        simpa using this
      case round =>
        obtain ⟨k, t, rfl, hak, hkp, HK⟩ := hrel
        by_cases hlt : k < a + p
        · have htp : t < p := by have := HK.out.1; omega
          obtain ⟨y, hy⟩ : ∃ y, Q[t]? = some y := ⟨_, List.getElem?_eq_getElem (by have := HPQ.out; omega)⟩
          obtain ⟨k1, HK1⟩ : ∃ k1, Hid (k1 = k + 1) := ⟨_, rfl⟩
          have hk1 : (k : Int) + 1 = (k1 : Int) := by have := HK1.out; omega
          have hkN : k < N := by omega
          have hk1N : k1 < N := by have := HK1.out; omega
          have HUP := hid (putAt_up 0 P Q t x y S hy k k1 (by rw [HK.out.1, HP.out.1]) HK1.out)
          have HL : Hid (∀ t, (putAt P Q t x S).length = N) := by
            intro t
            rw [putAt_len, HN.out]
            simp only [List.length_append, List.length_singleton]
            omega
          have HGK : Hid ((putAt P Q t x S).getD k 0 = x) := putAt_get 0 P Q t x S (by have := HPQ.out; omega) k (by rw [HK.out.1, HP.out.1])
          have hix := HIX.out k hkN
          have hix2 := HIX.out k1 hk1N
          rw [← hk1] at hix2
          have g0 := HK.out.2.1.cell k (by rw [HL.out]; exact hkN)
          rw [HGK.out] at g0
          have g1 := HK.out.2.1.cell k1 (by rw [HL.out]; exact hk1N)
          rw [HUP.out.1] at g1
          have f0 := HK.out.2.1.free k
          have f1 := HK.out.2.1.free k1
          obtain ⟨u2, g2⟩ := cell_set_some k k1 _ (.int .i64 y) g1 ⟨_, g0⟩
          have HSW := hid (HK.out.2.1.swap k k1 (by rw [HL.out]; exact hkN) (by rw [HL.out]; exact hk1N) x y HGK.out HUP.out.1)
          rw [HUP.out.2.1] at HSW
          have hw1 : IntKind.i64.wrap ((k : Int) + 1) = (k : Int) + 1 := by rw [IntKind.wrap_i64]; omega
          clear hy hk1
          go_wp2_with fail
          go_big_region
          go_wp2_with fail
          go_roundw
          case rel => exact ⟨k + 1, t + 1, by go_num, by omega, by omega, by have := HK.out.1; omega, HSW.out, grown_drew (grown_setS (grown_setS HK.out.2.2 _ _) _ _)⟩
          case measure => simp [intOf]; omega
        · have HT2 : Hid (t = p) := by have := HK.out.1; show t = p; omega
          go_wp2_with fail
          go_end0
          rw [HQ.out]
          refine ⟨rfl, _, HRES.out.2, HRES.out.1, ?_, HK.out.2.2⟩
          have := HK.out.2.1
          rw [HT2.out] at this
          exact this
set_option maxRecDepth 100000 in
set_option maxHeartbeats 8000000 in
theorem symMerge_right {w0 w : World} {g c N : Nat} {P L S : List Int} {y : Int} (hN : N = (P ++ L ++ [y] ++ S).length) (hN40 : N ≤ 1099511627776) (F : Nat) (cap : Array Value) (cf : Int → Int → Int) (hcf : ∀ (args : Array Value) (w : World), (callFunc F args).run Tryz.prog w = .ok (.enter F args) w)
    (hcmp : CmpI F cap cf w0 g (y :: L)) {R : Int → Int → Prop} (ht : ∀ x y z, R x y → R y z → R x z) (hL : L.Pairwise R) (hL1 : L.length ≠ 1) (hA : ∀ x ∈ L, Agree cf R x y) (hI : IRow w g (P ++ L ++ [y] ++ S)) (hG : w0.grownBy w (some g))
    (a m b : Nat) (ha : a = P.length) (hm : m = a + L.length) (hb : b = m + 1) :
    Calls Tryz.prog 124 #[.slice (some ⟨g, 0, none⟩) N c, .int .i64 (a : Int), .int .i64 (m : Int), .int .i64 (b : Int), .func (.func F) #[] cap] w (SortPost w0 g R P (L ++ [y]) S) := by
  have HCM := hid hcmp
  have HT := hid ht
  have HA := hid hA
  have HLS := hid hL
  have HI := hid (And.intro hI hG)
  have HP := hid (And.intro ha hm)
  have HN := hid hN
  have hbN : b ≤ N := by rw [hb, hm, ha, hN]; simp only [List.length_append, List.length_singleton]; omega
  have ham : a ≤ m := by omega
  have HBM : Hid (b = m + 1) := hb
  have hbm : (b : Int) - (m : Int) = 1 := by omega
  have n1 : ((m : Int) - (a : Int) == 1) = false := by simp; omega
  have n2 : decide ((m : Int) - (a : Int) = 1) = false := decide_eq_false (by omega)
  have hmN : m < N := by omega
  obtain ⟨QQ, HQ⟩ : ∃ QQ : Ending → World → Prop, Hid (QQ = SortPost w0 g R P (L ++ [y]) S) := ⟨_, rfl⟩
  rw [← HQ.out]
  have HIX : Hid (∀ k : Nat, k < N → ∀ W, (Instr.indexAt 100 (.slice (some ⟨g, 0, none⟩) N c) (.int .i64 (k : Int))).run Tryz.prog W = .ok (.pointer (some ⟨g, k, none⟩)) W) := by
    intro k hk W
    have := index_run1 Tryz.underlying100 size_intw (a := some ⟨g, 0, none⟩) rfl k hk W (cap := c)
    rwa [Nat.zero_add] at this
  have HGM : Hid ((P ++ L ++ [y] ++ S).getD m 0 = y) := row_get_left (P := P ++ L) (L := [y]) m 0 y (by simp only [List.length_append]; omega) rfl
  clear hcmp ht hL hL1 hA hI hG ha hm hb hN
  go_enter Tryz.func124, Tryz.ntmps124
  go_wp2_with fail
  go_loopw [14, 15] (fun v14 v15 wr => ∃ i j : Nat, v14 = .int .i64 (i : Int) ∧ v15 = .int .i64 (j : Int) ∧ a ≤ i ∧ i ≤ j ∧ j ≤ m ∧ Hid ((i = a ∨ ∃ x, L[i - a - 1]? = some x ∧ R x y) ∧ (j = m ∨ ∃ x, L[j - a]? = some x ∧ R y x) ∧ IRow wr g (P ++ L ++ [y] ++ S) ∧ w0.grownBy wr (some g))) (fun v14 v15 _ => (intOf v15).toNat - (intOf v14).toNat)
  case atStart => exact ⟨a, m, rfl, rfl, by omega, by omega, by omega, .inl rfl, .inl rfl, HI.out⟩
  case round =>
    obtain ⟨i, j, rfl, rfl, hmi, hij, hjb, HZ⟩ := hrel
    by_cases hlt : i < j
    · obtain ⟨h, HH⟩ : ∃ h, Hid (h = (i + j) / 2) := ⟨_, rfl⟩
      have hh : ((i : Int) + (j : Int)) / 2 = (h : Int) := by have := HH.out; omega
      have hih : i ≤ h := by have := HH.out; omega
      have hhj : h < j := by have := HH.out; omega
      have hhN : h < N := by omega
      obtain ⟨x, hx⟩ : ∃ x, L[h - a]? = some x := ⟨_, List.getElem?_eq_getElem (by have := HP.out.2; omega)⟩
      have HX := hid hx
      have hix := HIX.out h hhN
      have hix2 := HIX.out m hmN
      have g0 := HZ.out.2.2.1.cell h (by rw [← HN.out]; exact hhN)
      have HGX : Hid ((P ++ L ++ [y] ++ S).getD h 0 = x) := by
        have h1 := row_get_left (P := P) (L := L) (r := [y] ++ S) h (h - a) x (by have := HP.out.1; omega) hx
        rw [Hid, List.append_assoc]; exact h1
      rw [HGX.out] at g0
      have g1 := HZ.out.2.2.1.cell m (by rw [← HN.out]; exact hmN)
      rw [HGM.out] at g1
      have HC1 := hid (HCM.out y x wr.drew (by simp) (by simp [List.mem_of_getElem? hx]) (grown_drew HZ.out.2.2.2))
      have HAG := hid (HA.out x (List.mem_of_getElem? hx))
      clear hx
      go_wp2_with fail
      go_still_tail 9, (by kernel_rfl)
      change wpList _ _ _ _ _ wr.drew
      go_wp2_with fail
      refine HC1.out.mono ?_
      rintro e w3 ⟨rfl, hb3⟩
      have HZ3 : Hid (IRow w3 g (P ++ L ++ [y] ++ S) ∧ w0.grownBy w3 (some g)) := ⟨(HZ.out.2.2.1.of_block (w' := wr.drew) rfl).below hb3, grown_belowS (grown_drew HZ.out.2.2.2) hb3⟩
      clear hb3
      by_cases hc : cf y x < 0
      · have hc1 : decide (cf y x < 0) = true := decide_eq_true hc
        have HRY : Hid (R y x) := HAG.out.1.1 hc
        clear hc
        go_wp2_with fail
        go_roundw
        case rel => exact ⟨i, h, rfl, rfl, hmi, hih, by omega, HZ.out.1, .inr ⟨x, HX.out, HRY.out⟩, HZ3.out⟩
        case measure => simp [intOf]; omega
      · have hc1 : decide (cf y x < 0) = false := decide_eq_false hc
        have HRY : Hid (R x y) := HAG.out.2.resolve_right fun h => hc (HAG.out.1.2 h)
        clear hc
        go_wp2_with fail
        go_roundw
        case rel => exact ⟨h + 1, j, by go_num, rfl, by omega, by omega, hjb, .inr ⟨x, by rw [show h + 1 - a - 1 = h - a by omega]; exact HX.out, HRY.out⟩, HZ.out.2.1, HZ3.out⟩
        case measure => simp [intOf]; omega
    · obtain rfl : i = j := by omega
      obtain ⟨p, HPP⟩ : ∃ p, Hid (p = i - a) := ⟨_, rfl⟩
      have hpi : i = a + p := by have := HPP.out; omega
      have HPI := hid hpi
      have hpL : p ≤ L.length := by have := HP.out.2; omega
      have HPL := hid hpL
      have HRES : Hid ((L.take p ++ y :: L.drop p).Pairwise R ∧ (L.take p ++ y :: L.drop p).Perm (L ++ [y])) := by
        refine ⟨srt_insert HT.out HLS.out p ?_ ?_, (perm_insert y p).trans (List.perm_append_singleton y L).symm⟩
        · rcases HZ.out.1 with h | h
          · exact .inl (by omega)
          · rw [show i - a - 1 = p - 1 by omega] at h; exact .inr h
        · rcases HZ.out.2.1 with h | h
          · exact .inl (by have := HP.out.2; omega)
          · rw [show i - a = p by omega] at h; exact .inr h
      have HIAP := hid hpi
      obtain ⟨wo, rfl⟩ : ∃ wo : World, wo = wr := ⟨_, rfl⟩
      clear hpi hpL hlt
      go_wp2_with fail
      go_loopw [17] (fun v17 wr => ∃ k t : Nat, v17 = .int .i64 (k : Int) ∧ i ≤ k ∧ k ≤ m ∧ Hid (k = a + t ∧ IRow wr g (putAt P L t y S) ∧ w0.grownBy wr (some g))) (fun v17 _ => (intOf v17).toNat - i)
      case atStart =>
        refine ⟨m, L.length, rfl, by omega, by omega, HP.out.2, ?_, HZ.out.2.2.2⟩
        have := HZ.out.2.2.1
        unfold putAt
        simpa using this
      case round =>
        obtain ⟨k, t, rfl, hak, hkp, HK⟩ := hrel
        by_cases hlt : i < k
        · obtain ⟨t1, HT1⟩ : ∃ t1, Hid (t = t1 + 1) := ⟨t - 1, by have := HK.out.1; have := HIAP.out; show t = t - 1 + 1; omega⟩
          obtain ⟨x, hx⟩ : ∃ x, L[t1]? = some x := ⟨_, List.getElem?_eq_getElem (by have := HP.out.2; have := HK.out.1; have := HT1.out; omega)⟩
          obtain ⟨k1, HK1⟩ : ∃ k1, Hid (k1 + 1 = k) := ⟨k - 1, by show k - 1 + 1 = k; omega⟩
          have hk1 : (k : Int) - 1 = (k1 : Int) := by have := HK1.out; omega
          have hkN : k < N := by omega
          have hk1N : k1 < N := by have := HK1.out; omega
          have HUP := hid (putAt_up 0 P L t1 y x S hx k1 k (by have := HK.out.1; have := HT1.out; have := HK1.out; have := HP.out.1; omega) HK1.out.symm)
          rw [← HT1.out] at HUP
          have HL : Hid (∀ t, (putAt P L t y S).length = N) := by
            intro t
            rw [putAt_len, HN.out]
            simp only [List.length_append, List.length_singleton]
          have HGK : Hid ((putAt P L t y S).getD k 0 = y) := putAt_get 0 P L t y S (by have := HP.out.2; have := HK.out.1; omega) k (by rw [HK.out.1, HP.out.1])
          have hix := HIX.out k hkN
          have hix2 := HIX.out k1 hk1N
          rw [← hk1] at hix2
          have g0 := HK.out.2.1.cell k (by rw [HL.out]; exact hkN)
          rw [HGK.out] at g0
          have g1 := HK.out.2.1.cell k1 (by rw [HL.out]; exact hk1N)
          rw [HUP.out.2.2.2] at g1
          have f0 := HK.out.2.1.free k
          have f1 := HK.out.2.1.free k1
          obtain ⟨u2, g2⟩ := cell_set_some k k1 _ (.int .i64 x) g1 ⟨_, g0⟩
          have HSW := hid (HK.out.2.1.swap k k1 (by rw [HL.out]; exact hkN) (by rw [HL.out]; exact hk1N) y x HGK.out HUP.out.2.2.2)
          rw [HUP.out.2.2.1] at HSW
          have hw1 : IntKind.i64.wrap ((k : Int) - 1) = (k : Int) - 1 := by rw [IntKind.wrap_i64]; omega
          have hkk : 1 ≤ k := by omega
          have HK1' : Hid ((k : Int) - 1 = (k1 : Int)) := hk1
          clear hx hk1
          go_wp2_with fail
          go_big_region
          go_wp2_with fail
          go_roundw
          case rel => exact ⟨k1, t1, by rw [HK1'.out], by have := HK1.out; omega, by have := HK1.out; omega, by have := HK.out.1; have := HK1.out; have := HT1.out; omega, HSW.out, grown_drew (grown_setS (grown_setS HK.out.2.2 _ _) _ _)⟩
          case measure => simp [intOf]; have := HK1.out; omega
        · have HT2 : Hid (t = p) := by have := HK.out.1; have := HIAP.out; show t = p; omega
          go_wp2_with fail
          go_end0
          rw [HQ.out]
          refine ⟨rfl, _, HRES.out.2, HRES.out.1, ?_, HK.out.2.2⟩
          have := HK.out.2.1
          rw [HT2.out] at this
          exact this
end Go.Proofs.YtbdeclkccchnoaaGreat
