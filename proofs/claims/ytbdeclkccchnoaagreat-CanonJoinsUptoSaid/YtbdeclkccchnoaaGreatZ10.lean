/- Parts of a proof: texts of the author, merged. No condition of their own. -/
import Derived.Test.YtbdeclkccchnoaaGreatZ04
import Derived.Test.YtbdeclkccchnoaaGreatZ05
import Derived.Test.YtbdeclkccchnoaaGreatZ07
import Derived.Test.YtbdeclkccchnoaaGreatZ08
import Derived.Test.YtbdeclkccchnoaaGreatZ09
import Derived.Laws.BitsAllLaws
import Derived.Deep.RegionLaw
import Derived.Laws.IdiomStrings
import Derived.Laws.AppendOwn
namespace Go.Proofs.YtbdeclkccchnoaaGreat
open Go.RowKit
theorem tag_or (n w : Nat) (h : w < 8) (hn : n ≤ 536870911) : bits .or .u64 ((n : Int) * 8) (w : Int) = ((8 * n + w : Nat) : Int) := by
  have := u64_or_nat (n * 8) w (by omega) (by omega)
  rw [show ((n : Int) * 8) = ((n * 8 : Nat) : Int) by omega, this]
  have h2 := Nat.two_pow_add_eq_or_of_lt (i := 3) h n
  have h3 : n * 8 ||| w = 8 * n + w := by simpa [Nat.mul_comm] using h2.symm
  rw [h3]
set_option maxRecDepth 100000 in
set_option maxHeartbeats 4000000 in
theorem tag_word (n x : Nat) (hn : n ≤ 536870911) (hx : x < 8) (w : World) :
    Calls Tryz.prog 127 #[.agg #[.int .i64 n, .int .i64 x]] w fun e w' => e = .returned (.int .u64 ((8 * n + x : Nat) : Int)) ∧ Below w.heap.size w w' := by
  have HO := hid (tag_or n x hx hn)
  go_enter Tryz.func127, Tryz.ntmps127
  go_wp2_with fail
  go_ret
  exact ⟨ret1 (int_eq (by first | exact HO.out | (rw [← HO.out]; congr 1; omega))), by (repeat (first | with_reducible exact Below.refl _ _ | with_reducible refine Below.setCell ?_ (by first | omega | (simp; omega) | (simp; done)) _ | with_reducible refine Below.alloc ?_ (by first | omega | (simp; omega) | (simp; done)) _ | with_reducible refine below_drewN ?_ _ | with_reducible refine Below.drew ?_))⟩
set_option maxRecDepth 100000 in
set_option maxHeartbeats 4000000 in
theorem tag_Put (n x : Nat) (h : tagOk n x = true) {w : World} {v : Value} {l : List UInt8} (hv : Bytes w v l) (hl : l.length ≤ 1099511627776) :
    Calls Tryz.prog 112 #[v, .agg #[.int .i64 n, .int .i64 x]] w fun e w' => ∃ v', e = .returned (.tuple #[v', .int .u8 0]) ∧ Own w' w.heap.size v' (l ++ vput (8 * n + x)) ∧ Below w.heap.size w w' := by
  have H := hid h
  have hb : (1 : Int) ≤ n ∧ (n : Int) ≤ 536870911 ∧ ((x : Int) = 0 ∨ (x : Int) = 1 ∨ (x : Int) = 2 ∨ (x : Int) = 5) := of_decide_eq_true h
  have HV := hid hv
  have HLB := hid hl
  obtain ⟨hlen, a, cap, rfl, -, -, -, -⟩ := hv.open
  clear h hv hl
  go_enter Tryz.func112, Tryz.ntmps112
  go_wp2_with (first | (go_at_call 126; refine (tag_Right n x (by omega) _).mono ?_; rintro e w1 ⟨rfl, hb1⟩; rw [H.out]; have HB1 := hid (((Below.refl w.heap.size w).alloc (Nat.le_refl _) _).trans (hb1.mono (by simp))); have hk := (Blk.new w [.int .i64 n, .int .i64 x] 194).below hb1; have c1 := hk.cell 0 _ rfl; have c2 := hk.cell 1 _ rfl; clear hb1 hk) | (go_at_call 127; refine (tag_word n x (by omega) (by omega) _).mono ?_; rintro e w2 ⟨rfl, hb2⟩; have HB2 := hid (HB1.out.trans (hb2.mono HB1.out.size)); clear hb2) | (go_at_call 90; refine (varint_Put (HV.out.below HB2.out) HLB.out (8 * n + x) (by omega)).mono ?_; rintro e w3 ⟨v3, rfl, hO3, hb3⟩))
  go_ret2
  exact ⟨_, rfl, hO3.mono HB2.out.size, HB2.out.trans (hb3.mono HB2.out.size)⟩
set_option maxRecDepth 100000 in
set_option maxHeartbeats 4000000 in
theorem record_fits (x : Nat) {w : World} {v : Value} {l : List UInt8} (h : rfits x l = true) (hv : Bytes w v l) :
    Calls Tryz.prog 113 #[.int .i64 x, v] w fun e w' => e = .returned (.bool true) ∧ Below w.heap.size w w' := by
  obtain ⟨hlen, a, cap, rfl, -, -, -, -⟩ := hv.open
  have HV := hid hv
  by_cases h0 : x = 0
  · subst h0
    have h1 : (vread l).2.2 = 0 ∧ (vread l).2.1 = l.length := by simpa [rfits] using h
    have HC := hid h1.1
    have HN := hid h1.2
    clear h h1 hv
    go_enter Tryz.func113, Tryz.ntmps113
    go_wp2_with (go_at_call 128; refine (varint_Skip HV.out).mono ?_; rintro e w' ⟨rfl, rfl⟩; rw [HC.out, HN.out])
    go_ret
    exact ⟨rfl, Below.refl _ _⟩
  by_cases h1 : x = 1
  · subst h1
    have h1 : l.length = 8 := by simpa [rfits] using h
    rw [h1] at *
    clear h hv
    go_enter Tryz.func113, Tryz.ntmps113
    go_wp2_with fail
    go_ret
    exact ⟨rfl, Below.refl _ _⟩
  by_cases h5 : x = 5
  · subst h5
    have h1 : l.length = 4 := by simpa [rfits] using h
    rw [h1] at *
    clear h hv
    go_enter Tryz.func113, Tryz.ntmps113
    go_wp2_with fail
    go_ret
    exact ⟨rfl, Below.refl _ _⟩
  · have h2 : x = 2 := by
      unfold rfits at h
      rw [if_neg (by omega), if_neg (by omega), if_neg (by omega)] at h
      have := of_decide_eq_true h
      omega
    subst h2
    clear h hv h0 h1 h5
    go_enter Tryz.func113, Tryz.ntmps113
    go_wp2_with fail
    go_ret
    exact ⟨rfl, Below.refl _ _⟩
theorem rput_nat (n x : Nat) (t : List UInt8) : rput n x t = vput (8 * n + x) ++ ((if x = 2 then vput t.length else []) ++ t) := by
  unfold rput
  rw [show (8 * (n : Int) + (x : Int)).toNat = 8 * n + x by omega]
  by_cases h : x = 2
  · rw [if_pos h, if_pos (by omega)]
  · rw [if_neg h, if_neg (by omega)]
set_option maxRecDepth 100000 in
set_option maxHeartbeats 4000000 in
theorem record_Put (n x : Nat) (h : tagOk n x = true) {w : World} {v vt : Value} {l t : List UInt8} (hv : Bytes w v l) (hl : l.length ≤ 549755813888) (hvt : Bytes w vt t) (ht : t.length ≤ 549755813888) (hf : rfits x t = true) :
    Calls Tryz.prog 87 #[v, .int .i64 n, .int .i64 x, vt] w fun e w' => ∃ v', e = .returned (.tuple #[v', .int .u8 0]) ∧ Own w' w.heap.size v' (l ++ rput n x t) ∧ Below w.heap.size w w' := by
  have H := hid h
  have hb : (1 : Int) ≤ n ∧ (n : Int) ≤ 536870911 ∧ ((x : Int) = 0 ∨ (x : Int) = 1 ∨ (x : Int) = 2 ∨ (x : Int) = 5) := of_decide_eq_true h
  have HV := hid hv
  have HVT := hid hvt
  have HF := hid hf
  have HLB := hid hl
  have HLT := hid ht
  have HT10 : Hid ((vput (8 * n + x)).length ≤ 10) := vput_le (by omega)
  have HPL : Hid ((vput t.length).length ≤ 10) := vput_le (by omega)
  have HQ := hid (rput_nat n x t)
  obtain ⟨hlen, a, cap, rfl, -, -, -, -⟩ := hv.open
  obtain ⟨htlen, ta, tcap, rfl, -, -, -, -⟩ := hvt.open
  obtain ⟨tn, HTN⟩ : ∃ n, Hid (n = t.length) := ⟨_, rfl⟩
  rw [← HTN.out] at HPL HQ htlen HVT HLT ht ⊢
  clear h hv hvt hf
  by_cases h2 : x = 2
  · subst h2
    go_enter Tryz.func87, Tryz.ntmps87
    go_wp2_with (first | (go_at_call 112; refine (tag_Put n 2 H.out HV.out (by have := HLB.out; omega)).mono ?_; rintro e w1 ⟨v1, rfl, hO1, hb1⟩; have HO1 := hid hO1; have HB1 := hid hb1; clear hO1 hb1) | (go_at_call 113; refine (record_fits 2 HF.out (HVT.out.below HB1.out)).mono ?_; rintro e w2 ⟨rfl, hb2⟩; have HB2 := hid (HB1.out.trans (hb2.mono HB1.out.size)); have HO2 := hid (HO1.out.below_of hb2); clear hb2))
    refine (varint_Put (HO2.out.bytes (by rw [List.length_append]; have := HT10.out; have := HLB.out; omega)) (by rw [List.length_append]; have := HT10.out; have := HLB.out; omega) tn (by omega)).mono ?_
    rintro e w3 ⟨v3, rfl, hO3, hb3⟩
    have hB3 := HB2.out.trans (hb3.mono HB2.out.size)
    have hO3' := hO3.mono HB2.out.size
    obtain ⟨v4, w4, hr4, hO4, hg4, -⟩ := own_append hO3' (HVT.out.below hB3) (by rw [List.length_append, List.length_append, ← HTN.out]; have := HT10.out; have := HPL.out; have := HLB.out; omega) hB3.size
    have HR4 := hid hr4
    have HO4 := hid hO4
    have HB4 := hid (own_grown hO3' hB3 hg4)
    clear hO3 hb3 hB3 hO3' hr4 hO4 hg4
    go_wp2_with (at_builtin; refine wpList_append_eq rfl _ _ _ rfl _ _ rfl rfl HR4.out ?_)
    go_ret2
    refine ⟨_, rfl, ?_, HB4.out⟩
    rw [HQ.out, if_pos trivial]
    have h4 := HO4.out
    simp only [List.append_assoc] at h4
    exact h4
  · have HX : Hid (rput n x t = vput (8 * n + x) ++ t) := by rw [Hid, HQ.out, if_neg h2]; rfl
    go_enter Tryz.func87, Tryz.ntmps87
    go_wp2_with (first | (go_at_call 112; refine (tag_Put n x H.out HV.out (by have := HLB.out; omega)).mono ?_; rintro e w1 ⟨v1, rfl, hO1, hb1⟩; have HO1 := hid hO1; have HB1 := hid hb1; clear hO1 hb1) | (go_at_call 113; refine (record_fits x HF.out (HVT.out.below HB1.out)).mono ?_; rintro e w2 ⟨rfl, hb2⟩; have HB2 := hid (HB1.out.trans (hb2.mono HB1.out.size)); have hO2 := HO1.out.below_of hb2; obtain ⟨v4, w4, hr4, hO4, hg4, -⟩ := own_append hO2 (HVT.out.below HB2.out) (by rw [List.length_append, ← HTN.out]; have := HT10.out; have := HLB.out; omega) HB2.out.size; have HR4 := hid hr4; have HO4 := hid hO4; have HB4 := hid (own_grown hO2 HB2.out hg4); clear hb2 hO2 hr4 hO4 hg4) | (at_builtin; refine wpList_append_eq rfl _ _ _ rfl _ _ rfl rfl HR4.out ?_))
    go_ret2
    refine ⟨_, rfl, ?_, HB4.out⟩
    rw [HX.out, ← List.append_assoc]
    exact HO4.out
end Go.Proofs.YtbdeclkccchnoaaGreat
namespace Go.Proofs.YtbdeclkccchnoaaGreat
open Go.RowKit
def Apart (n0 base : Nat) (w : World) (P : World → Prop) : Prop := ∀ w', (∀ b, b < w.heap.size → (b < n0 ∨ base ≤ b) → w'.heap[b]? = w.heap[b]?) → P w'
theorem Apart.here {n0 base : Nat} {w : World} {P : World → Prop} (h : Apart n0 base w P) : P w := h w fun _ _ _ => rfl
theorem Apart.later {n0 base : Nat} {w w2 : World} {P : World → Prop} (h : Apart n0 base w P) (hb : Below w.heap.size w w2) : Apart n0 base w2 P := fun w' hw' => h w' fun b hlt hc => (hw' b (Nat.lt_of_lt_of_le hlt hb.size) hc).trans (hb.block b hlt)
theorem Apart.mono {n0 base base' : Nat} {w : World} {P : World → Prop} (h : Apart n0 base w P) (hb : base' ≤ base) : Apart n0 base' w P := fun w' hw' => h w' fun b hlt hc => hw' b hlt (hc.imp id fun h => Nat.le_trans hb h)
def RowsOwn {α : Type} (P : World → List Value → α → Prop) (T : TypeId) (k n0 base : Nat) (w : World) (v : Value) (l : List α) : Prop :=
  ∃ rows : List (List Value), rows.length = l.length ∧ (∀ r ∈ rows, r.length = k) ∧ w.ownsRow base T k v l.length rows.flatten ∧
    ∀ w', (∀ b, b < w.heap.size → v.ownBlock ≠ some b → (b < n0 ∨ base ≤ b) → w'.heap[b]? = w.heap[b]?) → ∀ (i : Nat) (r : List Value) (x : α), rows[i]? = some r → l[i]? = some x → P w' r x
theorem RowsOwn.nil {α : Type} (P : World → List Value → α → Prop) (T : TypeId) (k n0 base : Nat) (w : World) : RowsOwn P T k n0 base w (.slice none 0 0) [] :=
  ⟨[], rfl, by simp, World.ownsRow_nil _ _ _ _, fun _ _ i r x h => by simp at h⟩
theorem RowsOwn.later {α : Type} {P : World → List Value → α → Prop} {T : TypeId} {k n0 base : Nat} {w w2 : World} {v : Value} {l : List α} (h : RowsOwn P T k n0 base w v l)
    (hw : ∀ b, b < w.heap.size → (b < n0 ∨ base ≤ b) → w2.heap[b]? = w.heap[b]?) (hs : w.heap.size ≤ w2.heap.size) : RowsOwn P T k n0 base w2 v l := by
  obtain ⟨rows, h1, h2, h3, h4⟩ := h
  refine ⟨rows, h1, h2, row_keep h3 fun b cur hb he => hw b (Array.getElem?_eq_some_iff.1 he).1 (.inr hb), fun w' hw' => h4 w' fun b hlt hne hc => (hw' b (by omega) hne hc).trans (hw b hlt hc)⟩
theorem RowsOwn.below {α : Type} {P : World → List Value → α → Prop} {T : TypeId} {k n0 base : Nat} {w w2 : World} {v : Value} {l : List α} (h : RowsOwn P T k n0 base w v l) (hb : Below w.heap.size w w2) : RowsOwn P T k n0 base w2 v l :=
  h.later (fun b hlt _ => hb.block b hlt) hb.size
theorem RowsOwn.form {α : Type} {P : World → List Value → α → Prop} {T : TypeId} {k n0 base : Nat} {w : World} {v : Value} {l : List α} (h : RowsOwn P T k n0 base w v l) : ∃ a c, v = .slice a l.length c := by
  obtain ⟨rows, -, -, h3, -⟩ := h
  rcases h3.2 with ⟨rfl, h0⟩ | ⟨g, cap, cur, rfl, _⟩
  · exact ⟨none, 0, by rw [h0]⟩
  · exact ⟨_, _, rfl⟩
theorem RowsOwn.at {α : Type} {P : World → List Value → α → Prop} {T : TypeId} {k n0 base : Nat} {w : World} {v : Value} {l : List α} (h : RowsOwn P T k n0 base w v l) (hl : l.length ≤ 140737488355328) {w' : World}
    (hw : ∀ b, b < w.heap.size → (b < n0 ∨ base ≤ b) → w'.heap[b]? = w.heap[b]?) : RowsAt P k w' v l := by
  obtain ⟨rows, h1, h2, h3, h4⟩ := h
  exact ⟨rows, h1, h2, row_seg (row_keep h3 fun b cur hb he => hw b (Array.getElem?_eq_some_iff.1 he).1 (.inr hb)) hl, fun i r x hr hx => h4 w' (fun b hlt _ hc => hw b hlt hc) i r x hr hx⟩
theorem RowsOwn.append' {α : Type} {P : World → List Value → α → Prop} {T : TypeId} {k n0 base : Nat} {w : World} {v : Value} {l : List α} (h : RowsOwn P T k n0 base w v l) (hk : 0 < k)
    {G : Program} (t : TypeId) (z : Value) (bytes : Nat) (ht : G.underlying t = some (.slice T)) (hinfo : (G.info? T).map (fun i => (i.zero, i.size, i.bytes)) = some (some z, k, bytes)) (hzs : z.cells.size = k)
    (cells : Array Value) (hr : cells.size = k) (h1 : ∀ u ∈ cells.toList, u.oneCell' = true) (x : α)
    (hP : ∀ w', (∀ b, b < w.heap.size → v.ownBlock ≠ some b → (b < n0 ∨ base ≤ b) → w'.heap[b]? = w.heap[b]?) → P w' cells.toList x) (hlen : l.length ≤ 1099511627776) (hby : bytes ≤ 120) (hbase : base ≤ w.heap.size) :
    ∃ v' w', (Builtin.append_ #[t, t] t #[v, .slice (some ⟨w.heap.size, 0, none⟩) 1 1]).run G (w.alloc (.cells cells T)) = .ok v' w' ∧ RowsOwn P T k n0 base w' v' (l ++ [x]) ∧
      (w.alloc (.cells cells T)).grownBy w' v.ownBlock ∧ (v'.ownBlock = v.ownBlock ∨ v'.ownBlock = some (w.alloc (.cells cells T)).heap.size) := by
  obtain ⟨rows, g1, g2, g3, g4⟩ := h
  have hseg : Seg (w.alloc (.cells cells T)) (.slice (some ⟨w.heap.size, 0, none⟩) 1 1) k 1 cells.toList := by
    refine ⟨by simp [hr], by omega, some ⟨w.heap.size, 0, none⟩, 1, rfl, Nat.le_refl _, by omega, by simp, fun j u hu => ⟨_, _, rfl, ?_⟩⟩
    rw [Nat.zero_add, cell_of_row _ _ _ cells T (0, 0) (heap_alloc_new w _)]
    simpa using hu
  have hb1 : (l.length + 1) * bytes ≤ 140737488355328 := Nat.le_trans (Nat.mul_le_mul_left _ hby) (by omega)
  obtain ⟨v', w', hrun, hO, hg, hat⟩ := seg_append (P := G) (w.alloc (.cells cells T)) base t t T z k bytes ht hinfo hzs hk v _ l.length 1 rows.flatten cells.toList
    (World.ownsRow.alloc g3 _) hseg h1 (by omega) hb1 (by simp; omega)
  refine ⟨v', w', hrun, ⟨rows ++ [cells.toList], by simp [g1], ?_, by simpa using hO, ?_⟩, hg, hat⟩
  · intro r hr'
    rcases List.mem_append.1 hr' with h | h
    · exact g2 r h
    · simp at h; subst h; simpa using hr
  · intro w2 hw2
    have hsz : w.heap.size + 1 ≤ w'.heap.size := by have := hg.size; simpa using this
    have hold : ∀ b, b < w.heap.size → v.ownBlock ≠ some b → (b < n0 ∨ base ≤ b) → w2.heap[b]? = w.heap[b]? := by
      intro b hlt hne hc
      have hne' : v'.ownBlock ≠ some b := by
        rcases hat with e | e
        · rw [e]; exact hne
        · rw [e]; intro e2; simp at e2; omega
      exact ((hw2 b (by omega) hne' hc).trans (hg.block b (by simp; omega) (fun e => hne e.symm))).trans (Below.heap_alloc w _ b hlt)
    intro i r y hri hyi
    by_cases hil : i < l.length
    · rw [List.getElem?_append_left (by omega)] at hri
      rw [List.getElem?_append_left hil] at hyi
      exact g4 w2 hold i r y hri hyi
    · have hi : i = l.length := by
        have := (List.getElem?_eq_some_iff.1 hyi).1
        simp at this; omega
      subst hi
      rw [← g1, List.getElem?_concat_length] at hri
      rw [List.getElem?_concat_length] at hyi
      cases hri
      cases hyi
      exact hP w2 hold
theorem RowsOwn.append {α : Type} {P : World → List Value → α → Prop} {T : TypeId} {k n0 base : Nat} {w : World} {v : Value} {l : List α} (h : RowsOwn P T k n0 base w v l) (hk : 0 < k) (hn0 : n0 ≤ base)
    {G : Program} (t : TypeId) (z : Value) (bytes : Nat) (ht : G.underlying t = some (.slice T)) (hinfo : (G.info? T).map (fun i => (i.zero, i.size, i.bytes)) = some (some z, k, bytes)) (hzs : z.cells.size = k)
    (cells : Array Value) (hr : cells.size = k) (h1 : ∀ u ∈ cells.toList, u.oneCell' = true) (x : α) (nb : Nat) (hnb : ∀ b, v.ownBlock = some b → b < nb) (hbn : base ≤ nb)
    (hP : Apart n0 nb w fun w' => P w' cells.toList x) (hlen : l.length ≤ 1099511627776) (hby : bytes ≤ 120) (hbase : base ≤ w.heap.size) :
    ∃ v' w', (Builtin.append_ #[t, t] t #[v, .slice (some ⟨w.heap.size, 0, none⟩) 1 1]).run G (w.alloc (.cells cells T)) = .ok v' w' ∧ RowsOwn P T k n0 base w' v' (l ++ [x]) ∧
      (w.alloc (.cells cells T)).grownBy w' v.ownBlock ∧ (v'.ownBlock = v.ownBlock ∨ v'.ownBlock = some (w.alloc (.cells cells T)).heap.size) := by
  have g3 := h
  obtain ⟨rows, -, -, g3, -⟩ := g3
  refine h.append' hk t z bytes ht hinfo hzs cells hr h1 x (fun w2 hold => hP w2 fun b hlt hc => hold b hlt ?_ (hc.imp id fun h => Nat.le_trans hbn h)) hlen hby hbase
  intro e
  have := hnb b e
  rcases hc with hc | hc
  · have hb2 : base ≤ b := by
      rcases g3.2 with ⟨rfl, _⟩ | ⟨g, cap, cur, rfl, hb, _⟩
      · simp [Value.ownBlock] at e
      · simp [Value.ownBlock] at e; omega
    omega
  · omega
theorem RowsOwn.own {α : Type} {P : World → List Value → α → Prop} {T : TypeId} {k n0 base : Nat} {w : World} {v : Value} {l : List α} (h : RowsOwn P T k n0 base w v l) (b : Nat) (e : v.ownBlock = some b) : base ≤ b ∧ b < w.heap.size := by
  obtain ⟨rows, -, -, h3, -⟩ := h
  rcases h3.2 with ⟨rfl, h0⟩ | ⟨g, cap, cur, rfl, hb, hg, _⟩
  · simp [Value.ownBlock] at e
  · simp [Value.ownBlock] at e
    subst e
    exact ⟨hb, (Array.getElem?_eq_some_iff.1 hg).1⟩
theorem RowsOwn.step {α : Type} {P : World → List Value → α → Prop} {T : TypeId} {k n0 base i : Nat} {wr w1 : World} {oa : Option Addr} {oc : Nat} {l : List α} (h : RowsOwn P T k n0 base wr (.slice oa i oc) l) (hb : Below wr.heap.size wr w1) (hk : 0 < k) (hn0 : n0 ≤ base) (hbs : base ≤ wr.heap.size) (hil : l.length = i)
    {G : Program} (t : TypeId) (z : Value) (bytes : Nat) (ht : G.underlying t = some (.slice T)) (hinfo : (G.info? T).map (fun i => (i.zero, i.size, i.bytes)) = some (some z, k, bytes)) (hzs : z.cells.size = k)
    (cells : Array Value) (hr : cells.size = k) (h1 : ∀ u ∈ cells.toList, u.oneCell' = true) (x : α) (hP : Apart n0 wr.heap.size w1 fun w' => P w' cells.toList x) (hlen : i ≤ 1099511627776) (hby : bytes ≤ 120) :
    ∃ a' c' w5, (Builtin.append_ #[t, t] t #[.slice oa i oc, .slice (some ⟨w1.heap.size, 0, none⟩) 1 1]).run G (w1.alloc (.cells cells T)) = .ok (.slice a' (i + 1) c') w5 ∧ RowsOwn P T k n0 base w5 (.slice a' (i + 1) c') (l ++ [x]) ∧
      Below base wr (w1.alloc (.cells cells T)) ∧ Below base wr w5 := by
  have hs := hb.size
  have hB1 : Below base wr (w1.alloc (.cells cells T)) := (hb.mono hbs).alloc (by omega) _
  obtain ⟨v', w', hrun, hO, hg, -⟩ := (h.below hb).append hk hn0 t z bytes ht hinfo hzs cells hr h1 x wr.heap.size (fun b e => (h.own b e).2) hbs hP (by omega) hby (by omega)
  obtain ⟨a', c', rfl⟩ := hO.form
  rw [List.length_append, List.length_singleton, hil] at *
  exact ⟨a', c', w', hrun, hO, hB1, hB1.grown hg (by have := hB1.size; omega) fun q e => (h.own q e).1⟩
end Go.Proofs.YtbdeclkccchnoaaGreat
namespace Go.Proofs.YtbdeclkccchnoaaGreat
open Go.RowKit Go.Shelf
def SubP (d : Nat) (w : World) (r : List Value) (x : M d) : Prop := MsgAt d w (.agg r.toArray) x
def ValP' (d : Nat) (w : World) (r : List Value) (x : Val (M d)) : Prop := ValAt (MsgAt d) w (.agg r.toArray) x
theorem keep_apart {n base : Nat} {w0 w' w2 : World} (hn : n = w0.heap.size) (hb : Below n w0 w') (h : ∀ b, b < w'.heap.size → (b < n ∨ base ≤ b) → w2.heap[b]? = w'.heap[b]?) : ∀ p u, w0.cell? p = some u → w2.cell? p = some u := by
  intro p u hu
  have hp : p.block < w0.heap.size := World.block_lt_of_cell? w0 p hu
  have h1 := hb.size
  rw [World.cell?_of_block (h p.block (by omega) (.inl (by omega))), World.cell?_of_block (hb.block p.block (by omega))]
  exact hu
theorem news3 (w : World) (c1 c2 c3 : List Value) (T1 T2 T3 : TypeId) :
    Blk (((w.alloc (.cells c1.toArray T1)).alloc (.cells c2.toArray T2)).alloc (.cells c3.toArray T3)) w.heap.size c1 T1 ∧
    Blk (((w.alloc (.cells c1.toArray T1)).alloc (.cells c2.toArray T2)).alloc (.cells c3.toArray T3)) (w.heap.size + 1) c2 T2 ∧
    Blk (((w.alloc (.cells c1.toArray T1)).alloc (.cells c2.toArray T2)).alloc (.cells c3.toArray T3)) (w.heap.size + 1 + 1) c3 T3 ∧
    (((w.alloc (.cells c1.toArray T1)).alloc (.cells c2.toArray T2)).alloc (.cells c3.toArray T3)).heap.size = w.heap.size + 1 + 1 + 1 ∧
    Below w.heap.size w (((w.alloc (.cells c1.toArray T1)).alloc (.cells c2.toArray T2)).alloc (.cells c3.toArray T3)) := by
  have e : ∀ (w : World) (o : Obj), (w.alloc o).heap.size = w.heap.size + 1 := fun w o => by simp
  refine ⟨((Blk.new w c1 T1).alloc _).alloc _, ?_, ?_, by rw [e, e, e], (((Below.refl _ _).alloc (Nat.le_refl _) _).alloc (by rw [e]; omega) _).alloc (by rw [e, e]; omega) _⟩
  · have := (Blk.new (w.alloc (.cells c1.toArray T1)) c2 T2).alloc (.cells c3.toArray T3)
    rw [e] at this
    exact this
  · have := Blk.new ((w.alloc (.cells c1.toArray T1)).alloc (.cells c2.toArray T2)) c3 T3
    rw [e, e] at this
    exact this
theorem MsgAt.form : ∀ {d : Nat} {w : World} {v : Value} {x : M d}, MsgAt d w v x → ∃ a1 n1 c1 a2 n2 c2, v = .agg #[.slice a1 n1 c1, .slice a2 n2 c2]
  | 0, _, _, _, h => h.elim
  | d + 1, _, _, _, h => by
    obtain ⟨vv, uv, rfl, hV, hU⟩ := h
    obtain ⟨-, va, vc, rfl, -, -⟩ := hV.open
    obtain ⟨-, ua, uc, rfl, -, -⟩ := hU.open
    exact ⟨_, _, _, _, _, _, rfl⟩
theorem mwt_pos : ∀ {d : Nat} (x : M d), 1 ≤ mwt d x
  | 0, x => x.elim
  | d + 1, x => by show 1 ≤ 1 + _ + _; omega
theorem sub_count {d' : Nat} : ∀ (l : List (M d')) (d : Nat), d = d' → l.length ≤ (l.map (mwt d')).sum
  | [], _, _ => by simp
  | x :: t, d, h => by
    have := sub_count t d h
    have := mwt_pos x
    rw [List.map_cons, List.sum_cons, List.length_cons]
    omega
end Go.Proofs.YtbdeclkccchnoaaGreat
namespace Go.Proofs.YtbdeclkccchnoaaGreat
open Go.RowKit Go.Shelf
theorem ValAt.form {d : Nat} {w : World} {v : Value} {x : Val (M d)} (h : ValAt (MsgAt d) w v x) : ∃ m a1 n1 c1 a2 n2 c2 a3 n3 c3, v = .agg #[.int .i64 m, .slice a1 n1 c1, .slice a2 n2 c2, .slice a3 n3 c3] := by
  obtain ⟨wv, tv, sv, rfl, -, hW, hT, hS⟩ := h
  obtain ⟨-, wa, wc, rfl, -, -⟩ := hW.open
  obtain ⟨-, ta, tc, rfl, -, -⟩ := hT.open
  obtain ⟨-, sa, sc, rfl, -, -⟩ := hS.open
  exact ⟨_, _, _, _, _, _, _, _, _, _, rfl⟩
theorem unk_len {d : Nat} (x : M (d + 1)) (h : mwt (d + 1) x ≤ 1099511627776) : (M.unk x).length ≤ 1099511627776 ∧ (M.vals x).length ≤ 1099511627776 := by
  have h1 : ∀ l : List (List UInt8), l.length ≤ twt l := fun l => by
    induction l with
    | nil => simp
    | cons t l ih => unfold twt at *; simp; omega
  have h2 : ∀ l : List (Val (M d)), l.length ≤ (l.map (vwt (mwt d))).sum := fun l => by
    induction l with
    | nil => simp
    | cons t l ih =>
      have : 1 ≤ vwt (mwt d) t := by unfold vwt; omega
      simp; omega
  have h3 : 1 + twt (M.unk x) + ((M.vals x).map (vwt (mwt d))).sum ≤ 1099511627776 := h
  have := h1 (M.unk x)
  have := h2 (M.vals x)
  omega
end Go.Proofs.YtbdeclkccchnoaaGreat
namespace Go.Proofs.YtbdeclkccchnoaaGreat
open Go.RowKit
theorem firstAt_get {α : Type} (p : α → Bool) (l : List α) (k : Nat) (x : α) (h : l[k]? = some x) : firstAt p (l.drop k) k = if p x then (k : Int) else firstAt p (l.drop (k + 1)) (k + 1) := by
  obtain ⟨hk, rfl⟩ := List.getElem?_eq_some_iff.1 h
  rw [List.drop_eq_getElem_cons hk, firstAt]
theorem firstAt_any {α : Type} (p : α → Bool) : ∀ (l : List α) (i : Nat), decide (0 ≤ firstAt p l i) = l.any p
  | [], i => by simp [firstAt]
  | x :: r, i => by
    rw [firstAt, List.any_cons]
    cases h : p x with
    | true => rw [if_pos rfl]; simp
    | false => rw [if_neg (by decide), firstAt_any p r (i + 1)]; simp
set_option maxRecDepth 100000 in
set_option maxHeartbeats 4000000 in
theorem indexFunc_u64 {w : World} {v : Value} {l : List Nat} (h : WordsAt w v l) (F : Nat) (cap : Array Value) (p : Nat → Bool) (hcf : ∀ (args : Array Value) (w : World), (callFunc F args).run Tryz.prog w = .ok (.enter F args) w)
    (hcl : ∀ x ∈ l, ∀ (wr : World), x < 2 ^ 64 → Below w.heap.size w wr → Calls Tryz.prog F (#[.int .u64 x] ++ cap) wr fun e w' => e = .returned (.bool (p x)) ∧ Below wr.heap.size wr w') :
    Calls Tryz.prog 106 #[v, .func (.func F) #[] cap] w fun e w' => e = .returned (.int .i64 (firstAt p l 0)) ∧ Below w.heap.size w w' := by
  obtain ⟨hlen, a, c, rfl, -, hat⟩ := h.open
  obtain ⟨n, HN⟩ : ∃ n, Hid (n = l.length) := ⟨_, rfl⟩
  rw [← HN.out] at hlen ⊢
  have HAT := hid hat
  have HCL := hid hcl
  clear hat hcl
  go_enter Tryz.func106, Tryz.ntmps106
  go_wp2
  go_loopw [8] (fun v8 wr => ∃ k : Nat, k ≤ n ∧ v8 = .int .i64 k ∧ Hid (firstAt p (l.drop k) k = firstAt p l 0) ∧ Hid (Below w.heap.size w wr)) (fun v8 _ => n - (intOf v8).toNat)
  case atStart => exact ⟨0, by omega, rfl, hid rfl, Below.refl _ _⟩
  case round =>
    obtain ⟨k, hk, rfl, HK, HB⟩ := hrel
    by_cases hlt : k < n
    · have hat := HAT.out
      have hxi : l[k]? = some (l[k]'(by rw [← HN.out]; exact hlt)) := List.getElem?_eq_getElem _
      generalize l[k]'(by rw [← HN.out]; exact hlt) = x at hxi
      obtain ⟨hx64, b, o, ha, g0⟩ := hat k x hxi
      clear hat
      have HXX := hid hx64
      clear hx64
      have r0 := below_keeps HB.out _ _ g0
      have hU : wordV x = .int .u64 x := rfl
      rw [hU] at r0
      have hbl : b < wr.heap.size := World.block_lt_of_cell? wr _ r0
      have hix := index_run1 Tryz.underlying49 size_u64 ha k hlt (cap := c)
      clear g0 hU
      have hst := hid (firstAt_get p l k x hxi)
      have HMEM := hid (List.mem_of_getElem? hxi)
      clear ha hxi
      go_wp2_with fail
      have hcl := HCL.out
      refine (hcl x HMEM.out wr HXX.out HB.out).mono ?_
      rintro e w5 ⟨rfl, hb5⟩
      clear hcl
      have HB5 : Hid (Below w.heap.size w w5) := below_step HB.out hb5 HB.out.size
      clear hb5
      cases hp : p x with
      | true =>
        have e : firstAt p l 0 = k := by rw [← HK.out, hst.out, if_pos hp]
        have HE := hid e
        clear hp e
        go_wp2
        go_ret
        exact ⟨by rw [HE.out]; rfl, HB5.out⟩
      | false =>
        have e : firstAt p (l.drop (k + 1)) (k + 1) = firstAt p l 0 := by rw [← HK.out, hst.out, if_neg (by rw [hp]; decide)]
        have HE := hid e
        clear hp e
        go_wp2
        go_roundw
        case rel => exact ⟨k + 1, by omega, by go_num, HE.out, HB5.out⟩
        case measure => simp [intOf]; omega
    · go_wp2
      go_ret
      have e : firstAt p l 0 = -1 := by
        rw [← HK.out, List.drop_of_length_le (by rw [← HN.out]; omega)]; rfl
      exact ⟨by rw [e]; rfl, HB.out⟩
set_option maxRecDepth 100000 in
set_option maxHeartbeats 4000000 in
theorem containsFunc_u64 {w : World} {v : Value} {l : List Nat} (h : WordsAt w v l) (F : Nat) (cap : Array Value) (p : Nat → Bool) (hcf : ∀ (args : Array Value) (w : World), (callFunc F args).run Tryz.prog w = .ok (.enter F args) w)
    (hcl : ∀ x ∈ l, ∀ (wr : World), x < 2 ^ 64 → Below w.heap.size w wr → Calls Tryz.prog F (#[.int .u64 x] ++ cap) wr fun e w' => e = .returned (.bool (p x)) ∧ Below wr.heap.size wr w') :
    Calls Tryz.prog 76 #[v, .func (.func F) #[] cap] w fun e w' => e = .returned (.bool (l.any p)) ∧ Below w.heap.size w w' := by
  obtain ⟨x, HX⟩ : ∃ x, Hid (x = firstAt p l 0) := ⟨_, rfl⟩
  have HA : Hid (decide (0 ≤ x) = l.any p) := by rw [HX.out]; exact firstAt_any p l 0
  have HI := hid (indexFunc_u64 h F cap p hcf hcl)
  rw [← HX.out] at HI
  obtain ⟨hlen, a, c, rfl, -, -⟩ := h.open
  clear h hcl
  go_enter Tryz.func76, Tryz.ntmps76
  go_wp2_with fail
  refine HI.out.mono ?_
  rintro e w1 ⟨rfl, hb1⟩
  go_wp2_with fail
  go_ret
  exact ⟨ret1 (by rw [← HA.out]; first | rfl | (congr 1)), hb1⟩
set_option maxRecDepth 100000 in
set_option maxHeartbeats 4000000 in
theorem indexFunc_str {w : World} {v : Value} {l : List (List UInt8)} (h : StrsAt w v l) (F : Nat) (cap : Array Value) (p : (List UInt8) → Bool) (hcf : ∀ (args : Array Value) (w : World), (callFunc F args).run Tryz.prog w = .ok (.enter F args) w)
    (hcl : ∀ x ∈ l, ∀ (wr : World), x.length ≤ 140737488355328 → Below w.heap.size w wr → Calls Tryz.prog F (#[strV x] ++ cap) wr fun e w' => e = .returned (.bool (p x)) ∧ Below wr.heap.size wr w') :
    Calls Tryz.prog 83 #[v, .func (.func F) #[] cap] w fun e w' => e = .returned (.int .i64 (firstAt p l 0)) ∧ Below w.heap.size w w' := by
  obtain ⟨hlen, a, c, rfl, -, hat⟩ := h.open
  obtain ⟨n, HN⟩ : ∃ n, Hid (n = l.length) := ⟨_, rfl⟩
  rw [← HN.out] at hlen ⊢
  have HAT := hid hat
  have HCL := hid hcl
  clear hat hcl
  go_enter Tryz.func83, Tryz.ntmps83
  go_wp2
  go_loopw [8] (fun v8 wr => ∃ k : Nat, k ≤ n ∧ v8 = .int .i64 k ∧ Hid (firstAt p (l.drop k) k = firstAt p l 0) ∧ Hid (Below w.heap.size w wr)) (fun v8 _ => n - (intOf v8).toNat)
  case atStart => exact ⟨0, by omega, rfl, hid rfl, Below.refl _ _⟩
  case round =>
    obtain ⟨k, hk, rfl, HK, HB⟩ := hrel
    by_cases hlt : k < n
    · have hat := HAT.out
      have hxi : l[k]? = some (l[k]'(by rw [← HN.out]; exact hlt)) := List.getElem?_eq_getElem _
      generalize l[k]'(by rw [← HN.out]; exact hlt) = x at hxi
      obtain ⟨hx64, b, o, ha, g0⟩ := hat k x hxi
      clear hat
      have HXX := hid hx64
      clear hx64
      have r0 := below_keeps HB.out _ _ g0
      have hU : strV x = .string ⟨x.toArray⟩ := rfl
      rw [hU] at r0
      have hbl : b < wr.heap.size := World.block_lt_of_cell? wr _ r0
      have hix := index_run1 Tryz.underlying25 size_str ha k hlt (cap := c)
      clear g0 hU
      have hst := hid (firstAt_get p l k x hxi)
      have HMEM := hid (List.mem_of_getElem? hxi)
      clear ha hxi
      go_wp2_with fail
      have hcl := HCL.out
      refine (hcl x HMEM.out wr HXX.out HB.out).mono ?_
      rintro e w5 ⟨rfl, hb5⟩
      clear hcl
      have HB5 : Hid (Below w.heap.size w w5) := below_step HB.out hb5 HB.out.size
      clear hb5
      cases hp : p x with
      | true =>
        have e : firstAt p l 0 = k := by rw [← HK.out, hst.out, if_pos hp]
        have HE := hid e
        clear hp e
        go_wp2
        go_ret
        exact ⟨by rw [HE.out]; rfl, HB5.out⟩
      | false =>
        have e : firstAt p (l.drop (k + 1)) (k + 1) = firstAt p l 0 := by rw [← HK.out, hst.out, if_neg (by rw [hp]; decide)]
        have HE := hid e
        clear hp e
        go_wp2
        go_roundw
        case rel => exact ⟨k + 1, by omega, by go_num, HE.out, HB5.out⟩
        case measure => simp [intOf]; omega
    · go_wp2
      go_ret
      have e : firstAt p l 0 = -1 := by
        rw [← HK.out, List.drop_of_length_le (by rw [← HN.out]; omega)]; rfl
      exact ⟨by rw [e]; rfl, HB.out⟩
set_option maxRecDepth 100000 in
set_option maxHeartbeats 4000000 in
theorem containsFunc_str {w : World} {v : Value} {l : List (List UInt8)} (h : StrsAt w v l) (F : Nat) (cap : Array Value) (p : (List UInt8) → Bool) (hcf : ∀ (args : Array Value) (w : World), (callFunc F args).run Tryz.prog w = .ok (.enter F args) w)
    (hcl : ∀ x ∈ l, ∀ (wr : World), x.length ≤ 140737488355328 → Below w.heap.size w wr → Calls Tryz.prog F (#[strV x] ++ cap) wr fun e w' => e = .returned (.bool (p x)) ∧ Below wr.heap.size wr w') :
    Calls Tryz.prog 48 #[v, .func (.func F) #[] cap] w fun e w' => e = .returned (.bool (l.any p)) ∧ Below w.heap.size w w' := by
  obtain ⟨x, HX⟩ : ∃ x, Hid (x = firstAt p l 0) := ⟨_, rfl⟩
  have HA : Hid (decide (0 ≤ x) = l.any p) := by rw [HX.out]; exact firstAt_any p l 0
  have HI := hid (indexFunc_str h F cap p hcf hcl)
  rw [← HX.out] at HI
  obtain ⟨hlen, a, c, rfl, -, -⟩ := h.open
  clear h hcl
  go_enter Tryz.func48, Tryz.ntmps48
  go_wp2_with fail
  refine HI.out.mono ?_
  rintro e w1 ⟨rfl, hb1⟩
  go_wp2_with fail
  go_ret
  exact ⟨ret1 (by rw [← HA.out]; first | rfl | (congr 1)), hb1⟩
set_option maxRecDepth 100000 in
set_option maxHeartbeats 4000000 in
theorem indexFunc_msg {d : Nat} {w : World} {v : Value} {l : List (M d)} (h : SubsAt (MsgAt d) w v l) (F : Nat) (cap : Array Value) (p : (M d) → Bool) (hcf : ∀ (args : Array Value) (w : World), (callFunc F args).run Tryz.prog w = .ok (.enter F args) w)
    (hcl : ∀ x ∈ l, ∀ (mv : Value) (wr : World), MsgAt d w mv x → Below w.heap.size w wr → Calls Tryz.prog F (#[mv] ++ cap) wr fun e w' => e = .returned (.bool (p x)) ∧ Below wr.heap.size wr w') :
    Calls Tryz.prog 110 #[v, .func (.func F) #[] cap] w fun e w' => e = .returned (.int .i64 (firstAt p l 0)) ∧ Below w.heap.size w w' := by
  obtain ⟨hlen, a, c, rfl, -, hat⟩ := h.open
  obtain ⟨n, HN⟩ : ∃ n, Hid (n = l.length) := ⟨_, rfl⟩
  rw [← HN.out] at hlen ⊢
  have HAT := hid hat
  have HCL := hid hcl
  clear hat hcl
  go_enter Tryz.func110, Tryz.ntmps110
  go_wp2
  go_loopw [8] (fun v8 wr => ∃ k : Nat, k ≤ n ∧ v8 = .int .i64 k ∧ Hid (firstAt p (l.drop k) k = firstAt p l 0) ∧ Hid (Below w.heap.size w wr)) (fun v8 _ => n - (intOf v8).toNat)
  case atStart => exact ⟨0, by omega, rfl, hid rfl, Below.refl _ _⟩
  case round =>
    obtain ⟨k, hk, rfl, HK, HB⟩ := hrel
    by_cases hlt : k < n
    · have hat := HAT.out
      have hxi : l[k]? = some (l[k]'(by rw [← HN.out]; exact hlt)) := List.getElem?_eq_getElem _
      generalize l[k]'(by rw [← HN.out]; exact hlt) = x at hxi
      obtain ⟨b, o, v1, v2, ha, g0, g1, hM⟩ := hat k x hxi
      clear hat
      have HXX := hid hM
      clear hM
      have r0 := below_keeps HB.out _ _ g0
      have r1 := below_keeps HB.out _ _ g1
      have hbl : b < wr.heap.size := World.block_lt_of_cell? wr _ r0
      have hix := index_run Tryz.underlying50 size_msg ha k hlt (cap := c)
      clear g0 g1
      have hst := hid (firstAt_get p l k x hxi)
      have HMEM := hid (List.mem_of_getElem? hxi)
      clear ha hxi
      go_wp2_with fail
      have hcl := HCL.out
      refine (hcl x HMEM.out _ _ HXX.out HB.out).mono ?_
      rintro e w5 ⟨rfl, hb5⟩
      clear hcl
      have HB5 : Hid (Below w.heap.size w w5) := below_step HB.out hb5 HB.out.size
      clear hb5
      cases hp : p x with
      | true =>
        have e : firstAt p l 0 = k := by rw [← HK.out, hst.out, if_pos hp]
        have HE := hid e
        clear hp e
        go_wp2
        go_ret
        exact ⟨by rw [HE.out]; rfl, HB5.out⟩
      | false =>
        have e : firstAt p (l.drop (k + 1)) (k + 1) = firstAt p l 0 := by rw [← HK.out, hst.out, if_neg (by rw [hp]; decide)]
        have HE := hid e
        clear hp e
        go_wp2
        go_roundw
        case rel => exact ⟨k + 1, by omega, by go_num, HE.out, HB5.out⟩
        case measure => simp [intOf]; omega
    · go_wp2
      go_ret
      have e : firstAt p l 0 = -1 := by
        rw [← HK.out, List.drop_of_length_le (by rw [← HN.out]; omega)]; rfl
      exact ⟨by rw [e]; rfl, HB.out⟩
set_option maxRecDepth 100000 in
set_option maxHeartbeats 4000000 in
theorem containsFunc_msg {d : Nat} {w : World} {v : Value} {l : List (M d)} (h : SubsAt (MsgAt d) w v l) (F : Nat) (cap : Array Value) (p : (M d) → Bool) (hcf : ∀ (args : Array Value) (w : World), (callFunc F args).run Tryz.prog w = .ok (.enter F args) w)
    (hcl : ∀ x ∈ l, ∀ (mv : Value) (wr : World), MsgAt d w mv x → Below w.heap.size w wr → Calls Tryz.prog F (#[mv] ++ cap) wr fun e w' => e = .returned (.bool (p x)) ∧ Below wr.heap.size wr w') :
    Calls Tryz.prog 79 #[v, .func (.func F) #[] cap] w fun e w' => e = .returned (.bool (l.any p)) ∧ Below w.heap.size w w' := by
  obtain ⟨x, HX⟩ : ∃ x, Hid (x = firstAt p l 0) := ⟨_, rfl⟩
  have HA : Hid (decide (0 ≤ x) = l.any p) := by rw [HX.out]; exact firstAt_any p l 0
  have HI := hid (indexFunc_msg h F cap p hcf hcl)
  rw [← HX.out] at HI
  obtain ⟨hlen, a, c, rfl, -, -⟩ := h.open
  clear h hcl
  go_enter Tryz.func79, Tryz.ntmps79
  go_wp2_with fail
  refine HI.out.mono ?_
  rintro e w1 ⟨rfl, hb1⟩
  go_wp2_with fail
  go_ret
  exact ⟨ret1 (by rw [← HA.out]; first | rfl | (congr 1)), hb1⟩
end Go.Proofs.YtbdeclkccchnoaaGreat
namespace Go.Proofs.YtbdeclkccchnoaaGreat
open Go.RowKit
theorem under_str : Tryz.prog.underlying 9 = some .string := Tryz.underlying9
theorem under_u8 : Tryz.prog.underlying 5 = some (.int .u8) := Tryz.underlying5
theorem str_bytes (w : World) (t : List UInt8) (ht : t.length ≤ 140737488355328) :
    ∃ g c w', (convert 9 32 (.string ⟨t.toArray⟩)).run Tryz.prog w = .ok (.slice (some ⟨g, 0, none⟩) t.length c) w' ∧ Below w.heap.size w w' ∧ Bytes w' (.slice (some ⟨g, 0, none⟩) t.length c) t := by
  have h := run_bytes_of_string (P := Tryz.prog) w 9 32 5 ⟨t.toArray⟩ under_str under_bytes under_u8
  have hsz : (⟨t.toArray⟩ : ByteArray).size = t.length := by simp [ByteArray.size]
  rw [hsz] at h
  refine ⟨_, _, _, h, ((Below.refl w.heap.size w).drew).alloc (Nat.le_refl _) _, by simp, ht, _, _, rfl, grownCap_ge _ _ _ _, ?_, by simp, ?_⟩
  · have := grownCap_le_maxLen w t.length 0 5 (by unfold maxLen; omega)
    unfold maxLen at this; omega
  · intro j u hu
    refine ⟨_, _, rfl, ?_⟩
    rw [Nat.zero_add, List.getElem?_map] at *
    have hj : j < t.length := by
      rcases Nat.lt_or_ge j t.length with h | h
      · exact h
      · rw [List.getElem?_eq_none h] at hu; simp at hu
    have hb := bytesRow_at ⟨t.toArray⟩ (grownCap w t.length 0 5) j (by simpa using hj)
    rw [List.getElem?_eq_getElem hj] at hu
    simp only [Option.map_some, Option.some.injEq] at hu
    subst hu
    rw [show w.heap.size = w.drew.heap.size from rfl, cell_of_row _ _ _ _ _ _ (heap_alloc_new w.drew _)]
    rw [hb]
    simp [byteV]
theorem RowsOwn.step2 {α : Type} {P : World → List Value → α → Prop} {T : TypeId} {k n0 base i : Nat} {wr w1 : World} {oa : Option Addr} {oc : Nat} {l : List α} (h : RowsOwn P T k n0 base wr (.slice oa i oc) l) (hb : Below wr.heap.size wr w1) (hk : 0 < k) (hn0 : n0 ≤ base) (hbs : base ≤ wr.heap.size) (hil : l.length = i)
    {G : Program} (t : TypeId) (z : Value) (bytes : Nat) (ht : G.underlying t = some (.slice T)) (hinfo : (G.info? T).map (fun i => (i.zero, i.size, i.bytes)) = some (some z, k, bytes)) (hzs : z.cells.size = k)
    (cells : Array Value) (hr : cells.size = k) (h1 : ∀ u ∈ cells.toList, u.oneCell' = true) (x : α) (hP : Apart n0 wr.heap.size w1 fun w' => P w' cells.toList x) (hlen : i ≤ 1099511627776) (hby : bytes ≤ 120) :
    ∃ a' c' w5, (Builtin.append_ #[t, t] t #[.slice oa i oc, .slice (some ⟨w1.heap.size, 0, none⟩) 1 1]).run G (w1.alloc (.cells cells T)) = .ok (.slice a' (i + 1) c') w5 ∧ RowsOwn P T k n0 base w5 (.slice a' (i + 1) c') (l ++ [x]) ∧
      Below base wr (w1.alloc (.cells cells T)) ∧ Below base wr w5 ∧ ∀ b, wr.heap.size ≤ b → b < w1.heap.size → w5.heap[b]? = w1.heap[b]? := by
  have hs := hb.size
  have hB1 : Below base wr (w1.alloc (.cells cells T)) := (hb.mono hbs).alloc (by omega) _
  obtain ⟨v', w', hrun, hO, hg, -⟩ := (h.below hb).append hk hn0 t z bytes ht hinfo hzs cells hr h1 x wr.heap.size (fun b e => (h.own b e).2) hbs hP (by omega) hby (by omega)
  obtain ⟨a', c', rfl⟩ := hO.form
  rw [List.length_append, List.length_singleton, hil] at *
  refine ⟨a', c', w', hrun, hO, hB1, hB1.grown hg (by have := hB1.size; omega) fun q e => (h.own q e).1, fun b h1 h2 => ?_⟩
  refine (hg.block b (by simp; omega) (fun e => ?_)).trans (Below.heap_alloc w1 _ b h2)
  have := (h.own b e.symm).2
  omega
def recP (_ : World) (r : List Value) (x : Rec) : Prop := r = recL x
def oneRec (l : List UInt8) : Prop := (rnext l 0).2 = 0 ∧ (rnext l 0).1.to = l.length
instance (l : List UInt8) : Decidable (oneRec l) := by unfold oneRec; infer_instance
theorem rnext_ok {l : List UInt8} {i : Nat} (h : (rnext l i).2 = 0) : i < l.length ∧ i < (rnext l i).1.to ∧ (rnext l i).1.to ≤ l.length := by
  rcases rnext_cases l i with ⟨h1, h2⟩ | ⟨h1, c, -, h2, h3⟩ | ⟨h1, k, x, n, -, h2, h3, h4, h5, h6, h7, ⟨a, m, c, -, g1, g2, g3, g4⟩ | ⟨a, m, -, g1, g2, g3, g4, g5⟩ | ⟨a, m, -, g1, g2, g3, g4⟩⟩
  · rw [h2] at h; simp at h
  · rw [h3] at h; simp at h; omega
  · rw [g4] at h; simp at h; omega
  · rw [g5] at h; simp at h
  · rw [g4]; exact ⟨h1, by simp; omega, by simp; omega⟩
theorem rnext_code (l : List UInt8) (i : Nat) : (rnext l i).2 < 256 := by
  rcases rnext_cases l i with ⟨h1, h2⟩ | ⟨h1, c, -, h2, h3⟩ | ⟨h1, k, x, n, -, h2, h3, h4, h5, h6, h7, ⟨a, m, c, -, g1, g2, g3, g4⟩ | ⟨a, m, -, g1, g2, g3, g4, g5⟩ | ⟨a, m, -, g1, g2, g3, g4⟩⟩
  · rw [h2]; decide
  · rw [h3]; show c < 256; omega
  · rw [g4]; show c < 256; omega
  · rw [g5]; decide
  · rw [g4]; show 0 < 256; decide
theorem Bytes.below_from {w wr : World} {v : Value} {l : List UInt8} (h : Bytes w v l) (hb : Below w.heap.size w wr) : Bytes wr v l := h.below hb
theorem info_rec : (Tryz.prog.info? 91).map (fun i => (i.zero, i.size, i.bytes)) = some (some (.agg #[.int .i64 0, .int .i64 0, .int .i64 0, .int .i64 0, .int .i64 0]), 5, 40) := by kernel_rfl
def SplitPostS (w : World) (l : List UInt8) (e : Ending) (w' : World) : Prop :=
  ∃ (a : Option Addr) (n c : Nat) (at' cd : Nat), e = .returned (.tuple #[.slice a n c, .int .i64 at', .int .u8 cd]) ∧ cd < 256 ∧ Below w.heap.size w w' ∧
    ((oneRec l ∧ cd = 0 ∧ n = 1 ∧ ∃ b o, a = some ⟨b, o, none⟩ ∧ w'.cell? ⟨b, o, none⟩ = some (.int .i64 (rnext l 0).1.number)) ∨ (¬ oneRec l ∧ (cd ≠ 0 ∨ n ≠ 1)))
set_option maxRecDepth 100000 in
set_option maxHeartbeats 4000000 in
theorem record_Split {w : World} {v : Value} {l : List UInt8} (h : Bytes w v l) (hl : l.length ≤ 1099511627776) :
    Calls Tryz.prog 84 #[v] w fun e w' => SplitPostS w l e w' := by
  have HV := hid h
  have HLL := hid hl
  obtain ⟨hlen, a, cap, rfl, -, -, -, -⟩ := h.open
  obtain ⟨n, HN⟩ : ∃ n, Hid (n = l.length) := ⟨_, rfl⟩
  rw [← HN.out] at HV hlen HLL hl ⊢
  clear h
  go_enter Tryz.func84, Tryz.ntmps84
  go_wp2_with fail
  go_loopw [5, 6, 7, 8] (fun v5 v6 _ _ wr => ∃ (pre : List Rec) (oa : Option Addr) (m oc at' : Nat), v5 = .slice oa m oc ∧ v6 = .int .i64 at' ∧ at' ≤ n ∧ m ≤ at' ∧ Hid (m = pre.length) ∧
      Hid ((pre = [] ∧ at' = 0) ∨ (pre = [(rnext l 0).1] ∧ (rnext l 0).2 = 0 ∧ at' = (rnext l 0).1.to) ∨ (2 ≤ pre.length ∧ ¬ oneRec l)) ∧
      Hid (Below w.heap.size w wr ∧ RowsOwn recP 91 5 0 w.heap.size wr (.slice oa m oc) pre)) (fun _ v6 _ _ _ => n - (intOf v6).toNat)
  case atStart => exact ⟨[], none, 0, 0, 0, rfl, rfl, by omega, by omega, rfl, .inl ⟨rfl, rfl⟩, Below.refl _ _, RowsOwn.nil _ _ _ _ _ _⟩
  case round =>
    obtain ⟨pre, oa, m, oc, at', rfl, rfl, hat, hmat, HM, HS, HI⟩ := hrel
    by_cases hlt : at' < n
    · obtain ⟨r, c, HR⟩ : ∃ r c, Hid (rnext l at' = (r, c)) := ⟨_, _, rfl⟩
      have hc256 : c < 256 := by
        have := rnext_code l at'
        rw [HR.out] at this
        exact this
      have HNX := hid (record_Next (HV.out.below_from HI.out.1) at' (by omega))
      rw [HR.out] at HNX
      by_cases hc : c = 0
      · subst hc
        have hok : at' < r.to ∧ r.to ≤ n := by
          have := rnext_ok (l := l) (i := at') (by rw [HR.out])
          rw [HR.out, ← HN.out] at this
          exact this.2
        have HST : Hid ((pre ++ [r] = [(rnext l 0).1] ∧ (rnext l 0).2 = 0 ∧ r.to = (rnext l 0).1.to) ∨ (2 ≤ (pre ++ [r]).length ∧ ¬ oneRec l)) := by
          rcases HS.out with ⟨rfl, rfl⟩ | ⟨rfl, h1, rfl⟩ | ⟨h1, h2⟩
          · exact .inl ⟨by rw [HR.out]; rfl, by rw [HR.out], by rw [HR.out]⟩
          · exact .inr ⟨by simp, fun h => by have := h.2; have := HN.out; omega⟩
          · exact .inr ⟨by simp; omega, h2⟩
        go_wp2_with fail
        refine HNX.out.mono ?_
        rintro e w1 ⟨rfl, hb1⟩
        obtain ⟨rn, rw', rs, ra, rt⟩ := r
        simp only [Rec.val]
        have hb2 := hb1.alloc hb1.size (.cells #[.int .i64 rn, .int .i64 rw', .int .i64 rs, .int .i64 ra, .int .i64 rt] 91)
        have hk2 := Blk.new w1 [.int .i64 rn, .int .i64 rw', .int .i64 rs, .int .i64 ra, .int .i64 rt] 91
        have hX : wr.heap.size ≤ w1.heap.size := hb1.size
        go_wp2_with fail
        generalize hW2 : w1.alloc (.cells #[.int .i64 rn, .int .i64 rw', .int .i64 rs, .int .i64 ra, .int .i64 rt] 91) = W2 at *
        clear hW2
        generalize w1.heap.size = X at *
        clear hb1
        obtain ⟨a5, c5, w5, hr5, hO5, hB4, hB5, hk5⟩ := RowsOwn.step2 HI.out.2 hb2.drew (by decide) (by omega) HI.out.1.size HM.out.symm 152 _ 40 Tryz.underlying152 info_rec rfl #[.int .i64 rn, .int .i64 rw', .int .i64 rs, .int .i64 ra, .int .i64 rt] rfl (by intro u hu; simp at hu; rcases hu with rfl | rfl | rfl | rfl | rfl <;> rfl) ⟨rn, rw', rs, ra, rt⟩ (fun _ _ => rfl) (by have := HLL.out; omega) (by decide)
        have hkd : Blk W2.drew X [.int .i64 rn, .int .i64 rw', .int .i64 rs, .int .i64 ra, .int .i64 rt] 91 := hk2
        have hke : Blk (W2.alloc (.cells #[.int .i64 rn, .int .i64 rw', .int .i64 rs, .int .i64 ra, .int .i64 rt] 91)).drew X [.int .i64 rn, .int .i64 rw', .int .i64 rs, .int .i64 ra, .int .i64 rt] 91 := hkd.alloc (.cells #[.int .i64 rn, .int .i64 rw', .int .i64 rs, .int .i64 ra, .int .i64 rt] 91)
        have hkf : Blk w5 X [.int .i64 rn, .int .i64 rw', .int .i64 rs, .int .i64 ra, .int .i64 rt] 91 := (hk5 X hX hk2.lt).trans hkd
        have k0 : W2.drew.cell? ⟨X, 0, none⟩ = some (.int .i64 rn) ∧ W2.drew.cell? ⟨X, 1, none⟩ = some (.int .i64 rw') ∧ W2.drew.cell? ⟨X, 2, none⟩ = some (.int .i64 rs) ∧ W2.drew.cell? ⟨X, 3, none⟩ = some (.int .i64 ra) ∧ W2.drew.cell? ⟨X, 4, none⟩ = some (.int .i64 rt) := ⟨hkd.cell 0 _ rfl, hkd.cell 1 _ rfl, hkd.cell 2 _ rfl, hkd.cell 3 _ rfl, hkd.cell 4 _ rfl⟩
        have k1 := And.intro (hke.cell 0 _ rfl) (And.intro (hke.cell 1 _ rfl) (And.intro (hke.cell 2 _ rfl) (And.intro (hke.cell 3 _ rfl) (hke.cell 4 _ rfl))))
        have k3 := And.intro (hkf.cell 0 _ rfl) (And.intro (hkf.cell 1 _ rfl) (And.intro (hkf.cell 2 _ rfl) (And.intro (hkf.cell 3 _ rfl) (hkf.cell 4 _ rfl))))
        have hXl := hk2.lt
        have HR5 : Hid ((Builtin.append_ #[152, 152] 152 #[.slice oa m oc, .slice (some ⟨W2.heap.size, 0, none⟩) 1 1]).run Tryz.prog (W2.alloc (.cells #[.int .i64 rn, .int .i64 rw', .int .i64 rs, .int .i64 ra, .int .i64 rt] 91)).drew = .ok (.slice a5 (m + 1) c5) w5) := hr5
        have HO5 := hid hO5
        have HB5 := hid hB5
        clear hkd hke hkf hr5 hO5 hB4 hB5 hk5 hb2 hk2
        go_region_held3 (fun w' => w'.cell? ⟨X, 0, none⟩ = some (.int .i64 rn) ∧ w'.cell? ⟨X, 1, none⟩ = some (.int .i64 rw') ∧ w'.cell? ⟨X, 2, none⟩ = some (.int .i64 rs) ∧ w'.cell? ⟨X, 3, none⟩ = some (.int .i64 ra) ∧ w'.cell? ⟨X, 4, none⟩ = some (.int .i64 rt)) (first | (with_reducible exact k0) | (with_reducible exact k1) | (with_reducible exact k3) | go_keep) (first | (refine step_append_eq rfl (.tmp 23) (.tmp 25) _ rfl _ _ rfl rfl HR5.out ?_))
        go_wp2_with fail
        go_roundw
        case rel => exact ⟨pre ++ [⟨rn, rw', rs, ra, rt⟩], _, _, _, rt, rfl, rfl, hok.2, by have := hok.1; omega, by rw [Hid, List.length_append, ← HM.out]; rfl, .inr HST.out, HB5.out |> fun h => HI.out.1.trans (h.mono (by omega)), HO5.out⟩
        case measure => simp [intOf]; have := hok.1; omega
      · have hno : ¬ oneRec l := by
          rcases HS.out with ⟨rfl, rfl⟩ | ⟨rfl, h1, rfl⟩ | ⟨h1, h2⟩
          · exact fun h => hc (by have := h.1; rw [HR.out] at this; exact this)
          · exact fun h => by have := h.2; have := HN.out; omega
          · exact h2
        have HNO := hid hno
        clear hno
        go_wp2_with fail
        refine HNX.out.mono ?_
        rintro e w1 ⟨rfl, hb1⟩
        obtain ⟨rn, rw', rs, ra, rt⟩ := r
        simp only [Rec.val]
        go_wp2_with fail
        go_ret3
        exact ⟨none, 0, 0, at', c, rfl, hc256, (HI.out.1.trans (hb1.mono HI.out.1.size)).alloc (by have := HI.out.1.size; have := hb1.size; omega) _, .inr ⟨HNO.out, .inl hc⟩⟩
    · obtain rfl : at' = n := by omega
      go_wp2_with fail
      go_ret3
      refine ⟨oa, m, oc, 0, 0, rfl, by decide, HI.out.1, ?_⟩
      rcases HS.out with ⟨rfl, h1⟩ | ⟨rfl, h1, h2⟩ | ⟨h1, h2⟩
      · refine .inr ⟨fun h => ?_, .inr (by rw [HM.out]; simp)⟩
        have := (rnext_ok h.1).1
        have := HN.out
        omega
      · refine .inl ⟨⟨h1, by rw [← h2]; exact HN.out⟩, rfl, by rw [HM.out]; rfl, ?_⟩
        have hR := HI.out.2.at (by simp) (w' := wr) (fun _ _ _ => rfl)
        obtain ⟨-, a', cap', he, -, hat'⟩ := hR.open (by decide)
        cases he
        obtain ⟨b, o, r, ha, -, hc, hP⟩ := hat' 0 _ rfl
        refine ⟨b, o, ha, ?_⟩
        have := hc 0 _ (by rw [hP]; rfl)
        simpa using this
      · exact .inr ⟨h2, .inr (by rw [HM.out]; omega)⟩
theorem strangeB_eq (fs : List Fld) (t : List UInt8) : strangeB fs t = (decide (oneRec t) && !decide (0 ≤ fieldAt fs (rnext t 0).1.number)) := by
  unfold strangeB oneRec
  congr 1
  by_cases h : 0 ≤ fieldAt fs (rnext t 0).1.number
  · rw [decide_eq_false (by omega), decide_eq_true h]; rfl
  · rw [decide_eq_true (by omega), decide_eq_false h]; rfl
theorem size_rec (w : World) : (sizeOf 91).run Tryz.prog w = .ok 5 w := by kernel_rfl
theorem bytes_form {w : World} {v : Value} {l : List UInt8} (h : Bytes w v l) : ∃ a c, v = .slice a l.length c := by
  obtain ⟨-, a, c, rfl, -⟩ := h.open
  exact ⟨a, c, rfl⟩
set_option maxRecDepth 100000 in
set_option maxHeartbeats 4000000 in
theorem tree_stranger {w : World} {v : Value} {fs : List Fld} (h : FieldsAt w v fs) (nm : ByteArray) (t : List UInt8) (ht : t.length ≤ 1099511627776) :
    Calls Tryz.prog 50 #[.agg #[.string nm, v], strV t] w fun e w' => e = .returned (.bool (strangeB fs t)) ∧ Below w.heap.size w w' := by
  rw [strangeB_eq]
  obtain ⟨rn, HRN⟩ : ∃ n, Hid (n = (rnext t 0).1.number) := ⟨_, rfl⟩
  rw [← HRN.out]
  have hB1 : Below w.heap.size w (w.alloc (.cells #[.string nm, v] 47)) := (Below.refl _ _).alloc (Nat.le_refl _) _
  have hK1 := Blk.new w [.string nm, v] 47
  obtain ⟨g, c, w2, hcv, hb2, hby⟩ := str_bytes (w.alloc (.cells #[.string nm, v] 47)) t (by omega)
  have HB2 := hid (hB1.trans (hb2.mono hB1.size))
  have HK2 := hid (hK1.below hb2)
  have HBY := hid hby
  have HCV := hid hcv
  have HT := hid ht
  have H := hid h
  obtain ⟨hlen, a, c', rfl, -⟩ := h.open
  have hST : strV t = .string ⟨t.toArray⟩ := rfl
  rw [hST]
  clear hST h hB1 hK1 hb2 hby hcv ht
  obtain ⟨tn, HTN⟩ : ∃ n, Hid (n = t.length) := ⟨_, rfl⟩
  rw [← HTN.out] at HCV HBY
  have hcv := HCV.out
  go_enter Tryz.func50, Tryz.ntmps50
  go_wp2_with fail
  refine (record_Split HBY.out HT.out).mono ?_
  rintro e w3 ⟨sa, sn, sc, at', cd, rfl, hcd, hb3, hcase⟩
  have HK3 := hid (HK2.out.below hb3)
  have HB3 := hid (HB2.out.trans (hb3.mono HB2.out.size))
  clear hb3 hcv HCV HBY
  have hzl : w.heap.size < w3.heap.size := HK3.out.lt
  have z0 := HK3.out.cell 0 _ rfl
  have z1 := HK3.out.cell 1 _ rfl
  rcases hcase with ⟨ho, rfl, rfl, b, o, rfl, hc⟩ | ⟨ho, hcase⟩
  · have HO : Hid (decide (oneRec t) = true) := decide_eq_true ho
    have hbl : b < w3.heap.size := World.block_lt_of_cell? w3 _ hc
    have hix : ∀ W : World, (Instr.indexAt 152 (.slice (some ⟨b, o, none⟩) 1 sc) (.int .i64 0)).run Tryz.prog W = .ok (.pointer (some ⟨b, o, none⟩)) W := fun W => by
      have := index_run Tryz.underlying152 size_rec (a := some ⟨b, o, none⟩) rfl 0 (len := 1) (by decide) (cap := sc) W
      simpa using this
    rw [← HRN.out] at hc
    clear ho
    have k0 : w3.drew.cell? ⟨w.heap.size, 0, none⟩ = some (.string nm) ∧ w3.drew.cell? ⟨w.heap.size, 1, none⟩ = some (.slice a fs.length c') ∧ w3.drew.cell? ⟨b, o, none⟩ = some (.int .i64 rn) := ⟨z0, z1, hc⟩
    obtain ⟨x1, x2, HX2, HBN⟩ : ∃ (x1 : Int) (x2 : Bool), Hid (x2 = decide (0 ≤ fieldAt fs rn)) ∧ Hid (Calls Tryz.prog 28 #[.agg #[.string nm, .slice a fs.length c'], .int .i64 rn] w3.drew fun e w' => e = .returned (.tuple #[.int .i64 x1, .bool x2]) ∧ Below w3.drew.heap.size w3.drew w') := ⟨_, _, rfl, schema_ByNumber (H.out.below HB3.out.drew) nm rn⟩
    go_wp2_with fail
    go_region_held3 (fun w' => w'.cell? ⟨w.heap.size, 0, none⟩ = some (.string nm) ∧ w'.cell? ⟨w.heap.size, 1, none⟩ = some (.slice a fs.length c') ∧ w'.cell? ⟨b, o, none⟩ = some (.int .i64 rn)) (first | (with_reducible exact k0) | (with_reducible exact k1) | go_keep) (first | (go_at_call 28; (with_reducible refine (HBN.out).mono ?_); rintro e w4 ⟨rfl, hb4⟩; have k1 : w4.cell? ⟨w.heap.size, 0, none⟩ = some (.string nm) ∧ w4.cell? ⟨w.heap.size, 1, none⟩ = some (.slice a fs.length c') ∧ w4.cell? ⟨b, o, none⟩ = some (.int .i64 rn) := ⟨below_keeps hb4 _ _ k0.1, below_keeps hb4 _ _ k0.2.1, below_keeps hb4 _ _ k0.2.2⟩))
    go_wp2_with fail
    go_ret
    exact ⟨by rw [HO.out, ← HX2.out]; rfl, HB3.out.trans (((Below.refl w3.heap.size w3).drew.trans hb4).mono HB3.out.size)⟩
  · have HO : Hid (decide (oneRec t) = false) := decide_eq_false ho
    clear ho
    rcases hcase with hcase | hcase
    · go_wp2_with fail
      go_ret
      exact ⟨by rw [HO.out]; rfl, HB3.out⟩
    · by_cases h0 : cd = 0
      · subst h0
        go_wp2_with fail
        go_ret
        exact ⟨by rw [HO.out]; rfl, HB3.out⟩
      · go_wp2_with fail
        go_ret
        exact ⟨by rw [HO.out]; rfl, HB3.out⟩
end Go.Proofs.YtbdeclkccchnoaaGreat
