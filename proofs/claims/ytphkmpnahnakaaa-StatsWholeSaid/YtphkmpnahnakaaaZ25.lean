/- darninglaw28.alive returns true. No condition. append(append([]byte{}, x...), y...), and the same of rows. No condition but lengths. Plain laws: sums of rows, row by row; a check of bytes behind bytes. No condition. Plain laws: the codes of a check are below 256 (vcheck_code). No condition. -/
import Derived.Test.YtphkmpnahnakaaaZ11
import Derived.Test.YtphkmpnahnakaaaZ13
import Derived.Test.YtphkmpnahnakaaaZ24
namespace Go.Proofs.Ytphkmpnahnakaaa
open Go.RowKit
def s28 : List Mes := [⟨⟨#[109]⟩, [⟨⟨#[97]⟩, 1, 3, false, false, 0⟩]⟩]
def p28 : ByteArray := ⟨#[97]⟩
theorem size_srow (w : World) : (sizeOf 32).run Try.prog w = .ok 4 w := by kernel_rfl
theorem keys_one {t : List SE} {ks : List ByteArray} {p : ByteArray} (h : KeysOf t ks) (h1 : ∀ e ∈ t, e.path = p) (h2 : ∃ e, e ∈ t) : ks = [p] := by
  have hp : p ∈ ks := (h.mem p).2 (by obtain ⟨e, he⟩ := h2; exact ⟨e, he, h1 e he⟩)
  have hall : ∀ q ∈ ks, q = p := fun q hq => by
    obtain ⟨e, he, h3⟩ := (h.mem q).1 hq
    rw [← h3, h1 e he]
  match ks, h.nd, hp, hall with
  | [q], _, _, hall => rw [hall q (by simp)]
  | q :: q' :: r, hn, _, hall =>
    rw [List.nodup_cons] at hn
    exact absurd (by rw [hall q (by simp), hall q' (by simp)]; simp) hn.1
/-- the rows of a list of the call's own -/
theorem rowsOwn_at {w : World} {v : Value} {base : Nat} {l : List SR} (h : RowsOwn srP 32 4 0 base w v l) (hl : l.length ≤ 140737488355328) : ∃ a cap, v = .slice a l.length cap ∧ ∀ i x, l[i]? = some x → ∃ b o, a = some ⟨b, o, none⟩ ∧
    w.cell? ⟨b, o + i * 4, none⟩ = some (.string x.path) ∧ w.cell? ⟨b, o + i * 4 + 1, none⟩ = some (.int .i64 (x.recs : Int)) ∧ w.cell? ⟨b, o + i * 4 + 2, none⟩ = some (.int .i64 (x.bytes : Int)) ∧ w.cell? ⟨b, o + i * 4 + 3, none⟩ = some (.int .i64 (x.vals : Int)) := by
  obtain ⟨-, a, cap, hv, -, hat⟩ := RowsAt.open (by decide) (h.at hl (w' := w) fun _ _ _ => rfl)
  refine ⟨a, cap, hv, fun i x hi => ?_⟩
  obtain ⟨b, o, r, ha, -, hc, hr⟩ := hat i x hi
  unfold srP at hr
  subst hr
  exact ⟨b, o, ha, hc 0 _ rfl, hc 1 _ rfl, hc 2 _ rfl, hc 3 _ rfl⟩
set_option maxRecDepth 100000 in
set_option maxHeartbeats 8000000 in
theorem law28_alive (w : World) : Calls Try.prog 6 #[] w fun e w' => e = .returned (.bool true) ∧ Below w.heap.size w w' := by
  have HC : Hid ((vcheck s28 0 [8, 1, 8, 2] 0).2 = 0 ∧ ((evsub s28 1 0 [8, 1, 8, 2] emptyS).map fun e => (e.path.data.toList, e.bytes, e.vals)) = [([97], 2, 1), ([97], 2, 1)]) := ⟨by decide +kernel, by decide +kernel⟩
  have HT : Hid (evsub s28 1 0 [8, 1, 8, 2] emptyS = [⟨p28, 2, 1⟩, ⟨p28, 2, 1⟩]) := by
    have h := HC.out.2
    obtain ⟨⟨q, b1, v1⟩, l1, e1, h1, h2⟩ := List.map_eq_cons_iff.1 h
    obtain ⟨⟨q', b2, v2⟩, l2, e2, h3, h4⟩ := List.map_eq_cons_iff.1 h2
    rw [List.map_eq_nil_iff] at h4
    simp only [Prod.mk.injEq] at h1 h3
    obtain ⟨g1, rfl, rfl⟩ := h1
    obtain ⟨g2, rfl, rfl⟩ := h3
    have e3 : q = p28 := by cases q; unfold p28; congr 1; exact Array.toList_inj.1 g1
    have e4 : q' = p28 := by cases q'; unfold p28; congr 1; exact Array.toList_inj.1 g2
    rw [Hid, e1, e2, h4, e3, e4]
  obtain ⟨B, HB⟩ : ∃ B, Hid (B = w.heap.size) := ⟨_, rfl⟩
  obtain ⟨W1, HW1⟩ : ∃ W1, Hid (W1 = (w.alloc (.cells #[.string ⟨#[97]⟩, .int .i64 1, .int .i64 3, .bool false, .bool false, .int .i64 0] 44)).alloc (.cells #[.string ⟨#[109]⟩, .slice (some ⟨B, 0, none⟩) 1 1] 47)) := ⟨_, rfl⟩
  obtain ⟨W2, HW2⟩ : ∃ W2, Hid (W2 = W1.alloc (.cells #[.int .u8 8, .int .u8 1, .int .u8 8, .int .u8 2] 5)) := ⟨_, rfl⟩
  have hb1 : Below w.heap.size w W1 := by rw [HW1.out]; exact ((Below.refl _ _).alloc (Nat.le_refl _) _).alloc (by simp) _
  have hz1 : W1.heap.size = B + 1 + 1 := by rw [HW1.out, HB.out]; simp
  have hb2 : Below W1.heap.size W1 W2 := by rw [HW2.out]; exact (Below.refl _ _).alloc (Nat.le_refl _) _
  have hk0 : Blk W1 B [.string ⟨#[97]⟩, .int .i64 1, .int .i64 3, .bool false, .bool false, .int .i64 0] 44 := by
    rw [HW1.out, HB.out]
    exact (Blk.new w [.string ⟨#[97]⟩, .int .i64 1, .int .i64 3, .bool false, .bool false, .int .i64 0] _).alloc _
  have hk1 : Blk W1 (B + 1) [.string ⟨#[109]⟩, .slice (some ⟨B, 0, none⟩) 1 1] 47 := by
    rw [HW1.out]
    exact Blk.new' _ [.string ⟨#[109]⟩, .slice (some ⟨B, 0, none⟩) 1 1] _ _ (by rw [World.size_alloc, HB.out])
  have hS : SchemaAt W1 (.slice (some ⟨B + 1, 0, none⟩) 1 1) s28 := schema_one hk1 (by decide) (fields_blk (fs := [⟨⟨#[97]⟩, 1, 3, false, false, 0⟩]) hk0 1 rfl (by omega) (by simp; exact ⟨by decide, by decide, by decide, by decide⟩))
  have hby : Bytes W2 (.slice (some ⟨B + 1 + 1, 0, none⟩) 4 4) [8, 1, 8, 2] := by
    rw [← hz1, HW2.out]
    exact bytes_new W1 5 #[.int .u8 8, .int .u8 1, .int .u8 8, .int .u8 2] [8, 1, 8, 2] rfl (by simp)
  have HM := hid (stats_Of (hS.below hb2) hby (by simp) 0 0)
  unfold OfPost at HM
  rw [HC.out.1] at HM
  have HB2 := hid (hb1.trans (hb2.mono hb1.size))
  obtain ⟨Q, HQ⟩ : ∃ Q : Ending → World → Prop, Hid (Q = fun e w' => e = .returned (.bool true) ∧ Below w.heap.size w w') := ⟨_, rfl⟩
  rw [← HQ.out]
  have HZ1 := hid hz1
  clear hb1 hb2 hk0 hk1 hS hby hz1
  go_enter Try.func6, Try.ntmps6
  go_upto_region 2 with fail
  rw [← HB.out, ← HW1.out]
  have hz1 := HZ1.out
  go_wp2_with fail
  rw [← HW2.out]
  refine HM.out.mono ?_
  rintro e w3 ⟨hb3, -, h1⟩
  obtain ⟨v, ss, base, rfl, hK, -, hO⟩ := h1 (by first | rfl | trivial)
  have hT : evsub s28 ((0 : Int).toNat + 1) 0 [8, 1, 8, 2] emptyS = [⟨p28, 2, 1⟩, ⟨p28, 2, 1⟩] := HT.out
  rw [hT] at hK hO
  have hks := keys_one hK (p := p28) (by intro e he; simp at he; rw [he]) ⟨⟨p28, 2, 1⟩, by simp⟩
  rw [hks] at hO
  have hrows : rowsS [⟨p28, 2, 1⟩, ⟨p28, 2, 1⟩] [p28] ([8, 1, 8, 2] : List UInt8).length = [⟨emptyS, 2, 4, 4⟩, ⟨p28, 2, 4, 2⟩] := by
    simp [rowsS, rowS, cntE, bytE, valE]
  rw [hrows] at hO
  obtain ⟨a, cap, rfl, hat⟩ := rowsOwn_at hO (by simp)
  obtain ⟨b, o, rfl, c0, c1, c2, c3⟩ := hat 1 _ rfl
  simp only [List.length_cons, List.length_nil, Nat.zero_add, Nat.reduceAdd] at *
  have hix := index_run Try.underlying27 size_srow (rfl : some (⟨b, o, none⟩ : Addr) = some ⟨b, o, none⟩) 1 (by decide : 1 < 2) (cap := cap)
  have hl := World.block_lt_of_cell? w3 _ c0
  have heq := row_eql p28 2 4 2
  have HE : Hid (Q (.returned (.bool true)) w3) := by rw [HQ.out]; exact ⟨rfl, HB2.out.trans (hb3.mono HB2.out.size)⟩
  unfold p28 at c0 heq
  clear hb3 hK hO hT hks hrows hat HM HC HT h1
  go_wp2_with fail
  exact HE.out
end Go.Proofs.Ytphkmpnahnakaaa
namespace Go.Proofs.Ytphkmpnahnakaaa
open Go.RowKit
theorem bytes_cat {w : World} {p q : Value} {l m : List UInt8} (hp : Bytes w p l) (hq : Bytes w q m) (hlen : l.length + m.length ≤ 1099511627776) :
    ∃ v1 w1 v2 w2, (Builtin.append_ #[24, 24] 24 #[.slice (some ⟨w.heap.size, 0, none⟩) 0 0, p]).run Try.prog (w.alloc (.cells #[] 5)) = .ok v1 w1 ∧
      (Builtin.append_ #[24, 24] 24 #[v1, q]).run Try.prog w1 = .ok v2 w2 ∧ Bytes w2 v2 (l ++ m) ∧ Below w.heap.size w w2 ∧ (∃ a n c, v1 = .slice a n c) ∧ (∃ a c, v2 = .slice a (l ++ m).length c) := by
  have hb0 : Below w.heap.size w (w.alloc (.cells #[] 5)) := (Below.refl _ _).alloc (Nat.le_refl _) _
  have h0 : Own (w.alloc (.cells #[] 5)) w.heap.size (.slice (some ⟨w.heap.size, 0, none⟩) 0 0) [] := World.ownsRow_made (base := w.heap.size) (e := 5) (size := 1) w #[] 0 (Nat.le_refl _) (by unfold maxLen; omega) rfl
  obtain ⟨v1, w1, e1, o1, g1, -⟩ := own_append h0 (hp.below hb0) (by simp; omega) hb0.size
  have hb1 : Below w.heap.size w w1 := hb0.grown g1 hb0.size (by intro q e; simp [Value.ownBlock] at e; omega)
  obtain ⟨v2, w2, e2, o2, g2, -⟩ := own_append o1 (hq.below hb1) (by simpa using Nat.le_trans hlen (by omega)) hb1.size
  have hb2 : Below w.heap.size w w2 := hb1.grown g2 hb1.size (fun q e => (World.ownsRow.lt o1 q e).1)
  rw [List.nil_append] at o2 o1
  have hB := o2.bytes (by rw [List.length_append]; omega)
  obtain ⟨-, a2, c2, hv2, -⟩ := hB.open
  refine ⟨v1, w1, v2, w2, e1, e2, hB, hb2, ?_, a2, c2, hv2⟩
  rcases o1.2 with ⟨h, -⟩ | ⟨g, cap, cur, h, -⟩
  · exact ⟨_, _, _, h⟩
  · exact ⟨_, _, _, h⟩
def SegR (w : World) (v : Value) (l : List SR) : Prop := Seg w v 4 l.length (l.flatMap srC)
theorem flat_rows : ∀ {rows : List (List Value)} {l : List SR}, rows.length = l.length → (∀ (i : Nat) (r : List Value) (x : SR), rows[i]? = some r → l[i]? = some x → r = srC x) → rows.flatten = l.flatMap srC
  | [], [], _, _ => rfl
  | r :: rs, x :: xs, h, hr => by
    rw [List.flatten_cons, List.flatMap_cons, hr 0 r x rfl rfl, flat_rows (by simpa using h) fun i r x h1 h2 => hr (i + 1) r x (by simpa using h1) (by simpa using h2)]
theorem rowsOwn_seg {w w' : World} {v : Value} {base : Nat} {l : List SR} (h : RowsOwn srP 32 4 0 base w v l) (hl : l.length ≤ 140737488355328) (hb : Below w.heap.size w w') : SegR w' v l := by
  obtain ⟨rows, h1, -, h3, h4⟩ := h.at hl (w' := w') fun b hlt _ => hb.block b hlt
  unfold SegR
  rw [← flat_rows h1 h4]
  exact h3
theorem srC_one : ∀ (l : List SR), ∀ u ∈ l.flatMap srC, u.oneCell' = true := fun l u hu => by
  obtain ⟨x, -, hx⟩ := List.mem_flatMap.1 hu
  simp [srC] at hx
  rcases hx with rfl | rfl | rfl | rfl <;> rfl
theorem srC_get : ∀ (l : List SR) (i j : Nat) (x : SR), l[i]? = some x → j < 4 → (l.flatMap srC)[i * 4 + j]? = (srC x)[j]?
  | [], _, _, _, h, _ => by simp at h
  | y :: r, 0, j, x, h, hj => by
    simp at h
    subst h
    rw [List.flatMap_cons, Nat.zero_mul, Nat.zero_add, List.getElem?_append_left (by simp [srC]; omega)]
  | y :: r, i + 1, j, x, h, hj => by
    rw [List.flatMap_cons, List.getElem?_append_right (by simp [srC]; omega)]
    have e : (i + 1) * 4 + j - (srC y).length = i * 4 + j := by simp [srC]; omega
    rw [e]
    exact srC_get r i j x (by simpa using h) hj
theorem SegR.open {w : World} {v : Value} {l : List SR} (h : SegR w v l) : ∃ a cap, v = .slice a l.length cap ∧ ∀ i x, l[i]? = some x → ∃ b o, a = some ⟨b, o, none⟩ ∧
    w.cell? ⟨b, o + i * 4, none⟩ = some (.string x.path) ∧ w.cell? ⟨b, o + i * 4 + 1, none⟩ = some (.int .i64 (x.recs : Int)) ∧ w.cell? ⟨b, o + i * 4 + 2, none⟩ = some (.int .i64 (x.bytes : Int)) ∧ w.cell? ⟨b, o + i * 4 + 3, none⟩ = some (.int .i64 (x.vals : Int)) := by
  obtain ⟨-, -, a, cap, hv, -, -, -, hc⟩ := h
  refine ⟨a, cap, hv, fun i x hx => ?_⟩
  obtain ⟨b, o, ha, c0⟩ := hc (i * 4 + 0) _ ((srC_get l i 0 x hx (by decide)).trans rfl)
  obtain ⟨b1, o1, ha1, c1⟩ := hc (i * 4 + 1) _ ((srC_get l i 1 x hx (by decide)).trans rfl)
  obtain ⟨b2, o2, ha2, c2⟩ := hc (i * 4 + 2) _ ((srC_get l i 2 x hx (by decide)).trans rfl)
  obtain ⟨b3, o3, ha3, c3⟩ := hc (i * 4 + 3) _ ((srC_get l i 3 x hx (by decide)).trans rfl)
  rw [ha] at ha1 ha2 ha3
  cases ha1
  cases ha2
  cases ha3
  exact ⟨b, o, ha, by simpa using c0, by rw [Nat.add_assoc]; exact c1, by rw [Nat.add_assoc]; exact c2, by rw [Nat.add_assoc]; exact c3⟩
theorem SegR.below {w w' : World} {v : Value} {l : List SR} (h : SegR w v l) (hb : Below w.heap.size w w') : SegR w' v l := Seg.keep h (below_keeps hb)
theorem rows_cat {w : World} {p q : Value} {l m : List SR} (hp : SegR w p l) (hq : SegR w q m) (hlen : l.length + m.length ≤ 1099511627776) :
    ∃ v1 w1 v2 w2, (Builtin.append_ #[27, 27] 27 #[.slice (some ⟨w.heap.size, 0, none⟩) 0 0, p]).run Try.prog (w.alloc (.cells #[] 32)) = .ok v1 w1 ∧
      (Builtin.append_ #[27, 27] 27 #[v1, q]).run Try.prog w1 = .ok v2 w2 ∧ SegR w2 v2 (l ++ m) ∧ Below w.heap.size w w2 ∧ (∃ a n c, v1 = .slice a n c) ∧ (∃ a c, v2 = .slice a (l ++ m).length c) := by
  have hb0 : Below w.heap.size w (w.alloc (.cells #[] 32)) := (Below.refl _ _).alloc (Nat.le_refl _) _
  have h0 : (w.alloc (.cells #[] 32)).ownsRow w.heap.size 32 4 (.slice (some ⟨w.heap.size, 0, none⟩) 0 0) 0 [] := World.ownsRow_made (base := w.heap.size) (e := 32) (size := 4) w #[] 0 (Nat.le_refl _) (by unfold maxLen; omega) rfl
  obtain ⟨v1, w1, e1, o1, g1, -⟩ := seg_append (P := Try.prog) _ w.heap.size 27 27 32 (.agg #[.string ⟨#[]⟩, .int .i64 0, .int .i64 0, .int .i64 0]) 4 40 Try.underlying27 info_srow rfl (by decide) _ _ 0 l.length [] _ h0 (hp.below hb0) (srC_one l) (by omega) (by omega) hb0.size
  have hb1 : Below w.heap.size w w1 := hb0.grown g1 hb0.size (by intro q e; simp [Value.ownBlock] at e; omega)
  obtain ⟨v2, w2, e2, o2, g2, -⟩ := seg_append (P := Try.prog) _ w.heap.size 27 27 32 (.agg #[.string ⟨#[]⟩, .int .i64 0, .int .i64 0, .int .i64 0]) 4 40 Try.underlying27 info_srow rfl (by decide) v1 _ (0 + l.length) m.length _ _ o1 (hq.below hb1) (srC_one m) (by omega) (by omega) hb1.size
  have hb2 : Below w.heap.size w w2 := hb1.grown g2 hb1.size (fun q e => (World.ownsRow.lt o1 q e).1)
  have hS : SegR w2 v2 (l ++ m) := by
    unfold SegR
    rw [List.length_append, List.flatMap_append]
    have := row_seg o2 (by omega)
    rw [Nat.zero_add, List.nil_append] at this
    exact this
  obtain ⟨a2, c2, hv2, -⟩ := hS.open
  refine ⟨v1, w1, v2, w2, e1, e2, hS, hb2, ?_, a2, c2, hv2⟩
  rcases o1.2 with ⟨h, -⟩ | ⟨g, cap, cur, h, -⟩
  · exact ⟨_, _, _, h⟩
  · exact ⟨_, _, _, h⟩
end Go.Proofs.Ytphkmpnahnakaaa
namespace Go.Proofs.Ytphkmpnahnakaaa
open Go.RowKit
theorem sumR_step {L : List SR} {k : Nat} {x : SR} (h : L[k]? = some x) (p : ByteArray) :
    sumR (L.take (k + 1)) p = if x.path = p then ⟨p, (sumR (L.take k) p).recs + x.recs, (sumR (L.take k) p).bytes + x.bytes, (sumR (L.take k) p).vals + x.vals⟩ else sumR (L.take k) p := by
  rw [List.take_add_one, h, Option.toList_some, sumR_app, sumR_cons]
  have h0 : sumR [] p = ⟨p, 0, 0, 0⟩ := rfl
  rw [h0]
  by_cases hp : x.path = p
  · rw [if_pos hp, if_pos hp]; rfl
  · rw [if_neg hp, if_neg hp]; rfl
theorem sumR_take_le (L : List SR) (k : Nat) (p : ByteArray) : (sumR (L.take k) p).recs ≤ (sumR L p).recs ∧ (sumR (L.take k) p).bytes ≤ (sumR L p).bytes ∧ (sumR (L.take k) p).vals ≤ (sumR L p).vals := by
  have h := sumR_app (L.take k) (L.drop k) p
  rw [List.take_append_drop] at h
  rw [h]
  exact ⟨Nat.le_add_right _ _, Nat.le_add_right _ _, Nat.le_add_right _ _⟩
theorem rowsS_small {t : List SE} (h : SmallE t) {ks : List ByteArray} {n : Nat} (hn : n ≤ 1152921504606846976) : ∀ q ∈ rowsS t ks n, q.recs ≤ 1152921504606846976 ∧ q.bytes ≤ 1152921504606846976 ∧ q.vals ≤ 1152921504606846976 := by
  intro q hq
  unfold rowsS at hq
  rcases List.mem_cons.1 hq with rfl | hq
  · have := h.1
    exact ⟨by show t.length ≤ _; omega, hn, hn⟩
  · obtain ⟨p, -, rfl⟩ := List.mem_map.1 hq
    obtain ⟨h1, h2, h3⟩ := small_le h p
    exact ⟨by show cntE t p ≤ _; omega, h2, h3⟩
theorem vcheck_app {s : List Mes} {root d : Int} {a b : List UInt8} (ha : (vcheck s root a d).2 = 0) (hb : (vcheck s root b d).2 = 0) : (vcheck s root (a ++ b) d).2 = 0 := by
  obtain ⟨g1, ⟨g2, g3⟩, -, g4⟩ := vcheck_ok ha
  obtain ⟨-, -, -, g5⟩ := vcheck_ok hb
  have h := vmsg_app g4 g5
  unfold vcheck at ha ⊢
  by_cases h0 : argsCode s root d ≠ 0
  · rw [if_pos h0] at ha; exact absurd ha h0
  · rw [if_neg h0]; exact h
end Go.Proofs.Ytphkmpnahnakaaa
namespace Go.Proofs.Ytphkmpnahnakaaa
open Go.RowKit
theorem vloop_code (rec : Nat → List UInt8 → Nat × Nat) (deep : Bool) (fs : List Fld) (l : List UInt8) (hrec : ∀ o x, (rec o x).2 < 256) : ∀ (k i : Nat), (vloop rec deep fs l k i).2 < 256
  | 0, _ => by rw [vloop]; decide
  | k + 1, i => by
    rw [vloop]
    by_cases hi : l.length ≤ i
    · rw [if_pos hi]; decide
    rw [if_neg hi]
    have hv : (vlook fs l i).2.2.2 < 256 ∧ (vval rec deep fs l (vlook fs l i)).2 < 256 := by
      rcases vlook_cases fs l i with ⟨c, h, e, h2⟩ | ⟨r, h1, h2, h3, h4, -, e | ⟨j, run, -, e, -⟩⟩
      · rw [e]
        refine ⟨h2, ?_⟩
        unfold vval
        rw [if_neg (by simp)]
        simp only [Bool.false_eq_true, if_false]
        split
        · split <;> simp
        · split
          · split
            · simp
            · exact hrec _ _
          · simp
      · rw [e]; exact ⟨by simp, by simp [vval]⟩
      · rw [e]
        refine ⟨by simp, ?_⟩
        unfold vval
        rw [if_neg (by show ¬ ((j : Int) < 0); omega)]
        simp only [Int.toNat_natCast]
        split
        · have := runCount_lt (kwire (fs.getD j .zero).kind) (part l r.at' r.to)
          show (runCount _ _).2 < 256; omega
        · split
          · split <;> simp
          · split
            · split
              · simp
              · exact hrec _ _
            · simp
    by_cases hc : (vlook fs l i).2.2.2 ≠ 0
    · rw [if_pos hc]; exact hv.1
    rw [if_neg hc]
    by_cases hv2 : (vval rec deep fs l (vlook fs l i)).2 ≠ 0
    · rw [if_pos hv2]; exact hv.2
    · rw [if_neg hv2]; exact vloop_code rec deep fs l hrec k _
theorem vmsg_code (s : List Mes) : ∀ (d m : Nat) (l : List UInt8), (vmsg s d m l).2 < 256
  | 0, m, l => vloop_code _ _ _ l (fun _ _ => by decide) _ _
  | d + 1, m, l => vloop_code _ _ _ l (vmsg_code s d) _ _
theorem vcheck_code (s : List Mes) (root : Int) (l : List UInt8) (d : Int) : (vcheck s root l d).2 < 256 := by
  unfold vcheck
  by_cases h : argsCode s root d ≠ 0
  · rw [if_pos h]; have := args_cases s root d; show argsCode s root d < 256; omega
  · rw [if_neg h]; exact vmsg_code _ _ _ _
end Go.Proofs.Ytphkmpnahnakaaa
