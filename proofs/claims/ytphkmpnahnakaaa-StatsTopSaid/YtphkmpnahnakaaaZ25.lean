/- darninglaw28.alive returns true. No condition. append(append([]byte{}, x...), y...), and the same of rows. No condition but lengths. Plain laws of exchanges in a row of things. No condition. Rows of ints that are sorted in place: the row's block, exchanges, slices.insertionSortCmpFunc. At most 2^40 ints. A block that holds rows at its head: its cells, stores, exchanges. No condition. -/
import Derived.Test.YtphkmpnahnakaaaZ07
import Derived.Test.YtphkmpnahnakaaaZ11
import Derived.Test.YtphkmpnahnakaaaZ15
import Derived.Test.YtphkmpnahnakaaaZ19
import Derived.Test.YtphkmpnahnakaaaZ21
import Derived.Test.YtphkmpnahnakaaaZ24
import Derived.StillTailTactics
import Derived.BigRegion
namespace Go.Proofs.Ytphkmpnahnakaaa
open Go.RowKit
def s28 : List Mes := [⟨⟨#[109]⟩, [⟨⟨#[97]⟩, 1, 3, false, false, 0⟩]⟩]
def p28 : ByteArray := ⟨#[97]⟩
theorem size_srow (w : World) : (sizeOf 32).run Try.prog w = .ok 4 w := by kernel_rfl
theorem keys_one {t : List SE} {ks : List ByteArray} {p : ByteArray} (h : KeysOf t ks) (h1 : ∀ e ∈ t, e.path = p) (h2 : ∃ e, e ∈ t) : ks = [p] := by
  have hp : p ∈ ks := (h.mem p).2 (by obtain ⟨e, he⟩ := h2; exact ⟨e, he, h1 e he⟩)
  have hall : ∀ q ∈ ks, q = p := fun q hq => by
    obtain ⟨e, he, h3⟩ := (h.mem q).1 hq
    rw [← h3, h1 e he]
  match ks, h.nd, hp, hall with
  | [q], _, _, hall => rw [hall q (by simp)]
  | q :: q' :: r, hn, _, hall =>
    rw [List.nodup_cons] at hn
    exact absurd (by rw [hall q (by simp), hall q' (by simp)]; simp) hn.1
/-- the rows of a list of the call's own -/
theorem rowsOwn_at {w : World} {v : Value} {base : Nat} {l : List SR} (h : RowsOwn srP 32 4 0 base w v l) (hl : l.length ≤ 140737488355328) : ∃ a cap, v = .slice a l.length cap ∧ ∀ i x, l[i]? = some x → ∃ b o, a = some ⟨b, o, none⟩ ∧
    w.cell? ⟨b, o + i * 4, none⟩ = some (.string x.path) ∧ w.cell? ⟨b, o + i * 4 + 1, none⟩ = some (.int .i64 (x.recs : Int)) ∧ w.cell? ⟨b, o + i * 4 + 2, none⟩ = some (.int .i64 (x.bytes : Int)) ∧ w.cell? ⟨b, o + i * 4 + 3, none⟩ = some (.int .i64 (x.vals : Int)) := by
  obtain ⟨-, a, cap, hv, -, hat⟩ := RowsAt.open (by decide) (h.at hl (w' := w) fun _ _ _ => rfl)
  refine ⟨a, cap, hv, fun i x hi => ?_⟩
  obtain ⟨b, o, r, ha, -, hc, hr⟩ := hat i x hi
  unfold srP at hr
  subst hr
  exact ⟨b, o, ha, hc 0 _ rfl, hc 1 _ rfl, hc 2 _ rfl, hc 3 _ rfl⟩
set_option maxRecDepth 100000 in
set_option maxHeartbeats 8000000 in
theorem law28_alive (w : World) : Calls Try.prog 6 #[] w fun e w' => e = .returned (.bool true) ∧ Below w.heap.size w w' := by
  have HC : Hid ((vcheck s28 0 [8, 1, 8, 2] 0).2 = 0 ∧ ((evsub s28 1 0 [8, 1, 8, 2] emptyS).map fun e => (e.path.data.toList, e.bytes, e.vals)) = [([97], 2, 1), ([97], 2, 1)]) := ⟨by decide +kernel, by decide +kernel⟩
  have HT : Hid (evsub s28 1 0 [8, 1, 8, 2] emptyS = [⟨p28, 2, 1⟩, ⟨p28, 2, 1⟩]) := by
    have h := HC.out.2
    obtain ⟨⟨q, b1, v1⟩, l1, e1, h1, h2⟩ := List.map_eq_cons_iff.1 h
    obtain ⟨⟨q', b2, v2⟩, l2, e2, h3, h4⟩ := List.map_eq_cons_iff.1 h2
    rw [List.map_eq_nil_iff] at h4
    simp only [Prod.mk.injEq] at h1 h3
    obtain ⟨g1, rfl, rfl⟩ := h1
    obtain ⟨g2, rfl, rfl⟩ := h3
    have e3 : q = p28 := by cases q; unfold p28; congr 1; exact Array.toList_inj.1 g1
    have e4 : q' = p28 := by cases q'; unfold p28; congr 1; exact Array.toList_inj.1 g2
    rw [Hid, e1, e2, h4, e3, e4]
  obtain ⟨B, HB⟩ : ∃ B, Hid (B = w.heap.size) := ⟨_, rfl⟩
  obtain ⟨W1, HW1⟩ : ∃ W1, Hid (W1 = (w.alloc (.cells #[.string ⟨#[97]⟩, .int .i64 1, .int .i64 3, .bool false, .bool false, .int .i64 0] 44)).alloc (.cells #[.string ⟨#[109]⟩, .slice (some ⟨B, 0, none⟩) 1 1] 47)) := ⟨_, rfl⟩
  obtain ⟨W2, HW2⟩ : ∃ W2, Hid (W2 = W1.alloc (.cells #[.int .u8 8, .int .u8 1, .int .u8 8, .int .u8 2] 5)) := ⟨_, rfl⟩
  have hb1 : Below w.heap.size w W1 := by rw [HW1.out]; exact ((Below.refl _ _).alloc (Nat.le_refl _) _).alloc (by simp) _
  have hz1 : W1.heap.size = B + 1 + 1 := by rw [HW1.out, HB.out]; simp
  have hb2 : Below W1.heap.size W1 W2 := by rw [HW2.out]; exact (Below.refl _ _).alloc (Nat.le_refl _) _
  have hk0 : Blk W1 B [.string ⟨#[97]⟩, .int .i64 1, .int .i64 3, .bool false, .bool false, .int .i64 0] 44 := by
    rw [HW1.out, HB.out]
    exact (Blk.new w [.string ⟨#[97]⟩, .int .i64 1, .int .i64 3, .bool false, .bool false, .int .i64 0] _).alloc _
  have hk1 : Blk W1 (B + 1) [.string ⟨#[109]⟩, .slice (some ⟨B, 0, none⟩) 1 1] 47 := by
    rw [HW1.out]
    exact Blk.new' _ [.string ⟨#[109]⟩, .slice (some ⟨B, 0, none⟩) 1 1] _ _ (by rw [World.size_alloc, HB.out])
  have hS : SchemaAt W1 (.slice (some ⟨B + 1, 0, none⟩) 1 1) s28 := schema_one hk1 (by decide) (fields_blk (fs := [⟨⟨#[97]⟩, 1, 3, false, false, 0⟩]) hk0 1 rfl (by omega) (by simp; exact ⟨by decide, by decide, by decide, by decide⟩))
  have hby : Bytes W2 (.slice (some ⟨B + 1 + 1, 0, none⟩) 4 4) [8, 1, 8, 2] := by
    rw [← hz1, HW2.out]
    exact bytes_new W1 5 #[.int .u8 8, .int .u8 1, .int .u8 8, .int .u8 2] [8, 1, 8, 2] rfl (by simp)
  have HM := hid (stats_Of (hS.below hb2) hby (by simp) 0 0)
  unfold OfPost at HM
  rw [HC.out.1] at HM
  have HB2 := hid (hb1.trans (hb2.mono hb1.size))
  obtain ⟨Q, HQ⟩ : ∃ Q : Ending → World → Prop, Hid (Q = fun e w' => e = .returned (.bool true) ∧ Below w.heap.size w w') := ⟨_, rfl⟩
  rw [← HQ.out]
  have HZ1 := hid hz1
  clear hb1 hb2 hk0 hk1 hS hby hz1
  go_enter Try.func6, Try.ntmps6
  go_upto_region 2 with fail
  rw [← HB.out, ← HW1.out]
  have hz1 := HZ1.out
  go_wp2_with fail
  rw [← HW2.out]
  refine HM.out.mono ?_
  rintro e w3 ⟨hb3, -, h1⟩
  obtain ⟨v, ss, base, rfl, hK, -, hO⟩ := h1 (by first | rfl | trivial)
  have hT : evsub s28 ((0 : Int).toNat + 1) 0 [8, 1, 8, 2] emptyS = [⟨p28, 2, 1⟩, ⟨p28, 2, 1⟩] := HT.out
  rw [hT] at hK hO
  have hks := keys_one hK (p := p28) (by intro e he; simp at he; rw [he]) ⟨⟨p28, 2, 1⟩, by simp⟩
  rw [hks] at hO
  have hrows : rowsS [⟨p28, 2, 1⟩, ⟨p28, 2, 1⟩] [p28] ([8, 1, 8, 2] : List UInt8).length = [⟨emptyS, 2, 4, 4⟩, ⟨p28, 2, 4, 2⟩] := by
    simp [rowsS, rowS, cntE, bytE, valE]
  rw [hrows] at hO
  obtain ⟨a, cap, rfl, hat⟩ := rowsOwn_at hO (by simp)
  obtain ⟨b, o, rfl, c0, c1, c2, c3⟩ := hat 1 _ rfl
  simp only [List.length_cons, List.length_nil, Nat.zero_add, Nat.reduceAdd] at *
  have hix := index_run Try.underlying27 size_srow (rfl : some (⟨b, o, none⟩ : Addr) = some ⟨b, o, none⟩) 1 (by decide : 1 < 2) (cap := cap)
  have hl := World.block_lt_of_cell? w3 _ c0
  have heq := row_eql p28 2 4 2
  have HE : Hid (Q (.returned (.bool true)) w3) := by rw [HQ.out]; exact ⟨rfl, HB2.out.trans (hb3.mono HB2.out.size)⟩
  unfold p28 at c0 heq
  clear hb3 hK hO hT hks hrows hat HM HC HT h1
  go_wp2_with fail
  exact HE.out
end Go.Proofs.Ytphkmpnahnakaaa
namespace Go.Proofs.Ytphkmpnahnakaaa
open Go.RowKit
def SegR (w : World) (v : Value) (l : List SR) : Prop := Seg w v 4 l.length (l.flatMap srC)
theorem srC_one : ∀ (l : List SR), ∀ u ∈ l.flatMap srC, u.oneCell' = true := fun l u hu => by
  obtain ⟨x, -, hx⟩ := List.mem_flatMap.1 hu
  simp [srC] at hx
  rcases hx with rfl | rfl | rfl | rfl <;> rfl
theorem srC_len : ∀ (l : List SR), (l.flatMap srC).length = l.length * 4
  | [] => rfl
  | x :: r => by rw [List.flatMap_cons, List.length_append, srC_len r, List.length_cons]; simp [srC]; omega
theorem srC_get : ∀ (l : List SR) (i j : Nat) (x : SR), l[i]? = some x → j < 4 → (l.flatMap srC)[i * 4 + j]? = (srC x)[j]?
  | [], _, _, _, h, _ => by simp at h
  | y :: r, 0, j, x, h, hj => by
    simp at h
    subst h
    rw [List.flatMap_cons, Nat.zero_mul, Nat.zero_add, List.getElem?_append_left (by simp [srC]; omega)]
  | y :: r, i + 1, j, x, h, hj => by
    rw [List.flatMap_cons, List.getElem?_append_right (by simp [srC]; omega)]
    have e : (i + 1) * 4 + j - (srC y).length = i * 4 + j := by simp [srC]; omega
    rw [e]
    exact srC_get r i j x (by simpa using h) hj
theorem SegR.open {w : World} {v : Value} {l : List SR} (h : SegR w v l) : ∃ a cap, v = .slice a l.length cap ∧ ∀ i x, l[i]? = some x → ∃ b o, a = some ⟨b, o, none⟩ ∧
    w.cell? ⟨b, o + i * 4, none⟩ = some (.string x.path) ∧ w.cell? ⟨b, o + i * 4 + 1, none⟩ = some (.int .i64 (x.recs : Int)) ∧ w.cell? ⟨b, o + i * 4 + 2, none⟩ = some (.int .i64 (x.bytes : Int)) ∧ w.cell? ⟨b, o + i * 4 + 3, none⟩ = some (.int .i64 (x.vals : Int)) := by
  obtain ⟨-, -, a, cap, hv, -, -, -, hc⟩ := h
  refine ⟨a, cap, hv, fun i x hx => ?_⟩
  obtain ⟨b, o, ha, c0⟩ := hc (i * 4 + 0) _ ((srC_get l i 0 x hx (by decide)).trans rfl)
  obtain ⟨b1, o1, ha1, c1⟩ := hc (i * 4 + 1) _ ((srC_get l i 1 x hx (by decide)).trans rfl)
  obtain ⟨b2, o2, ha2, c2⟩ := hc (i * 4 + 2) _ ((srC_get l i 2 x hx (by decide)).trans rfl)
  obtain ⟨b3, o3, ha3, c3⟩ := hc (i * 4 + 3) _ ((srC_get l i 3 x hx (by decide)).trans rfl)
  rw [ha] at ha1 ha2 ha3
  cases ha1
  cases ha2
  cases ha3
  exact ⟨b, o, ha, by simpa using c0, by rw [Nat.add_assoc]; exact c1, by rw [Nat.add_assoc]; exact c2, by rw [Nat.add_assoc]; exact c3⟩
theorem SegR.below {w w' : World} {v : Value} {l : List SR} (h : SegR w v l) (hb : Below w.heap.size w w') : SegR w' v l := Seg.keep h (below_keeps hb)
end Go.Proofs.Ytphkmpnahnakaaa
namespace Go.Proofs.Ytphkmpnahnakaaa
variable {T : Type}
/-- the row with the i-th and the j-th exchanged (d: what is read outside) -/
def swpL (d : T) (l : List T) (i j : Nat) : List T := (l.set i (l.getD j d)).set j (l.getD i d)
theorem getD_mid (d : T) (A : List T) (x : T) (B : List T) (n : Nat) (h : n = A.length) : (A ++ x :: B).getD n d = x := by
  subst h; simp [List.getD]
theorem set_mid (A : List T) (x y : T) (B : List T) (n : Nat) (h : n = A.length) : (A ++ x :: B).set n y = A ++ y :: B := by
  subst h; simp
theorem swpL_two (d : T) (A B C : List T) (x y : T) (i j : Nat) (hi : i = A.length) (hj : j = A.length + 1 + B.length) :
    swpL d (A ++ x :: (B ++ y :: C)) i j = A ++ y :: (B ++ x :: C) := by
  unfold swpL
  have e : ∀ z : T, A ++ z :: (B ++ y :: C) = (A ++ z :: B) ++ y :: C := fun z => by simp
  rw [getD_mid d A x _ i hi, set_mid A x _ _ i hi, e x, getD_mid d (A ++ x :: B) y C j (by simp; omega), e y, set_mid (A ++ y :: B) y x C j (by simp; omega)]
  simp
theorem swpL_two' (d : T) (A B C : List T) (x y : T) (i j : Nat) (hi : i = A.length) (hj : j = A.length + 1 + B.length) :
    swpL d (A ++ x :: (B ++ y :: C)) j i = A ++ y :: (B ++ x :: C) := by
  unfold swpL
  have e : ∀ z : T, A ++ z :: (B ++ y :: C) = (A ++ z :: B) ++ y :: C := fun z => by simp
  rw [getD_mid d A x _ i hi, e x, getD_mid d (A ++ x :: B) y C j (by simp; omega), set_mid (A ++ x :: B) y x C j (by simp; omega)]
  rw [show (A ++ x :: B) ++ x :: C = A ++ x :: (B ++ x :: C) by simp, set_mid A x y _ i hi]
/-- a place of one, among others -/
def putAt (P Z : List T) (k : Nat) (x : T) (S : List T) : List T := P ++ (Z.take k ++ x :: Z.drop k) ++ S
theorem putAt_len (P Z : List T) (k : Nat) (x : T) (S : List T) : (putAt P Z k x S).length = P.length + Z.length + 1 + S.length := by
  unfold putAt
  simp only [List.length_append, List.length_cons, List.length_take, List.length_drop]
  omega
theorem putAt_get (d : T) (P Z : List T) (k : Nat) (x : T) (S : List T) (hk : k ≤ Z.length) (n : Nat) (hn : n = P.length + k) : (putAt P Z k x S).getD n d = x := by
  unfold putAt
  rw [← List.append_assoc, List.append_assoc, List.cons_append]
  exact getD_mid d _ x _ n (by rw [List.length_append, List.length_take]; omega)
theorem putAt_eq (P Z : List T) (k : Nat) (x y : T) (S : List T) (hy : Z[k]? = some y) : putAt P Z k x S = (P ++ Z.take k) ++ x :: ([] ++ y :: (Z.drop (k + 1) ++ S)) ∧ putAt P Z (k + 1) x S = (P ++ Z.take k) ++ y :: ([] ++ x :: (Z.drop (k + 1) ++ S)) := by
  obtain ⟨hl, e⟩ := List.getElem?_eq_some_iff.1 hy
  unfold putAt
  constructor
  · rw [List.drop_eq_getElem_cons hl, e]; simp
  · rw [List.take_succ_eq_append_getElem hl, e]; simp
/-- one place on -/
theorem putAt_up (d : T) (P Z : List T) (k : Nat) (x y : T) (S : List T) (hy : Z[k]? = some y) (i j : Nat) (hi : i = P.length + k) (hj : j = i + 1) :
    (putAt P Z k x S).getD j d = y ∧ swpL d (putAt P Z k x S) i j = putAt P Z (k + 1) x S ∧ swpL d (putAt P Z (k + 1) x S) j i = putAt P Z k x S ∧ (putAt P Z (k + 1) x S).getD i d = y := by
  have hk : k < Z.length := (List.getElem?_eq_some_iff.1 hy).1
  obtain ⟨e1, e2⟩ := putAt_eq P Z k x y S hy
  have hl : (P ++ Z.take k).length = i := by rw [List.length_append, List.length_take]; omega
  refine ⟨?_, ?_, ?_, ?_⟩
  · rw [e1, show (P ++ Z.take k) ++ x :: ([] ++ y :: (Z.drop (k + 1) ++ S)) = (P ++ Z.take k ++ [x]) ++ y :: (Z.drop (k + 1) ++ S) by simp]
    exact getD_mid d _ y _ j (by rw [List.length_append, hl]; simp; omega)
  · rw [e1, e2, swpL_two d (P ++ Z.take k) [] (Z.drop (k + 1) ++ S) x y i j hl.symm (by rw [hl]; simp; omega)]
  · rw [e1, e2, swpL_two' d (P ++ Z.take k) [] (Z.drop (k + 1) ++ S) y x i j hl.symm (by rw [hl]; simp; omega)]
  · rw [e2]; exact getD_mid d _ y _ i hl.symm
/-- two runs of one length, exchanged up to a place -/
def swpRun (U X V Y W : List T) (k : Nat) : List T := U ++ (Y.take k ++ X.drop k) ++ V ++ (X.take k ++ Y.drop k) ++ W
theorem swpRun_zero (U X V Y W : List T) : swpRun U X V Y W 0 = U ++ X ++ V ++ Y ++ W := by simp [swpRun]
theorem swpRun_end (U X V Y W : List T) (k : Nat) (hx : X.length = k) (hy : Y.length = k) : swpRun U X V Y W k = U ++ Y ++ V ++ X ++ W := by
  unfold swpRun
  rw [List.take_of_length_le (by omega), List.take_of_length_le (by omega), List.drop_eq_nil_of_le (by omega), List.drop_eq_nil_of_le (by omega)]
  simp
theorem swpRun_len (U X V Y W : List T) (k : Nat) (h : X.length = Y.length) : (swpRun U X V Y W k).length = U.length + X.length + V.length + Y.length + W.length := by
  unfold swpRun
  simp only [List.length_append, List.length_take, List.length_drop]
  omega
theorem swpRun_step (d : T) (U X V Y W : List T) (k n : Nat) (hx : X.length = n) (hy : Y.length = n) (hk : k < n) (i j : Nat) (hi : i = U.length + k) (hj : j = U.length + n + V.length + k) :
    ∃ x y, (swpRun U X V Y W k).getD i d = x ∧ (swpRun U X V Y W k).getD j d = y ∧ swpL d (swpRun U X V Y W k) i j = swpRun U X V Y W (k + 1) := by
  have hX : X[k]? = some (X[k]'(by omega)) := List.getElem?_eq_getElem (by omega)
  have hY : Y[k]? = some (Y[k]'(by omega)) := List.getElem?_eq_getElem (by omega)
  generalize hxe : X[k]'(by omega) = x at hX
  generalize hye : Y[k]'(by omega) = y at hY
  have e1 : swpRun U X V Y W k = (U ++ Y.take k) ++ x :: ((X.drop (k + 1) ++ V ++ X.take k) ++ y :: (Y.drop (k + 1) ++ W)) := by
    unfold swpRun
    rw [List.drop_eq_getElem_cons (l := X) (by omega), List.drop_eq_getElem_cons (l := Y) (by omega), hxe, hye]; simp
  have e2 : swpRun U X V Y W (k + 1) = (U ++ Y.take k) ++ y :: ((X.drop (k + 1) ++ V ++ X.take k) ++ x :: (Y.drop (k + 1) ++ W)) := by
    unfold swpRun
    rw [List.take_succ_eq_append_getElem (l := X) (by omega), List.take_succ_eq_append_getElem (l := Y) (by omega), hxe, hye]; simp
  have hl : (U ++ Y.take k).length = i := by rw [List.length_append, List.length_take]; omega
  refine ⟨_, _, rfl, rfl, ?_⟩
  rw [e1, e2]
  exact swpL_two d _ _ _ x y i j hl.symm (by rw [hl]; simp only [List.length_append, List.length_drop, List.length_take]; omega)
end Go.Proofs.Ytphkmpnahnakaaa
namespace Go.Proofs.Ytphkmpnahnakaaa
open Go.RowKit
/-- block g holds the ints l at its head -/
def IRow (w : World) (g : Nat) (l : List Int) : Prop := ∃ cur : Array Value, w.heap[g]? = some (.cells cur 3 (0, 0)) ∧ l.length ≤ cur.size ∧ cur.toList.take l.length = l.map intV
theorem IRow.lt {w : World} {g : Nat} {l : List Int} (h : IRow w g l) : g < w.heap.size := by
  obtain ⟨cur, h1, -⟩ := h
  exact (Array.getElem?_eq_some_iff.1 h1).1
theorem IRow.cell {w : World} {g : Nat} {l : List Int} (h : IRow w g l) (k : Nat) (hk : k < l.length) : w.cell? ⟨g, k, none⟩ = some (.int .i64 (l.getD k 0)) := by
  obtain ⟨cur, h1, h2, h3⟩ := h
  rw [cell_of_row _ _ _ cur _ (0, 0) h1]
  have h4 := congrArg (fun l : List Value => l[k]?) h3
  simp only [List.getElem?_take, hk, if_true, List.getElem?_map, Array.getElem?_toList] at h4
  rw [h4, List.getD_eq_getElem?_getD, List.getElem?_eq_getElem hk]
  rfl
theorem IRow.free {w : World} {g : Nat} {l : List Int} (h : IRow w g l) (k : Nat) : w.frozen? ⟨g, k, none⟩ = false := by
  obtain ⟨cur, h1, -⟩ := h
  simp [World.frozen?, h1]
theorem IRow.of_block {w w' : World} {g : Nat} {l : List Int} (h : IRow w g l) (hb : w'.heap[g]? = w.heap[g]?) : IRow w' g l := by
  obtain ⟨cur, h1, h2⟩ := h
  exact ⟨cur, hb.trans h1, h2⟩
theorem IRow.below {w w' : World} {g : Nat} {l : List Int} (h : IRow w g l) (hb : Below w.heap.size w w') : IRow w' g l := h.of_block (hb.block g h.lt)
theorem IRow.set {w : World} {g : Nat} {l : List Int} (h : IRow w g l) (k : Nat) (_hk : k < l.length) (x : Int) : IRow (w.setCell ⟨g, k, none⟩ (.int .i64 x)) g (l.set k x) := by
  obtain ⟨cur, h1, h2, h3⟩ := h
  obtain ⟨hlt, hc⟩ := Array.getElem?_eq_some_iff.1 h1
  refine ⟨cur.set! k (.int .i64 x), ?_, by simpa using h2, ?_⟩
  · show (w.heap.modify g _)[g]? = _
    rw [Array.getElem?_eq_getElem (by rw [Array.size_modify]; exact hlt), Array.getElem_modify_self, hc]
    simp
  · rw [Array.set!_eq_setIfInBounds, Array.toList_setIfInBounds, List.length_set, List.take_set, h3, List.map_set]
    rfl
theorem IRow.swap {w : World} {g : Nat} {l : List Int} (h : IRow w g l) (i j : Nat) (hi : i < l.length) (hj : j < l.length) (x y : Int) (hx : l.getD i 0 = x) (hy : l.getD j 0 = y) :
    IRow ((w.setCell ⟨g, i, none⟩ (.int .i64 y)).setCell ⟨g, j, none⟩ (.int .i64 x)).drew g (swpL 0 l i j) := by
  have h1 := (h.set i hi y).set j (by simpa using hj) x
  subst hx
  subst hy
  exact h1.of_block rfl
theorem grown_setS {w0 w : World} {g : Nat} (h : w0.grownBy w (some g)) (k : Nat) (v : Value) : w0.grownBy (w.setCell ⟨g, k, none⟩ v) (some g) :=
  ⟨h.os, h.tape, h.output, by simpa using h.size, fun b hb hne => (Below.heap_setCell w _ v b (fun e => hne (by rw [e]))).trans (h.block b hb hne)⟩
theorem grown_drew {w0 w : World} {r : Option Nat} (h : w0.grownBy w r) : w0.grownBy w.drew r := ⟨h.os, h.tape, h.output, h.size, h.block⟩
theorem grown_belowS {w0 w w' : World} {r : Option Nat} (h : w0.grownBy w r) (hb : Below w.heap.size w w') : w0.grownBy w' r :=
  ⟨hb.os.trans h.os, hb.tape.trans h.tape, hb.output.trans h.output, Nat.le_trans h.size hb.size, fun k hk hr => (hb.block k (Nat.lt_of_lt_of_le hk h.size)).trans (h.block k hk hr)⟩
theorem grown_drewN {w0 w : World} {r : Option Nat} (h : w0.grownBy w r) (n : Nat) : w0.grownBy (w.drewN n) r := ⟨h.os, h.tape, h.output, h.size, h.block⟩
/-- what cmp is asked: of elements of a row it tells cf, and leaves what is there -/
def CmpI (F : Nat) (cap : Array Value) (cf : Int → Int → Int) (w0 : World) (g : Nat) (X : List Int) : Prop :=
  ∀ (x y : Int) (wr : World), x ∈ X → y ∈ X → w0.grownBy wr (some g) → Calls Try.prog F (#[.int .i64 x, .int .i64 y] ++ cap) wr fun e w' => e = .returned (.int .i64 (cf x y)) ∧ Below wr.heap.size wr w'
theorem CmpI.sub {F : Nat} {cap : Array Value} {cf : Int → Int → Int} {w0 : World} {g : Nat} {X Y : List Int} (h : CmpI F cap cf w0 g X) (hs : ∀ x ∈ Y, x ∈ X) : CmpI F cap cf w0 g Y :=
  fun x y wr hx hy hw => h x y wr (hs x hx) (hs y hy) hw
end Go.Proofs.Ytphkmpnahnakaaa
namespace Go.Proofs.Ytphkmpnahnakaaa
open Go.RowKit
/-- a row, and where it stood -/
structure TR where
  path : ByteArray
  recs : Nat
  bytes : Nat
  vals : Nat
  tag : Nat
def TR.row (x : TR) : SR := ⟨x.path, x.recs, x.bytes, x.vals⟩
def trC (x : TR) : List Value := [.string x.path, .int .i64 (x.recs : Int), .int .i64 (x.bytes : Int), .int .i64 (x.vals : Int)]
theorem flat_tr (l : List TR) : l.flatMap trC = (l.map TR.row).flatMap srC := by
  rw [List.flatMap_map]
  rfl
theorem trC_len (l : List TR) : (l.flatMap trC).length = l.length * 4 := by rw [flat_tr, srC_len, List.length_map]
theorem trC_get (l : List TR) (i j : Nat) (x : TR) (h : l[i]? = some x) (hj : j < 4) : (l.flatMap trC)[i * 4 + j]? = (trC x)[j]? := by
  rw [flat_tr, srC_get (l.map TR.row) i j x.row (by rw [List.getElem?_map, h]; rfl) hj]
  rfl
def zTR : TR := ⟨emptyS, 0, 0, 0, 0⟩
/-- block g holds the values vs at its head -/
def BRow (w : World) (g : Nat) (vs : List Value) : Prop := ∃ cur : Array Value, w.heap[g]? = some (.cells cur 32 (0, 0)) ∧ vs.length ≤ cur.size ∧ cur.toList.take vs.length = vs
theorem BRow.set {w : World} {g : Nat} {vs : List Value} (h : BRow w g vs) (k : Nat) (_hk : k < vs.length) (v : Value) : BRow (w.setCell ⟨g, k, none⟩ v) g (vs.set k v) := by
  obtain ⟨cur, h1, h2, h3⟩ := h
  obtain ⟨hlt, hc⟩ := Array.getElem?_eq_some_iff.1 h1
  refine ⟨cur.set! k v, ?_, by simpa using h2, ?_⟩
  · show (w.heap.modify g _)[g]? = _
    rw [Array.getElem?_eq_getElem (by rw [Array.size_modify]; exact hlt), Array.getElem_modify_self, hc]
    simp
  · rw [Array.set!_eq_setIfInBounds, Array.toList_setIfInBounds, List.length_set, List.take_set, h3]
theorem BRow.cell {w : World} {g : Nat} {vs : List Value} (h : BRow w g vs) (k : Nat) {v : Value} (hk : vs[k]? = some v) : w.cell? ⟨g, k, none⟩ = some v := by
  obtain ⟨cur, h1, h2, h3⟩ := h
  have hlt := (List.getElem?_eq_some_iff.1 hk).1
  rw [cell_of_row _ _ _ cur _ (0, 0) h1]
  have h4 := congrArg (fun l : List Value => l[k]?) h3
  simp only [List.getElem?_take, hlt, if_true, Array.getElem?_toList] at h4
  rw [h4, hk]
theorem BRow.free {w : World} {g : Nat} {vs : List Value} (h : BRow w g vs) (k : Nat) : w.frozen? ⟨g, k, none⟩ = false := by
  obtain ⟨cur, h1, -⟩ := h
  simp [World.frozen?, h1]
/-- block g holds the rows l at its head -/
def RRow (w : World) (g : Nat) (l : List TR) : Prop := BRow w g (l.flatMap trC)
theorem RRow.lt {w : World} {g : Nat} {l : List TR} (h : RRow w g l) : g < w.heap.size := by
  obtain ⟨cur, h1, -⟩ := h
  exact (Array.getElem?_eq_some_iff.1 h1).1
/-- the four cells of a row -/
def Cells4 (w : World) (g k : Nat) (x : TR) : Prop := w.cell? ⟨g, k * 4, none⟩ = some (.string x.path) ∧ w.cell? ⟨g, k * 4 + 1, none⟩ = some (.int .i64 (x.recs : Int)) ∧ w.cell? ⟨g, k * 4 + 2, none⟩ = some (.int .i64 (x.bytes : Int)) ∧ w.cell? ⟨g, k * 4 + 3, none⟩ = some (.int .i64 (x.vals : Int))
theorem RRow.cell {w : World} {g : Nat} {l : List TR} (h : RRow w g l) (k : Nat) (hk : k < l.length) : Cells4 w g k (l.getD k zTR) := by
  have hx : l[k]? = some (l.getD k zTR) := by rw [List.getD_eq_getElem?_getD, List.getElem?_eq_getElem hk]; rfl
  refine ⟨?_, BRow.cell h (k * 4 + 1) ((trC_get l k 1 _ hx (by decide)).trans rfl), BRow.cell h (k * 4 + 2) ((trC_get l k 2 _ hx (by decide)).trans rfl), BRow.cell h (k * 4 + 3) ((trC_get l k 3 _ hx (by decide)).trans rfl)⟩
  have h0 := trC_get l k 0 _ hx (by decide)
  rw [Nat.add_zero] at h0
  exact BRow.cell h (k * 4) (h0.trans rfl)
theorem RRow.free {w : World} {g : Nat} {l : List TR} (h : RRow w g l) (k : Nat) : w.frozen? ⟨g, k * 4, none⟩ = false ∧ w.frozen? ⟨g, k * 4 + 1, none⟩ = false ∧ w.frozen? ⟨g, k * 4 + 2, none⟩ = false ∧ w.frozen? ⟨g, k * 4 + 3, none⟩ = false :=
  ⟨BRow.free h _, BRow.free h _, BRow.free h _, BRow.free h _⟩
theorem RRow.of_block {w w' : World} {g : Nat} {l : List TR} (h : RRow w g l) (hb : w'.heap[g]? = w.heap[g]?) : RRow w' g l := by
  obtain ⟨cur, h1, h2⟩ := h
  exact ⟨cur, hb.trans h1, h2⟩
theorem RRow.below {w w' : World} {g : Nat} {l : List TR} (h : RRow w g l) (hb : Below w.heap.size w w') : RRow w' g l := h.of_block (hb.block g h.lt)
/-- a row, stored -/
def set4 (w : World) (g k : Nat) (x : TR) : World := (((w.setCell ⟨g, k * 4, none⟩ (.string x.path)).setCell ⟨g, k * 4 + 1, none⟩ (.int .i64 (x.recs : Int))).setCell ⟨g, k * 4 + 2, none⟩ (.int .i64 (x.bytes : Int))).setCell ⟨g, k * 4 + 3, none⟩ (.int .i64 (x.vals : Int))
theorem flat_set : ∀ (l : List TR) (k : Nat) (x : TR), k < l.length → (((((l.flatMap trC).set (k * 4) (.string x.path)).set (k * 4 + 1) (.int .i64 (x.recs : Int))).set (k * 4 + 2) (.int .i64 (x.bytes : Int))).set (k * 4 + 3) (.int .i64 (x.vals : Int))) = (l.set k x).flatMap trC
  | [], _, _, h => by simp at h
  | y :: r, 0, x, _ => by
    simp [trC]
  | y :: r, k + 1, x, h => by
    have ih := flat_set r k x (by simpa using h)
    rw [List.set_cons_succ, List.flatMap_cons, List.flatMap_cons, ← ih]
    have e : ∀ j, (k + 1) * 4 + j = k * 4 + j + 4 := fun j => by omega
    have e0 : (k + 1) * 4 = k * 4 + 4 := by omega
    rw [e, e, e, e0]
    simp [trC]
theorem RRow.set {w : World} {g : Nat} {l : List TR} (h : RRow w g l) (k : Nat) (hk : k < l.length) (x : TR) : RRow (set4 w g k x) g (l.set k x) := by
  have hlen := trC_len l
  have h1 := (((BRow.set h (k * 4) (by omega) (.string x.path)).set (k * 4 + 1) (by simp only [List.length_set]; omega) (.int .i64 (x.recs : Int))).set (k * 4 + 2) (by simp only [List.length_set]; omega) (.int .i64 (x.bytes : Int))).set (k * 4 + 3) (by simp only [List.length_set]; omega) (.int .i64 (x.vals : Int))
  rw [flat_set l k x hk] at h1
  exact h1
theorem grown_set4 {w0 w : World} {g : Nat} (h : w0.grownBy w (some g)) (k : Nat) (x : TR) : w0.grownBy (set4 w g k x) (some g) :=
  grown_setS (grown_setS (grown_setS (grown_setS h _ _) _ _) _ _) _ _
/-- an exchange of two rows: what is known at its two stores, and behind it -/
theorem RRow.exch {w0 w : World} {g : Nat} {l : List TR} (h : RRow w g l) (hG : w0.grownBy w (some g)) (i j : Nat) (hi : i < l.length) (hj : j < l.length) (x y : TR) (hx : l.getD i zTR = x) (hy : l.getD j zTR = y) :
    ∃ W1 W2 : World, W1 = (set4 w g i y).drew ∧ W2 = set4 W1 g j x ∧ (Cells4 w.drew g i x ∧ Cells4 w.drew g j y) ∧
      ((w.cell? ⟨g, i * 4, none⟩ = some (.string x.path) ∧ w.cell? ⟨g, i * 4 + 1, none⟩ = some (.int .i64 (x.recs : Int)) ∧ w.cell? ⟨g, i * 4 + 2, none⟩ = some (.int .i64 (x.bytes : Int)) ∧ w.cell? ⟨g, i * 4 + 3, none⟩ = some (.int .i64 (x.vals : Int))) ∧
        w.frozen? ⟨g, i * 4, none⟩ = false ∧ w.frozen? ⟨g, i * 4 + 1, none⟩ = false ∧ w.frozen? ⟨g, i * 4 + 2, none⟩ = false ∧ w.frozen? ⟨g, i * 4 + 3, none⟩ = false ∧ g < w.heap.size) ∧
      (∃ z, Cells4 W1 g j z) ∧ (W1.frozen? ⟨g, j * 4, none⟩ = false ∧ W1.frozen? ⟨g, j * 4 + 1, none⟩ = false ∧ W1.frozen? ⟨g, j * 4 + 2, none⟩ = false ∧ W1.frozen? ⟨g, j * 4 + 3, none⟩ = false) ∧
      RRow W2 g (swpL zTR l i j) ∧ w0.grownBy W2 (some g) := by
  have h0 : RRow w.drew g l := h.of_block rfl
  have c1 := h0.cell i hi
  have c2 := h0.cell j hj
  rw [hx] at c1
  rw [hy] at c2
  have h1 : RRow (set4 w g i y).drew g (l.set i y) := (h.set i hi y).of_block rfl
  have h2 := h1.set j (by simpa using hj) x
  have h3 : swpL zTR l i j = (l.set i y).set j x := by unfold swpL; rw [hx, hy]
  refine ⟨_, _, rfl, rfl, ⟨c1, c2⟩, ⟨c1, (h0.free i).1, (h0.free i).2.1, (h0.free i).2.2.1, (h0.free i).2.2.2, h.lt⟩, ⟨_, h1.cell j (by simpa using hj)⟩, h1.free j, by rw [h3]; exact h2, grown_set4 (grown_drew (grown_set4 hG i y)) j x⟩
theorem size_rowS (w : World) : (sizeOf 32).run Try.prog w = .ok 4 w := by kernel_rfl
end Go.Proofs.Ytphkmpnahnakaaa
