/- Reading a list of strings from an argument's data; its weight is at most the reading's bulk. Reading a schema from an argument's data. From an argument's data to its rows of any numbers. No condition. -/
import Derived.Test.YtphkmpnahnakaaaRows
import Derived.Test.YtphkmpnahnakaaaZ04
import Derived.Test.YtphkmpnahnakaaaZ13
import Derived.Test.YtphkmpnahnakaaaZ25
import Derived.Deep.Slices
import Derived.SizedLaws
import Derived.ProofKit
namespace Go.Proofs.Ytphkmpnahnakaaa
open Go.RowKit Go.Deep
/-- every part of a datum is within the form's reach -/
def Light {H : Type} (P : Program) (t : TypeId) (d : DataW H) : Prop := ∀ n ∈ d.weights P t, n ≤ reachBytes
theorem light_slice {H : Type} {P : Program} {t e : TypeId} (ht : P.underlying t = some (.slice e)) {es sp : List (DataW H)} (h : Light P t (.slice es sp)) :
    (es.length + sp.length) * P.bytesOf e ≤ reachBytes ∧ (∀ d ∈ es, Light P e d) ∧ (∀ d ∈ sp, Light P e d) := by
  have all : ∀ (l : List (DataW H)) (d : DataW H), d ∈ l → ∀ n ∈ d.weights P e, n ∈ DataW.weightsAll P e l := by
    intro l
    induction l with
    | nil => intro d hd; simp at hd
    | cons x r ih =>
      intro d hd n hn
      rw [DataW.weightsAll]
      rcases List.mem_cons.1 hd with rfl | hd
      · exact List.mem_append_left _ hn
      · exact List.mem_append_right _ (ih d hd n hn)
  refine ⟨h _ (by simp [DataW.weights, ht]), fun d hd n hn => h n ?_, fun d hd n hn => h n ?_⟩
  · simp only [DataW.weights, ht]
    exact List.mem_cons_of_mem _ (List.mem_append_left _ (all _ d hd n hn))
  · simp only [DataW.weights, ht]
    exact List.mem_cons_of_mem _ (List.mem_append_right _ (all _ d hd n hn))
theorem light_struct {H : Type} {P : Program} {t : TypeId} {fs : Array Field} (ht : P.underlying t = some (.struct fs)) {ds : List (DataW H)} (h : Light P t (.agg ds)) :
    ∀ (i : Nat) (f : Field) (d : DataW H), fs[i]? = some f → ds[i]? = some d → Light P f.type d := by
  have each : ∀ (ts : List TypeId) (l : List (DataW H)) (i : Nat) (u : TypeId) (d : DataW H), ts[i]? = some u → l[i]? = some d → ∀ n ∈ d.weights P u, n ∈ DataW.weightsEach P ts l := by
    intro ts
    induction ts with
    | nil => intro l i u d hu; simp at hu
    | cons a r ih =>
      intro l i u d hu hd n hn
      cases l with
      | nil => simp at hd
      | cons x l =>
        rw [DataW.weightsEach]
        cases i with
        | zero => simp at hu hd; subst hu; subst hd; exact List.mem_append_left _ hn
        | succ i => exact List.mem_append_right _ (ih l i u d (by simpa using hu) (by simpa using hd) n hn)
  intro i f d hf hd n hn
  refine h n ?_
  simp only [DataW.weights, ht]
  exact each _ _ i f.type d (by simp; exact ⟨f, by simpa using hf, rfl⟩) hd n hn
theorem light_arg {H : Type} {P : Program} {ts : List TypeId} {ds : List (DataW H)} (h : (DataW.weightsEach P ts ds).all (· ≤ reachBytes) = true) {j : Nat} {t : TypeId} {d : DataW H} (ht : ts[j]? = some t) (hd : ds[j]? = some d) : Light P t d := by
  intro n hn
  have := List.all_eq_true.1 h _ (DataW.weights_mem_each ht hd n hn)
  simpa using this
theorem cells_str : Try.prog.cellsOf 9 = 1 := by kernel_rfl
end Go.Proofs.Ytphkmpnahnakaaa
namespace Go.Proofs.Ytphkmpnahnakaaa
open Go.RowKit Go.Deep
/-- a slice of whatever elements, as cells -/
theorem seg_of_trod {H : Type} {enc : TypeId × Value → H} {P : Program} {w : World} {t e : TypeId} {size : Nat} (ht : P.underlying t = some (.slice e)) (hce : P.cellsOf e = size) (hbytes : 1 ≤ P.bytesOf e)
    {v : Value} {d : DataW H} {p : List MemPlace} (hv : ∃ a n c, v = .slice a n c) (h : DataW.Trod enc P w 0 (fun _ => true) true t v d p) (hL : Light P t d) :
    ∃ (n fuel : Nat) (css : Nat → List Value) (D : Nat → DataW H) (Pl : Nat → List MemPlace), Seg w v size n ((List.range n).flatMap css) ∧ (∀ i, i < n → (css i).length = size ∧ DataW.trod enc P w 0 (fun _ => true) true fuel e (css i) = some (D i, Pl i) ∧ Light P e (D i)) := by
  obtain ⟨a0, n0, c0, rfl⟩ := hv
  obtain ⟨fuel, h⟩ := h
  rcases open_slice ht h with ⟨hcs, -⟩ | ⟨a, len, cap, m, n, D, Pl, hcs, -, hl, hm, hmm, hx, hel⟩
  · simp [Value.cells] at hcs
    obtain ⟨rfl, rfl, rfl⟩ := hcs
    exact ⟨0, 0, fun _ => [], fun _ => .nil, fun _ => [], ⟨by simp, by simp, none, 0, rfl, Nat.le_refl _, by omega, fun _ => rfl, fun j u hu => by simp at hu⟩, fun i hi => absurd hi (by omega)⟩
  · simp [Value.cells] at hcs
    obtain ⟨rfl, rfl, rfl⟩ := hcs
    simp only [if_true] at hmm
    subst hmm
    simp only [Prod.mk.injEq] at hx
    obtain ⟨rfl, -⟩ := hx
    obtain ⟨hb, hle, -⟩ := light_slice ht hL
    simp only [List.length_map, List.length_range] at hb
    have hn47 : n0 ≤ 140737488355328 := by
      have h1 : reachBytes < 2 ^ 47 := reachBytes_lt
      have h2 : n0 * 1 ≤ (n0 + (m - n0)) * P.bytesOf e := Nat.mul_le_mul (by omega) hbytes
      omega
    obtain ⟨css, hcss⟩ := choose_lt (α := List Value) (n := n0) (p := fun i cs => w.cells? 0 (a.add (i * P.cellsOf e)) (P.cellsOf e) = some cs ∧ DataW.trod enc P w 0 (fun _ => true) true n e cs = some (D i, Pl i)) (fun i hi => hel i (by omega))
    have hlen : ∀ i, i < n0 → (css i).length = size := fun i hi => by rw [← hce]; exact (World.cells?_some (hcss i hi).1).2.1
    have flat : ∀ (k : Nat), k ≤ n0 → ((List.range k).flatMap css).length = k * size := by
      intro k
      induction k with
      | zero => intro _; simp
      | succ k ih =>
        intro hk
        rw [List.range_succ, List.flatMap_append, List.length_append, ih (by omega)]
        simp [hlen k (by omega), Nat.succ_mul]
    refine ⟨n0, n, css, D, Pl, ⟨flat n0 (Nat.le_refl _), hn47, some a, m, rfl, hl, by unfold maxLen at hm; omega, by simp, ?_⟩, fun i hi => ⟨hlen i hi, (hcss i hi).2, hle _ (List.mem_map.2 ⟨i, List.mem_range.2 hi, rfl⟩)⟩⟩
    intro j u hu
    -- the cell at place j lies in element j / size
    have get : ∀ (k : Nat), k ≤ n0 → ∀ j u, ((List.range k).flatMap css)[j]? = some u → ∃ i q, i < k ∧ q < size ∧ j = i * size + q ∧ (css i)[q]? = some u := by
      intro k
      induction k with
      | zero => intro _ j u hu; simp at hu
      | succ k ih =>
        intro hk j u hu
        rw [List.range_succ, List.flatMap_append] at hu
        by_cases hj : j < k * size
        · rw [List.getElem?_append_left (by rw [flat k (by omega)]; exact hj)] at hu
          obtain ⟨i, q, h1, h2, h3, h4⟩ := ih (by omega) j u hu
          exact ⟨i, q, by omega, h2, h3, h4⟩
        · rw [List.getElem?_append_right (by rw [flat k (by omega)]; omega), flat k (by omega)] at hu
          simp at hu
          have hq : j - k * size < size := by
            have := (List.getElem?_eq_some_iff.1 hu).1
            rw [hlen k (by omega)] at this; exact this
          exact ⟨k, j - k * size, by omega, hq, by omega, hu⟩
    obtain ⟨i, q, h1, h2, rfl, h4⟩ := get n0 (Nat.le_refl _) j u hu
    obtain ⟨-, -, hc⟩ := World.cells?_some (hcss i h1).1
    have hcell := hc q (by rw [hce]; exact h2)
    rw [h4, hce, add_add] at hcell
    have hspot : a.spot = none := by
      have h0 := (World.cells?_some (hcss 0 (by omega)).1).2.2 0 (by rw [hce]; omega)
      have h5 : (css 0)[0]? = some ((css 0)[0]'(by rw [hlen 0 (by omega)]; omega)) := List.getElem?_eq_getElem _
      rw [h5] at h0
      simpa [Addr.add] using World.cell?_spot h0
    obtain ⟨b, o, sp⟩ := a
    have : sp = none := hspot
    subst this
    rw [addr_add] at hcell
    exact ⟨b, o, rfl, hcell⟩
theorem flatMap_congr' {α β : Type} {l : List α} {f g : α → List β} (h : ∀ a ∈ l, f a = g a) : l.flatMap f = l.flatMap g := by
  induction l with
  | nil => rfl
  | cons a r ih =>
    rw [List.flatMap_cons, List.flatMap_cons, h a (by simp), ih fun x hx => h x (by simp [hx])]
theorem cells_int : Try.prog.cellsOf 3 = 1 := by kernel_rfl
theorem i64_bd {x : Int} (h : (Lit.int .i64 x).wf = true) : -9223372036854775808 ≤ x ∧ x ≤ 9223372036854775807 := by
  simpa [Lit.wf, IntKind.min, IntKind.max, IntKind.signed, IntKind.bits] using h
end Go.Proofs.Ytphkmpnahnakaaa
namespace Go.Proofs.Ytphkmpnahnakaaa
open Go.ChangeShapes Go.WideShapes Go.ChangeAt Go.RowKit Go.Deep
structure RI where
  path : ByteArray
  a : Int
  b : Int
  c : Int
def RI.zero : RI := ⟨⟨#[]⟩, 0, 0, 0⟩
def i64b (x : Int) : Prop := -9223372036854775808 ≤ x ∧ x ≤ 9223372036854775807
def RI.Ok (x : RI) : Prop := x.path.size ≤ 140737488355328 ∧ i64b x.a ∧ i64b x.b ∧ i64b x.c
def RI.cells (x : RI) : List Value := [.string x.path, .int .i64 x.a, .int .i64 x.b, .int .i64 x.c]
/-- rows in memory -/
def RowsI (w : World) (v : Value) (l : List RI) : Prop := Seg w v 4 l.length (l.flatMap RI.cells) ∧ ∀ x ∈ l, x.Ok
theorem bytes_srow : Try.prog.bytesOf 32 = 40 := by kernel_rfl
theorem cells_srow : Try.prog.cellsOf 32 = 4 := by kernel_rfl
set_option maxRecDepth 100000 in
theorem ri_of_trod {H : Type} {enc : TypeId × Value → H} {w : World} {fuel : Nat} {cs : List Value} {d : DataW H} {p : List MemPlace} (h : DataW.trod enc Try.prog w 0 (fun _ => true) true fuel 32 cs = some (d, p)) (hL : Light Try.prog 32 d) :
    ∃ x : RI, x.Ok ∧ cs = x.cells := by
  obtain ⟨xs, n, -, hx, hl, hlen, hf⟩ := DataW.trod_struct Try.underlying32 h
  simp only [Prod.mk.injEq] at hx
  obtain ⟨rfl, -⟩ := hx
  have hsub := light_struct Try.underlying32 hL
  rw [cells_srow] at hl
  match cs, hl, xs, hlen with
  | [c0, c1, c2, c3], _, [x0, x1, x2, x3], _ =>
    have g0 : DataW.trod enc Try.prog w 0 (fun _ => true) true n 9 [c0] = some x0 := by have := hf 0 _ rfl; simpa [cells_str] using this
    have g1 : DataW.trod enc Try.prog w 0 (fun _ => true) true n 3 [c1] = some x1 := by have := hf 1 _ rfl; simpa [cells_int] using this
    have g2 : DataW.trod enc Try.prog w 0 (fun _ => true) true n 3 [c2] = some x2 := by have := hf 2 _ rfl; simpa [cells_int] using this
    have g3 : DataW.trod enc Try.prog w 0 (fun _ => true) true n 3 [c3] = some x3 := by have := hf 3 _ rfl; simpa [cells_int] using this
    obtain ⟨s, e0, r0, -⟩ := DataW.trod_string Try.underlying9 g0
    obtain ⟨n1, e1, -, w1⟩ := DataW.trod_int Try.underlying3 g1
    obtain ⟨n2, e2, -, w2⟩ := DataW.trod_int Try.underlying3 g2
    obtain ⟨n3, e3, -, w3⟩ := DataW.trod_int Try.underlying3 g3
    have hs : s.size ≤ 140737488355328 := by
      have h1 := hsub 0 _ _ rfl rfl
      rw [r0] at h1
      have h2 := h1 s.data.toList.length (by simp [DataW.weights])
      have h3 : reachBytes < 2 ^ 47 := reachBytes_lt
      simp at h2
      have h4 : s.data.size = s.size := rfl
      omega
    simp only [List.cons.injEq, and_true] at e0 e1 e2 e3
    refine ⟨⟨s, n1, n2, n3⟩, ⟨hs, i64_bd w1, i64_bd w2, i64_bd w3⟩, ?_⟩
    simp [RI.cells, e0, e1, e2, e3]
theorem ris_of_trod {H : Type} {enc : TypeId × Value → H} {w : World} {v : Value} {d : DataW H} {p : List MemPlace} (hv : ∃ a n c, v = .slice a n c) (h : DataW.Trod enc Try.prog w 0 (fun _ => true) true 27 v d p) (hL : Light Try.prog 27 d) :
    ∃ l, RowsI w v l := by
  obtain ⟨n, fuel, css, D, Pl, hs, hel⟩ := seg_of_trod Try.underlying27 cells_srow (by rw [bytes_srow]; omega) hv h hL
  haveI : Inhabited RI := ⟨.zero⟩
  obtain ⟨f, hf⟩ := choose_lt (α := RI) (n := n) (p := fun i f => f.Ok ∧ css i = f.cells) (fun i hi => by
    obtain ⟨h1, h2, h3⟩ := hel i hi
    exact ri_of_trod h2 h3)
  refine ⟨(List.range n).map f, ?_, fun g hg => ?_⟩
  · rw [List.length_map, List.length_range]
    have : ((List.range n).map f).flatMap RI.cells = (List.range n).flatMap css := by
      rw [List.flatMap_map]
      exact flatMap_congr' (fun i hi => ((hf i (List.mem_range.1 hi)).2).symm)
    rw [this]
    exact hs
  · obtain ⟨i, hi, rfl⟩ := List.mem_map.1 hg
    exact (hf i (List.mem_range.1 hi)).1
/-- rows as the law takes them -/
def goodR (x : RI) : Prop := x.path.size ≤ 1000 ∧ x.a ≤ 1073741824 ∧ x.b ≤ 1073741824 ∧ x.c ≤ 1073741824 ∧ 0 ≤ x.a ∧ 0 ≤ x.b ∧ 0 ≤ x.c
instance (x : RI) : Decidable (goodR x) := inferInstanceAs (Decidable (_ ∧ _))
def convR (x : RI) : SR := ⟨x.path, x.a.toNat, x.b.toNat, x.c.toNat⟩
theorem riC_get : ∀ (l : List RI) (i j : Nat) (x : RI), l[i]? = some x → j < 4 → (l.flatMap RI.cells)[i * 4 + j]? = (RI.cells x)[j]?
  | [], _, _, _, h, _ => by simp at h
  | y :: r, 0, j, x, h, hj => by
    simp at h
    subst h
    rw [List.flatMap_cons, Nat.zero_mul, Nat.zero_add, List.getElem?_append_left (by simp [RI.cells]; omega)]
  | y :: r, i + 1, j, x, h, hj => by
    rw [List.flatMap_cons, List.getElem?_append_right (by simp [RI.cells]; omega)]
    have e : (i + 1) * 4 + j - (RI.cells y).length = i * 4 + j := by simp [RI.cells]; omega
    rw [e]
    exact riC_get r i j x (by simpa using h) hj
theorem RowsI.open {w : World} {v : Value} {l : List RI} (h : RowsI w v l) : ∃ a cap, v = .slice a l.length cap ∧ ∀ i x, l[i]? = some x → ∃ b o, a = some ⟨b, o, none⟩ ∧
    w.cell? ⟨b, o + i * 4, none⟩ = some (.string x.path) ∧ w.cell? ⟨b, o + i * 4 + 1, none⟩ = some (.int .i64 x.a) ∧ w.cell? ⟨b, o + i * 4 + 2, none⟩ = some (.int .i64 x.b) ∧ w.cell? ⟨b, o + i * 4 + 3, none⟩ = some (.int .i64 x.c) := by
  obtain ⟨⟨-, -, a, cap, hv, -, -, -, hc⟩, -⟩ := h
  refine ⟨a, cap, hv, fun i x hx => ?_⟩
  obtain ⟨b, o, ha, c0⟩ := hc (i * 4 + 0) _ ((riC_get l i 0 x hx (by decide)).trans rfl)
  obtain ⟨b1, o1, ha1, c1⟩ := hc (i * 4 + 1) _ ((riC_get l i 1 x hx (by decide)).trans rfl)
  obtain ⟨b2, o2, ha2, c2⟩ := hc (i * 4 + 2) _ ((riC_get l i 2 x hx (by decide)).trans rfl)
  obtain ⟨b3, o3, ha3, c3⟩ := hc (i * 4 + 3) _ ((riC_get l i 3 x hx (by decide)).trans rfl)
  rw [ha] at ha1 ha2 ha3
  cases ha1
  cases ha2
  cases ha3
  exact ⟨b, o, ha, by simpa using c0, by rw [Nat.add_assoc]; exact c1, by rw [Nat.add_assoc]; exact c2, by rw [Nat.add_assoc]; exact c3⟩
theorem RowsI.below {w w' : World} {v : Value} {l : List RI} (h : RowsI w v l) (hb : Below w.heap.size w w') : RowsI w' v l := ⟨Seg.keep h.1 (below_keeps hb), h.2⟩
theorem conv_cells {x : RI} (h : goodR x) : srC (convR x) = x.cells := by
  obtain ⟨-, -, -, -, h1, h2, h3⟩ := h
  unfold srC convR RI.cells
  simp only
  rw [Int.toNat_of_nonneg h1, Int.toNat_of_nonneg h2, Int.toNat_of_nonneg h3]
theorem RowsI.seg {w : World} {v : Value} {l : List RI} (h : RowsI w v l) (hg : ∀ x ∈ l, goodR x) : SegR w v (l.map convR) := by
  unfold SegR
  rw [List.length_map, List.flatMap_map]
  have : (l.flatMap fun x => srC (convR x)) = l.flatMap RI.cells := flatMap_congr' fun x hx => conv_cells (hg x hx)
  rw [this]
  exact h.1
end Go.Proofs.Ytphkmpnahnakaaa
