/- Reading a list of strings from an argument's data; its weight is at most the reading's bulk. Reading a schema from an argument's data. Reading bytes and slices of bytes from an argument's data. From the form's reading of an argument to this seat's words: tree.Msg, tree.Value, []string, []uint64; their weight is at most the reading's bulk. Reading slices of ints and of ways from an argument's data. -/
import Derived.Test.YtaefpjecalnbcaaGreatRows
import Derived.Test.YtaefpjecalnbcaaGreatZ03
import Derived.Test.YtaefpjecalnbcaaGreatZ09
import Derived.Test.YtaefpjecalnbcaaGreatZ11
import Derived.Test.YtaefpjecalnbcaaGreatZ26
import Derived.Deep.Slices
import Derived.SizedLaws
import Derived.ProofKit
namespace Go.Proofs.YtaefpjecalnbcaaGreat
open Go.RowKit Go.Deep
/-- every part of a datum is within the form's reach -/
def Light {H : Type} (P : Program) (t : TypeId) (d : DataW H) : Prop := ∀ n ∈ d.weights P t, n ≤ reachBytes
theorem light_slice {H : Type} {P : Program} {t e : TypeId} (ht : P.underlying t = some (.slice e)) {es sp : List (DataW H)} (h : Light P t (.slice es sp)) :
    (es.length + sp.length) * P.bytesOf e ≤ reachBytes ∧ (∀ d ∈ es, Light P e d) ∧ (∀ d ∈ sp, Light P e d) := by
  have all : ∀ (l : List (DataW H)) (d : DataW H), d ∈ l → ∀ n ∈ d.weights P e, n ∈ DataW.weightsAll P e l := by
    intro l
    induction l with
    | nil => intro d hd; simp at hd
    | cons x r ih =>
      intro d hd n hn
      rw [DataW.weightsAll]
      rcases List.mem_cons.1 hd with rfl | hd
      · exact List.mem_append_left _ hn
      · exact List.mem_append_right _ (ih d hd n hn)
  refine ⟨h _ (by simp [DataW.weights, ht]), fun d hd n hn => h n ?_, fun d hd n hn => h n ?_⟩
  · simp only [DataW.weights, ht]
    exact List.mem_cons_of_mem _ (List.mem_append_left _ (all _ d hd n hn))
  · simp only [DataW.weights, ht]
    exact List.mem_cons_of_mem _ (List.mem_append_right _ (all _ d hd n hn))
theorem light_struct {H : Type} {P : Program} {t : TypeId} {fs : Array Field} (ht : P.underlying t = some (.struct fs)) {ds : List (DataW H)} (h : Light P t (.agg ds)) :
    ∀ (i : Nat) (f : Field) (d : DataW H), fs[i]? = some f → ds[i]? = some d → Light P f.type d := by
  have each : ∀ (ts : List TypeId) (l : List (DataW H)) (i : Nat) (u : TypeId) (d : DataW H), ts[i]? = some u → l[i]? = some d → ∀ n ∈ d.weights P u, n ∈ DataW.weightsEach P ts l := by
    intro ts
    induction ts with
    | nil => intro l i u d hu; simp at hu
    | cons a r ih =>
      intro l i u d hu hd n hn
      cases l with
      | nil => simp at hd
      | cons x l =>
        rw [DataW.weightsEach]
        cases i with
        | zero => simp at hu hd; subst hu; subst hd; exact List.mem_append_left _ hn
        | succ i => exact List.mem_append_right _ (ih l i u d (by simpa using hu) (by simpa using hd) n hn)
  intro i f d hf hd n hn
  refine h n ?_
  simp only [DataW.weights, ht]
  exact each _ _ i f.type d (by simp; exact ⟨f, by simpa using hf, rfl⟩) hd n hn
theorem light_arg {H : Type} {P : Program} {ts : List TypeId} {ds : List (DataW H)} (h : (DataW.weightsEach P ts ds).all (· ≤ reachBytes) = true) {j : Nat} {t : TypeId} {d : DataW H} (ht : ts[j]? = some t) (hd : ds[j]? = some d) : Light P t d := by
  intro n hn
  have := List.all_eq_true.1 h _ (DataW.weights_mem_each ht hd n hn)
  simpa using this
theorem flat_one {α : Type} (n : Nat) (css : Nat → List α) (f : Nat → α) (h : ∀ i, i < n → css i = [f i]) : (List.range n).flatMap css = (List.range n).map f := by
  induction n with
  | zero => rfl
  | succ n ih =>
    rw [List.range_succ, List.flatMap_append, List.map_append, ih (fun i hi => h i (by omega))]
    simp [h n (by omega)]
theorem cells_str : Tryz.prog.cellsOf 9 = 1 := by kernel_rfl
/-- a slice of whatever elements, as cells -/
theorem seg_of_trod2 {H : Type} {enc : TypeId × Value → H} {P : Program} {w : World} {t e : TypeId} {size : Nat} (ht : P.underlying t = some (.slice e)) (hce : P.cellsOf e = size) (hbytes : 1 ≤ P.bytesOf e)
    {v : Value} {d : DataW H} {p : List MemPlace} (hv : ∃ a n c, v = .slice a n c) (h : DataW.Trod enc P w 0 (fun _ => true) true t v d p) (hL : Light P t d) :
    ∃ (n fuel : Nat) (css : Nat → List Value) (D : Nat → DataW H) (Pl : Nat → List MemPlace), Seg w v size n ((List.range n).flatMap css) ∧ (∀ i, i < n → (css i).length = size ∧ DataW.trod enc P w 0 (fun _ => true) true fuel e (css i) = some (D i, Pl i) ∧ Light P e (D i)) ∧ (d = .nil ∧ n = 0 ∨ ∃ sp, d = .slice ((List.range n).map D) sp) := by
  obtain ⟨a0, n0, c0, rfl⟩ := hv
  obtain ⟨fuel, h⟩ := h
  rcases open_slice ht h with ⟨hcs, hx⟩ | ⟨a, len, cap, m, n, D, Pl, hcs, -, hl, hm, hmm, hx, hel⟩
  · simp [Value.cells] at hcs
    obtain ⟨rfl, rfl, rfl⟩ := hcs
    exact ⟨0, 0, fun _ => [], fun _ => .nil, fun _ => [], ⟨by simp, by simp, none, 0, rfl, Nat.le_refl _, by omega, fun _ => rfl, fun j u hu => by simp at hu⟩, fun i hi => absurd hi (by omega), .inl ⟨by cases hx; rfl, rfl⟩⟩
  · simp [Value.cells] at hcs
    obtain ⟨rfl, rfl, rfl⟩ := hcs
    simp only [if_true] at hmm
    subst hmm
    simp only [Prod.mk.injEq] at hx
    obtain ⟨rfl, -⟩ := hx
    obtain ⟨hb, hle, -⟩ := light_slice ht hL
    simp only [List.length_map, List.length_range] at hb
    have hn47 : n0 ≤ 140737488355328 := by
      have h1 : reachBytes < 2 ^ 47 := reachBytes_lt
      have h2 : n0 * 1 ≤ (n0 + (m - n0)) * P.bytesOf e := Nat.mul_le_mul (by omega) hbytes
      omega
    obtain ⟨css, hcss⟩ := choose_lt (α := List Value) (n := n0) (p := fun i cs => w.cells? 0 (a.add (i * P.cellsOf e)) (P.cellsOf e) = some cs ∧ DataW.trod enc P w 0 (fun _ => true) true n e cs = some (D i, Pl i)) (fun i hi => hel i (by omega))
    have hlen : ∀ i, i < n0 → (css i).length = size := fun i hi => by rw [← hce]; exact (World.cells?_some (hcss i hi).1).2.1
    have flat : ∀ (k : Nat), k ≤ n0 → ((List.range k).flatMap css).length = k * size := by
      intro k
      induction k with
      | zero => intro _; simp
      | succ k ih =>
        intro hk
        rw [List.range_succ, List.flatMap_append, List.length_append, ih (by omega)]
        simp [hlen k (by omega), Nat.succ_mul]
    refine ⟨n0, n, css, D, Pl, ⟨flat n0 (Nat.le_refl _), hn47, some a, m, rfl, hl, by unfold maxLen at hm; omega, by simp, ?_⟩, fun i hi => ⟨hlen i hi, (hcss i hi).2, hle _ (List.mem_map.2 ⟨i, List.mem_range.2 hi, rfl⟩)⟩, .inr ⟨_, rfl⟩⟩
    intro j u hu
    -- the cell at place j lies in element j / size
    have get : ∀ (k : Nat), k ≤ n0 → ∀ j u, ((List.range k).flatMap css)[j]? = some u → ∃ i q, i < k ∧ q < size ∧ j = i * size + q ∧ (css i)[q]? = some u := by
      intro k
      induction k with
      | zero => intro _ j u hu; simp at hu
      | succ k ih =>
        intro hk j u hu
        rw [List.range_succ, List.flatMap_append] at hu
        by_cases hj : j < k * size
        · rw [List.getElem?_append_left (by rw [flat k (by omega)]; exact hj)] at hu
          obtain ⟨i, q, h1, h2, h3, h4⟩ := ih (by omega) j u hu
          exact ⟨i, q, by omega, h2, h3, h4⟩
        · rw [List.getElem?_append_right (by rw [flat k (by omega)]; omega), flat k (by omega)] at hu
          simp at hu
          have hq : j - k * size < size := by
            have := (List.getElem?_eq_some_iff.1 hu).1
            rw [hlen k (by omega)] at this; exact this
          exact ⟨k, j - k * size, by omega, hq, by omega, hu⟩
    obtain ⟨i, q, h1, h2, rfl, h4⟩ := get n0 (Nat.le_refl _) j u hu
    obtain ⟨-, -, hc⟩ := World.cells?_some (hcss i h1).1
    have hcell := hc q (by rw [hce]; exact h2)
    rw [h4, hce, add_add] at hcell
    have hspot : a.spot = none := by
      have h0 := (World.cells?_some (hcss 0 (by omega)).1).2.2 0 (by rw [hce]; omega)
      have h5 : (css 0)[0]? = some ((css 0)[0]'(by rw [hlen 0 (by omega)]; omega)) := List.getElem?_eq_getElem _
      rw [h5] at h0
      simpa [Addr.add] using World.cell?_spot h0
    obtain ⟨b, o, sp⟩ := a
    have : sp = none := hspot
    subst this
    rw [addr_add] at hcell
    exact ⟨b, o, rfl, hcell⟩
theorem bulk_one {H : Type} (d : DataW H) : 1 ≤ Rows.uptoBulk d := by
  cases d with
  | lit l => cases l <;> simp [Rows.uptoBulk]
  | nil => simp [Rows.uptoBulk]
  | ptr d => simp [Rows.uptoBulk]
  | slice elems spare => simp [Rows.uptoBulk]
  | agg parts => simp [Rows.uptoBulk]
  | iface t d => simp [Rows.uptoBulk]
  | map entries => simp [Rows.uptoBulk]
  | held h => simp [Rows.uptoBulk]
theorem bulkAll_sum {H : Type} : ∀ l : List (DataW H), Rows.uptoBulkAll l = (l.map Rows.uptoBulk).sum
  | [] => by simp [Rows.uptoBulkAll]
  | x :: r => by simp [Rows.uptoBulkAll, bulkAll_sum r]
theorem bulk_part {H : Type} {d : DataW H} {l : List (DataW H)} (h : d ∈ l) : Rows.uptoBulk d ≤ Rows.uptoBulkAll l := by
  rw [bulkAll_sum]; exact mem_sum_le _ l d h
theorem sum_range_le {f g : Nat → Nat} : ∀ n, (∀ i, i < n → f i ≤ g i) → ((List.range n).map f).sum ≤ ((List.range n).map g).sum
  | 0, _ => by simp
  | n + 1, h => by
    have h1 := sum_range_le n fun i hi => h i (by omega)
    have h2 := h n (by omega)
    rw [List.range_succ, List.map_append, List.map_append, List.sum_append, List.sum_append]
    simp
    omega
/-- the elements' weights, all together -/
theorem bulk_elems {H : Type} {n : Nat} {D : Nat → DataW H} {d : DataW H} {f : Nat → Nat} (hd : d = .nil ∧ n = 0 ∨ ∃ sp, d = .slice ((List.range n).map D) sp) (hf : ∀ i, i < n → f i ≤ Rows.uptoBulk (D i)) : ((List.range n).map f).sum + 1 ≤ Rows.uptoBulk d := by
  rcases hd with ⟨rfl, rfl⟩ | ⟨sp, rfl⟩
  · simp [Rows.uptoBulk]
  · have h := sum_range_le n hf
    simp only [Rows.uptoBulk, bulkAll_sum, List.map_map]
    have e : (List.range n).map (Rows.uptoBulk ∘ D) = (List.range n).map fun i => Rows.uptoBulk (D i) := rfl
    rw [e]
    omega
theorem bulk_elem {H : Type} {n : Nat} {D : Nat → DataW H} {d : DataW H} (hd : d = .nil ∧ n = 0 ∨ ∃ sp, d = .slice ((List.range n).map D) sp) {i : Nat} (hi : i < n) : Rows.uptoBulk (D i) + 1 ≤ Rows.uptoBulk d := by
  rcases hd with ⟨rfl, rfl⟩ | ⟨sp, rfl⟩
  · omega
  · have h := bulk_part (List.mem_map.2 ⟨i, List.mem_range.2 hi, rfl⟩ : D i ∈ (List.range n).map D)
    simp only [Rows.uptoBulk]
    omega
theorem bytes_str : Tryz.prog.bytesOf 9 = 16 := by kernel_rfl
theorem strs_of_trod {H : Type} {enc : TypeId × Value → H} {w : World} {v : Value} {d : DataW H} {p : List MemPlace} (hv : ∃ a n c, v = .slice a n c) (h : DataW.Trod enc Tryz.prog w 0 (fun _ => true) true 25 v d p) (hL : Light Tryz.prog 25 d) :
    ∃ l, StrsAt w v l ∧ twt l + 1 ≤ Rows.uptoBulk d := by
  obtain ⟨n, fuel, css, D, Pl, hs, hel, hd⟩ := seg_of_trod2 Tryz.underlying25 cells_str (by rw [bytes_str]; omega) hv h hL
  obtain ⟨c, hc⟩ := choose_lt (α := List UInt8) (n := n) (p := fun i c => css i = [strV c] ∧ c.length ≤ 140737488355328 ∧ 1 + c.length ≤ Rows.uptoBulk (D i)) (fun i hi => by
    obtain ⟨h1, h2, h3⟩ := hel i hi
    obtain ⟨s, hs, hx, -⟩ := DataW.trod_string Tryz.underlying9 h2
    simp only [Prod.mk.injEq] at hx
    have hlen : s.data.toList.length ≤ 140737488355328 := by
      have h4 := h3
      rw [hx.1] at h4
      have h5 := h4 s.data.toList.length (by simp [DataW.weights])
      have h6 : reachBytes < 2 ^ 47 := reachBytes_lt
      omega
    refine ⟨s.data.toList, ?_, hlen, ?_⟩
    · rw [hs]; simp [strV]
    · rw [hx.1]; simp [Rows.uptoBulk]; omega)
  refine ⟨(List.range n).map c, ⟨?_, ?_⟩, ?_⟩
  · rw [List.length_map, List.length_range, List.map_map, ← flat_one n css (strV ∘ c) (fun i hi => (hc i hi).1)]
    exact hs
  · intro t ht
    obtain ⟨i, hi, rfl⟩ := List.mem_map.1 ht
    exact (hc i (List.mem_range.1 hi)).2.1
  · have := bulk_elems (f := fun i => 1 + (c i).length) hd fun i hi => (hc i hi).2.2
    unfold twt
    rw [List.map_map]
    exact this
/-- a slice's value, of its cells -/
theorem trod_slice_form {H : Type} {enc : TypeId × Value → H} {P : Program} {w : World} {t e : TypeId} {fuel : Nat} {u : Value} {x : DataW H × List MemPlace} (ht : P.underlying t = some (.slice e)) (h : DataW.trod enc P w 0 (fun _ => true) true fuel t [u] = some x) : ∃ a n c, u = .slice a n c := by
  rcases open_slice ht h with ⟨hcs, -⟩ | ⟨a, len, cap, m, n, D, Pl, hcs, -⟩
  · exact ⟨_, _, _, by simpa using hcs⟩
  · exact ⟨_, _, _, by simpa using hcs⟩
/-- a slice of rows -/
theorem rows_of_trod {H α : Type} {enc : TypeId × Value → H} {w : World} {t e : TypeId} {k : Nat} (P : World → List Value → α → Prop) (wt : α → Nat) (ht : Tryz.prog.underlying t = some (.slice e)) (hce : Tryz.prog.cellsOf e = k) (hby : 1 ≤ Tryz.prog.bytesOf e)
    {v : Value} {d : DataW H} {p : List MemPlace} (hv : ∃ a n c, v = .slice a n c) (h : DataW.Trod enc Tryz.prog w 0 (fun _ => true) true t v d p) (hL : Light Tryz.prog t d) (B : Nat) (hB : Rows.uptoBulk d ≤ B + 1)
    (hel : ∀ (fuel : Nat) (cs : List Value) (d : DataW H) (p : List MemPlace), DataW.trod enc Tryz.prog w 0 (fun _ => true) true fuel e cs = some (d, p) → Light Tryz.prog e d → Rows.uptoBulk d ≤ B → ∃ x : α, P w cs x ∧ wt x ≤ Rows.uptoBulk d) :
    ∃ l : List α, RowsAt P k w v l ∧ (l.map wt).sum + 1 ≤ Rows.uptoBulk d := by
  obtain ⟨n, fuel, css, D, Pl, hs, hx, hd⟩ := seg_of_trod2 ht hce hby hv h hL
  have h1' : ∀ i, i < n → ∃ x : α, P w (css i) x ∧ wt x ≤ Rows.uptoBulk (D i) := fun i hi => by
    obtain ⟨h1, h2, h3⟩ := hx i hi
    exact hel fuel _ _ _ h2 h3 (by have := bulk_elem hd hi; omega)
  by_cases h0 : n = 0
  · subst h0
    refine ⟨[], ⟨[], rfl, by simp, by simpa using hs, by simp⟩, ?_⟩
    simpa using bulk_one d
  obtain ⟨x0, -⟩ := h1' 0 (by omega)
  haveI : Inhabited α := ⟨x0⟩
  obtain ⟨c, hc⟩ := choose_lt (α := α) (n := n) (p := fun i c => P w (css i) c ∧ wt c ≤ Rows.uptoBulk (D i)) (fun i hi => by
    obtain ⟨h1, h2, h3⟩ := hx i hi
    exact hel fuel _ _ _ h2 h3 (by have := bulk_elem hd hi; omega))
  refine ⟨(List.range n).map c, ⟨(List.range n).map css, by simp, ?_, ?_, ?_⟩, ?_⟩
  · intro r hr
    obtain ⟨i, hi, rfl⟩ := List.mem_map.1 hr
    exact (hx i (List.mem_range.1 hi)).1
  · rw [List.length_map, List.length_range, ← List.flatMap_def]
    exact hs
  · intro i r x hr hxx
    simp only [List.getElem?_map] at hr hxx
    rcases Nat.lt_or_ge i n with hi | hi
    · simp [hi] at hr hxx
      subst hr
      subst hxx
      exact (hc i hi).1
    · simp [hi] at hr
  · have := bulk_elems (f := fun i => wt (c i)) hd fun i hi => (hc i hi).2
    rw [List.map_map]
    exact this
end Go.Proofs.YtaefpjecalnbcaaGreat
namespace Go.Proofs.YtaefpjecalnbcaaGreat
open Go.RowKit Go.Deep
/-- a slice of whatever elements, as cells -/
theorem seg_of_trod {H : Type} {enc : TypeId × Value → H} {P : Program} {w : World} {t e : TypeId} {size : Nat} (ht : P.underlying t = some (.slice e)) (hce : P.cellsOf e = size) (hbytes : 1 ≤ P.bytesOf e)
    {v : Value} {d : DataW H} {p : List MemPlace} (hv : ∃ a n c, v = .slice a n c) (h : DataW.Trod enc P w 0 (fun _ => true) true t v d p) (hL : Light P t d) :
    ∃ (n fuel : Nat) (css : Nat → List Value) (D : Nat → DataW H) (Pl : Nat → List MemPlace), Seg w v size n ((List.range n).flatMap css) ∧ (∀ i, i < n → (css i).length = size ∧ DataW.trod enc P w 0 (fun _ => true) true fuel e (css i) = some (D i, Pl i) ∧ Light P e (D i)) := by
  obtain ⟨a0, n0, c0, rfl⟩ := hv
  obtain ⟨fuel, h⟩ := h
  rcases open_slice ht h with ⟨hcs, -⟩ | ⟨a, len, cap, m, n, D, Pl, hcs, -, hl, hm, hmm, hx, hel⟩
  · simp [Value.cells] at hcs
    obtain ⟨rfl, rfl, rfl⟩ := hcs
    exact ⟨0, 0, fun _ => [], fun _ => .nil, fun _ => [], ⟨by simp, by simp, none, 0, rfl, Nat.le_refl _, by omega, fun _ => rfl, fun j u hu => by simp at hu⟩, fun i hi => absurd hi (by omega)⟩
  · simp [Value.cells] at hcs
    obtain ⟨rfl, rfl, rfl⟩ := hcs
    simp only [if_true] at hmm
    subst hmm
    simp only [Prod.mk.injEq] at hx
    obtain ⟨rfl, -⟩ := hx
    obtain ⟨hb, hle, -⟩ := light_slice ht hL
    simp only [List.length_map, List.length_range] at hb
    have hn47 : n0 ≤ 140737488355328 := by
      have h1 : reachBytes < 2 ^ 47 := reachBytes_lt
      have h2 : n0 * 1 ≤ (n0 + (m - n0)) * P.bytesOf e := Nat.mul_le_mul (by omega) hbytes
      omega
    obtain ⟨css, hcss⟩ := choose_lt (α := List Value) (n := n0) (p := fun i cs => w.cells? 0 (a.add (i * P.cellsOf e)) (P.cellsOf e) = some cs ∧ DataW.trod enc P w 0 (fun _ => true) true n e cs = some (D i, Pl i)) (fun i hi => hel i (by omega))
    have hlen : ∀ i, i < n0 → (css i).length = size := fun i hi => by rw [← hce]; exact (World.cells?_some (hcss i hi).1).2.1
    have flat : ∀ (k : Nat), k ≤ n0 → ((List.range k).flatMap css).length = k * size := by
      intro k
      induction k with
      | zero => intro _; simp
      | succ k ih =>
        intro hk
        rw [List.range_succ, List.flatMap_append, List.length_append, ih (by omega)]
        simp [hlen k (by omega), Nat.succ_mul]
    refine ⟨n0, n, css, D, Pl, ⟨flat n0 (Nat.le_refl _), hn47, some a, m, rfl, hl, by unfold maxLen at hm; omega, by simp, ?_⟩, fun i hi => ⟨hlen i hi, (hcss i hi).2, hle _ (List.mem_map.2 ⟨i, List.mem_range.2 hi, rfl⟩)⟩⟩
    intro j u hu
    -- the cell at place j lies in element j / size
    have get : ∀ (k : Nat), k ≤ n0 → ∀ j u, ((List.range k).flatMap css)[j]? = some u → ∃ i q, i < k ∧ q < size ∧ j = i * size + q ∧ (css i)[q]? = some u := by
      intro k
      induction k with
      | zero => intro _ j u hu; simp at hu
      | succ k ih =>
        intro hk j u hu
        rw [List.range_succ, List.flatMap_append] at hu
        by_cases hj : j < k * size
        · rw [List.getElem?_append_left (by rw [flat k (by omega)]; exact hj)] at hu
          obtain ⟨i, q, h1, h2, h3, h4⟩ := ih (by omega) j u hu
          exact ⟨i, q, by omega, h2, h3, h4⟩
        · rw [List.getElem?_append_right (by rw [flat k (by omega)]; omega), flat k (by omega)] at hu
          simp at hu
          have hq : j - k * size < size := by
            have := (List.getElem?_eq_some_iff.1 hu).1
            rw [hlen k (by omega)] at this; exact this
          exact ⟨k, j - k * size, by omega, hq, by omega, hu⟩
    obtain ⟨i, q, h1, h2, rfl, h4⟩ := get n0 (Nat.le_refl _) j u hu
    obtain ⟨-, -, hc⟩ := World.cells?_some (hcss i h1).1
    have hcell := hc q (by rw [hce]; exact h2)
    rw [h4, hce, add_add] at hcell
    have hspot : a.spot = none := by
      have h0 := (World.cells?_some (hcss 0 (by omega)).1).2.2 0 (by rw [hce]; omega)
      have h5 : (css 0)[0]? = some ((css 0)[0]'(by rw [hlen 0 (by omega)]; omega)) := List.getElem?_eq_getElem _
      rw [h5] at h0
      simpa [Addr.add] using World.cell?_spot h0
    obtain ⟨b, o, sp⟩ := a
    have : sp = none := hspot
    subst this
    rw [addr_add] at hcell
    exact ⟨b, o, rfl, hcell⟩
theorem getD_range {α : Type} (n : Nat) (f : Nat → α) (z : α) (j : Nat) (hj : j < n) : ((List.range n).map f).getD j z = f j := by simp [List.getD, hj]
theorem flatMap_congr' {α β : Type} {l : List α} {f g : α → List β} (h : ∀ a ∈ l, f a = g a) : l.flatMap f = l.flatMap g := by
  induction l with
  | nil => rfl
  | cons a r ih =>
    rw [List.flatMap_cons, List.flatMap_cons, h a (by simp), ih fun x hx => h x (by simp [hx])]
theorem bytes_fld : Tryz.prog.bytesOf 59 = 48 := by kernel_rfl
theorem cells_fld : Tryz.prog.cellsOf 59 = 6 := by kernel_rfl
theorem bytes_mes : Tryz.prog.bytesOf 62 = 40 := by kernel_rfl
theorem cells_mes : Tryz.prog.cellsOf 62 = 2 := by kernel_rfl
theorem cells_int : Tryz.prog.cellsOf 3 = 1 := by kernel_rfl
theorem cells_bool : Tryz.prog.cellsOf 4 = 1 := by kernel_rfl
theorem cells_flds : Tryz.prog.cellsOf 60 = 1 := by kernel_rfl
theorem i64_bd {x : Int} (h : (Lit.int .i64 x).wf = true) : -9223372036854775808 ≤ x ∧ x ≤ 9223372036854775807 := by
  simpa [Lit.wf, IntKind.min, IntKind.max, IntKind.signed, IntKind.bits] using h
set_option maxRecDepth 100000 in
/-- the cells of a field -/
theorem fld_of_trod {H : Type} {enc : TypeId × Value → H} {w : World} {fuel : Nat} {cs : List Value} {d : DataW H} {p : List MemPlace} (h : DataW.trod enc Tryz.prog w 0 (fun _ => true) true fuel 59 cs = some (d, p)) (hL : Light Tryz.prog 59 d) :
    ∃ f : Fld, f.Ok ∧ cs = f.cells := by
  obtain ⟨xs, n, -, hx, hl, hlen, hf⟩ := DataW.trod_struct Tryz.underlying59 h
  simp only [Prod.mk.injEq] at hx
  obtain ⟨rfl, -⟩ := hx
  have hsub := light_struct Tryz.underlying59 hL
  rw [cells_fld] at hl
  match cs, hl, xs, hlen with
  | [c0, c1, c2, c3, c4, c5], _, [x0, x1, x2, x3, x4, x5], _ =>
    have g0 : DataW.trod enc Tryz.prog w 0 (fun _ => true) true n 9 [c0] = some x0 := by have := hf 0 _ rfl; simpa [cells_str] using this
    have g1 : DataW.trod enc Tryz.prog w 0 (fun _ => true) true n 3 [c1] = some x1 := by have := hf 1 _ rfl; simpa [cells_int] using this
    have g2 : DataW.trod enc Tryz.prog w 0 (fun _ => true) true n 3 [c2] = some x2 := by have := hf 2 _ rfl; simpa [cells_int] using this
    have g3 : DataW.trod enc Tryz.prog w 0 (fun _ => true) true n 4 [c3] = some x3 := by have := hf 3 _ rfl; simpa [cells_bool] using this
    have g4 : DataW.trod enc Tryz.prog w 0 (fun _ => true) true n 4 [c4] = some x4 := by have := hf 4 _ rfl; simpa [cells_bool] using this
    have g5 : DataW.trod enc Tryz.prog w 0 (fun _ => true) true n 3 [c5] = some x5 := by have := hf 5 _ rfl; simpa [cells_int] using this
    obtain ⟨s, e0, r0, -⟩ := DataW.trod_string Tryz.underlying9 g0
    obtain ⟨n1, e1, -, w1⟩ := DataW.trod_int Tryz.underlying3 g1
    obtain ⟨n2, e2, -, w2⟩ := DataW.trod_int Tryz.underlying3 g2
    obtain ⟨b3, e3, -⟩ := DataW.trod_bool Tryz.underlying4 g3
    obtain ⟨b4, e4, -⟩ := DataW.trod_bool Tryz.underlying4 g4
    obtain ⟨n5, e5, -, w5⟩ := DataW.trod_int Tryz.underlying3 g5
    have hs : s.size ≤ 140737488355328 := by
      have h1 := hsub 0 _ _ rfl rfl
      rw [r0] at h1
      have h2 := h1 s.data.toList.length (by simp [DataW.weights])
      have h3 : reachBytes < 2 ^ 47 := reachBytes_lt
      simp at h2
      have h4 : s.data.size = s.size := rfl
      omega
    simp only [List.cons.injEq, and_true] at e0 e1 e2 e3 e4 e5
    refine ⟨⟨s, n1, n2, b3, b4, n5⟩, ⟨hs, i64_bd w1, i64_bd w2, i64_bd w5⟩, ?_⟩
    simp [Fld.cells, e0, e1, e2, e3, e4, e5]
theorem fields_of_trod {H : Type} {enc : TypeId × Value → H} {w : World} {v : Value} {d : DataW H} {p : List MemPlace} (hv : ∃ a n c, v = .slice a n c) (h : DataW.Trod enc Tryz.prog w 0 (fun _ => true) true 60 v d p) (hL : Light Tryz.prog 60 d) :
    ∃ fs, FieldsAt w v fs := by
  obtain ⟨n, fuel, css, D, Pl, hs, hel⟩ := seg_of_trod Tryz.underlying60 cells_fld (by rw [bytes_fld]; omega) hv h hL
  haveI : Inhabited Fld := ⟨.zero⟩
  obtain ⟨f, hf⟩ := choose_lt (α := Fld) (n := n) (p := fun i f => f.Ok ∧ css i = f.cells) (fun i hi => by
    obtain ⟨h1, h2, h3⟩ := hel i hi
    exact fld_of_trod h2 h3)
  refine ⟨(List.range n).map f, ?_, fun g hg => ?_⟩
  · rw [List.length_map, List.length_range]
    have : ((List.range n).map f).flatMap Fld.cells = (List.range n).flatMap css := by
      rw [List.flatMap_map]
      exact flatMap_congr' (fun i hi => ((hf i (List.mem_range.1 hi)).2).symm)
    rw [this]
    exact hs
  · obtain ⟨i, hi, rfl⟩ := List.mem_map.1 hg
    exact (hf i (List.mem_range.1 hi)).1
set_option maxRecDepth 100000 in
theorem schema_of_trod {H : Type} {enc : TypeId × Value → H} {w : World} {v : Value} {d : DataW H} {p : List MemPlace} (hv : ∃ a n c, v = .slice a n c) (h : DataW.Trod enc Tryz.prog w 0 (fun _ => true) true 23 v d p) (hL : Light Tryz.prog 23 d) :
    ∃ s, SchemaAt w v s := by
  obtain ⟨n, fuel, css, D, Pl, hs, hel⟩ := seg_of_trod Tryz.underlying23 cells_mes (by rw [bytes_mes]; omega) hv h hL
  haveI : Inhabited (Mes × Value) := ⟨(.zero, undef)⟩
  obtain ⟨m, hm⟩ := choose_lt (α := Mes × Value) (n := n) (p := fun i m => m.1.name.size ≤ 140737488355328 ∧ css i = mesCells m ∧ FieldsAt w m.2 m.1.fields) (fun i hi => by
    obtain ⟨h1, h2, h3⟩ := hel i hi
    obtain ⟨xs, k, -, hx, hl, hlen, hf⟩ := DataW.trod_struct Tryz.underlying62 h2
    simp only [Prod.mk.injEq] at hx
    obtain ⟨hx, -⟩ := hx
    rw [hx] at h3
    have hsub := light_struct Tryz.underlying62 h3
    match hcs : css i, h1, xs, hlen with
    | [c0, c1], _, [x0, x1], _ =>
      rw [hcs] at hf
      have g0 : DataW.trod enc Tryz.prog w 0 (fun _ => true) true k 9 [c0] = some x0 := by have := hf 0 _ rfl; simpa [cells_str] using this
      have g1 : DataW.trod enc Tryz.prog w 0 (fun _ => true) true k 60 [c1] = some x1 := by have := hf 1 _ rfl; simpa [cells_flds] using this
      obtain ⟨s, e0, r0, -⟩ := DataW.trod_string Tryz.underlying9 g0
      have hs : s.size ≤ 140737488355328 := by
        have h1 := hsub 0 _ _ rfl rfl
        rw [r0] at h1
        have h2 := h1 s.data.toList.length (by simp [DataW.weights])
        have h3 : reachBytes < 2 ^ 47 := reachBytes_lt
        simp at h2
        have h4 : s.data.size = s.size := rfl
        omega
      obtain ⟨a, q, c, rfl⟩ := trod_slice_form Tryz.underlying60 g1
      obtain ⟨fs, hfs⟩ := fields_of_trod ⟨a, q, c, rfl⟩ ⟨k, by simpa [Value.cells] using g1⟩ (hsub 1 _ _ rfl rfl)
      simp only [List.cons.injEq, and_true] at e0
      exact ⟨(⟨s, fs⟩, .slice a q c), hs, by simp [mesCells, e0], hfs⟩)
  refine ⟨(List.range n).map fun i => (m i).1, (List.range n).map fun i => (m i).2, by simp, ?_, fun x hx => ?_, fun i hi => ?_⟩
  · rw [List.length_map, List.length_range]
    have : (((List.range n).map fun i => (m i).1).zip ((List.range n).map fun i => (m i).2)).flatMap mesCells = (List.range n).flatMap css := by
      rw [List.zip_map', List.flatMap_map]
      exact flatMap_congr' (fun i hi => ((hm i (List.mem_range.1 hi)).2.1).symm)
    rw [this]
    exact hs
  · obtain ⟨i, hi, rfl⟩ := List.mem_map.1 hx
    exact (hm i (List.mem_range.1 hi)).1
  · rw [List.length_map, List.length_range] at hi
    rw [getD_range n _ undef i hi, getD_range n _ Mes.zero i hi]
    exact (hm i hi).2.2
end Go.Proofs.YtaefpjecalnbcaaGreat
namespace Go.Proofs.YtaefpjecalnbcaaGreat
open Go.RowKit Go.Deep
end Go.Proofs.YtaefpjecalnbcaaGreat
namespace Go.Proofs.YtaefpjecalnbcaaGreat
open Go.RowKit Go.Deep
theorem bytes_u64 : Tryz.prog.bytesOf 63 = 8 := by kernel_rfl
theorem cells_u64 : Tryz.prog.cellsOf 63 = 1 := by kernel_rfl
theorem bytes_msg : Tryz.prog.bytesOf 27 = 48 := by kernel_rfl
theorem cells_msg : Tryz.prog.cellsOf 27 = 2 := by kernel_rfl
theorem bytes_val : Tryz.prog.bytesOf 67 = 80 := by kernel_rfl
theorem cells_val : Tryz.prog.cellsOf 67 = 4 := by kernel_rfl
theorem cells_strs : Tryz.prog.cellsOf 25 = 1 := by kernel_rfl
theorem cells_words : Tryz.prog.cellsOf 64 = 1 := by kernel_rfl
theorem cells_msgs : Tryz.prog.cellsOf 65 = 1 := by kernel_rfl
theorem cells_vals : Tryz.prog.cellsOf 24 = 1 := by kernel_rfl
theorem sum_ones : ∀ n : Nat, ((List.range n).map fun _ => 1).sum = n
  | 0 => rfl
  | n + 1 => by rw [List.range_succ, List.map_append, List.sum_append, sum_ones n]; simp
theorem words_of_trod {H : Type} {enc : TypeId × Value → H} {w : World} {v : Value} {d : DataW H} {p : List MemPlace} (hv : ∃ a n c, v = .slice a n c) (h : DataW.Trod enc Tryz.prog w 0 (fun _ => true) true 64 v d p) (hL : Light Tryz.prog 64 d) :
    ∃ l, WordsAt w v l ∧ l.length + 1 ≤ Rows.uptoBulk d := by
  obtain ⟨n, fuel, css, D, Pl, hs, hel, hd⟩ := seg_of_trod2 Tryz.underlying64 cells_u64 (by rw [bytes_u64]; omega) hv h hL
  obtain ⟨c, hc⟩ := choose_lt (α := Nat) (n := n) (p := fun i c => css i = [wordV c] ∧ c < 2 ^ 64) (fun i hi => by
    obtain ⟨h1, h2, -⟩ := hel i hi
    obtain ⟨z, hz, -, wz⟩ := DataW.trod_int Tryz.underlying63 h2
    have hb : 0 ≤ z ∧ z ≤ 18446744073709551615 := by simpa [Lit.wf, IntKind.min, IntKind.max, IntKind.signed, IntKind.bits] using wz
    refine ⟨z.toNat, ?_, by omega⟩
    rw [hz]
    simp only [wordV]
    rw [show ((z.toNat : Nat) : Int) = z by omega])
  refine ⟨(List.range n).map c, ⟨?_, ?_⟩, ?_⟩
  · rw [List.length_map, List.length_range, List.map_map, ← flat_one n css (wordV ∘ c) (fun i hi => (hc i hi).1)]
    exact hs
  · intro t ht
    obtain ⟨i, hi, rfl⟩ := List.mem_map.1 ht
    exact (hc i (List.mem_range.1 hi)).2
  · have := bulk_elems (f := fun _ => 1) hd fun i _ => bulk_one _
    rw [sum_ones] at this
    simpa using this
def MsgRead {H : Type} (enc : TypeId × Value → H) (w : World) (N : Nat) : Prop := ∀ (fuel : Nat) (cs : List Value) (d : DataW H) (p : List MemPlace), DataW.trod enc Tryz.prog w 0 (fun _ => true) true fuel 27 cs = some (d, p) → Light Tryz.prog 27 d → Rows.uptoBulk d ≤ N →
  cs.length = 2 ∧ ∃ x : M N, MsgAt N w (.agg cs.toArray) x ∧ mwt N x ≤ Rows.uptoBulk d
def ValRead {H : Type} (enc : TypeId × Value → H) (w : World) (N : Nat) : Prop := ∀ (fuel : Nat) (cs : List Value) (d : DataW H) (p : List MemPlace), DataW.trod enc Tryz.prog w 0 (fun _ => true) true fuel 67 cs = some (d, p) → Light Tryz.prog 67 d → Rows.uptoBulk d ≤ N + 1 →
  cs.length = 4 ∧ ∃ x : Val (M N), ValAt (MsgAt N) w (.agg cs.toArray) x ∧ vwt (mwt N) x ≤ Rows.uptoBulk d
set_option maxRecDepth 100000 in
theorem val_read {H : Type} {enc : TypeId × Value → H} {w : World} {N : Nat} (ih : MsgRead enc w N) : ValRead enc w N := by
  intro fuel cs d p h hL hN
  obtain ⟨xs, n, -, hx, hl, hlen, hf⟩ := DataW.trod_struct Tryz.underlying67 h
  simp only [Prod.mk.injEq] at hx
  obtain ⟨rfl, -⟩ := hx
  have hsub := light_struct Tryz.underlying67 hL
  rw [cells_val] at hl
  match cs, hl, xs, hlen with
  | [c0, c1, c2, c3], _, [x0, x1, x2, x3], _ =>
    have g0 : DataW.trod enc Tryz.prog w 0 (fun _ => true) true n 3 [c0] = some x0 := by have := hf 0 _ rfl; simpa [cells_int] using this
    have g1 : DataW.trod enc Tryz.prog w 0 (fun _ => true) true n 64 [c1] = some x1 := by have := hf 1 _ rfl; simpa [cells_words] using this
    have g2 : DataW.trod enc Tryz.prog w 0 (fun _ => true) true n 25 [c2] = some x2 := by have := hf 2 _ rfl; simpa [cells_strs] using this
    have g3 : DataW.trod enc Tryz.prog w 0 (fun _ => true) true n 65 [c3] = some x3 := by have := hf 3 _ rfl; simpa [cells_msgs] using this
    obtain ⟨n0, e0, -, w0⟩ := DataW.trod_int Tryz.underlying3 g0
    obtain ⟨a1, m1, q1, rfl⟩ := trod_slice_form Tryz.underlying64 g1
    obtain ⟨a2, m2, q2, rfl⟩ := trod_slice_form Tryz.underlying25 g2
    obtain ⟨a3, m3, q3, rfl⟩ := trod_slice_form Tryz.underlying65 g3
    have hbk : Rows.uptoBulk (DataW.agg [x0.1, x1.1, x2.1, x3.1]) = Rows.uptoBulk x0.1 + (Rows.uptoBulk x1.1 + (Rows.uptoBulk x2.1 + (Rows.uptoBulk x3.1 + 0))) + 1 := by simp [Rows.uptoBulk, Rows.uptoBulkAll]
    simp only [List.map_cons, List.map_nil] at hN ⊢
    rw [hbk] at hN ⊢
    have o0 := bulk_one x0.1
    obtain ⟨ws, hws, bws⟩ := words_of_trod (d := x1.1) (p := x1.2) ⟨_, _, _, rfl⟩ ⟨n, by simpa [Value.cells] using g1⟩ (hsub 1 _ _ rfl rfl)
    obtain ⟨ts, hts, bts⟩ := strs_of_trod (d := x2.1) (p := x2.2) ⟨_, _, _, rfl⟩ ⟨n, by simpa [Value.cells] using g2⟩ (hsub 2 _ _ rfl rfl)
    obtain ⟨ss, hss, bss⟩ := rows_of_trod (d := x3.1) (p := x3.2) (fun w r x => MsgAt N w (.agg r.toArray) x) (mwt N) Tryz.underlying65 cells_msg (by rw [bytes_msg]; omega) ⟨_, _, _, rfl⟩ ⟨n, by simpa [Value.cells] using g3⟩ (hsub 3 _ _ rfl rfl) N (by omega)
      (fun fuel cs d p h hL hb => (ih fuel cs d p h hL hb).2)
    simp only [List.cons.injEq, and_true] at e0
    subst e0
    refine ⟨rfl, ⟨n0, ws, ts, ss⟩, ⟨_, _, _, rfl, i64_bd w0, hws, hts, hss⟩, ?_⟩
    show 1 + ws.length + twt ts + (ss.map (mwt N)).sum ≤ _
    omega
set_option maxRecDepth 100000 in
theorem msg_read {H : Type} {enc : TypeId × Value → H} {w : World} : ∀ N, MsgRead enc w N
  | 0 => fun _ _ d _ _ _ h => absurd (bulk_one d) (by omega)
  | N + 1 => by
    have ih := val_read (msg_read (enc := enc) (w := w) N)
    intro fuel cs d p h hL hN
    obtain ⟨xs, n, -, hx, hl, hlen, hf⟩ := DataW.trod_struct Tryz.underlying27 h
    simp only [Prod.mk.injEq] at hx
    obtain ⟨rfl, -⟩ := hx
    have hsub := light_struct Tryz.underlying27 hL
    rw [cells_msg] at hl
    match cs, hl, xs, hlen with
    | [c0, c1], _, [x0, x1], _ =>
      have g0 : DataW.trod enc Tryz.prog w 0 (fun _ => true) true n 24 [c0] = some x0 := by have := hf 0 _ rfl; simpa [cells_vals] using this
      have g1 : DataW.trod enc Tryz.prog w 0 (fun _ => true) true n 25 [c1] = some x1 := by have := hf 1 _ rfl; simpa [cells_strs] using this
      obtain ⟨a1, m1, q1, rfl⟩ := trod_slice_form Tryz.underlying24 g0
      obtain ⟨a2, m2, q2, rfl⟩ := trod_slice_form Tryz.underlying25 g1
      have hbk : Rows.uptoBulk (DataW.agg [x0.1, x1.1]) = Rows.uptoBulk x0.1 + (Rows.uptoBulk x1.1 + 0) + 1 := by simp [Rows.uptoBulk, Rows.uptoBulkAll]
      simp only [List.map_cons, List.map_nil] at hN ⊢
      rw [hbk] at hN ⊢
      have o1 := bulk_one x1.1
      obtain ⟨us, hus, bus⟩ := strs_of_trod (d := x1.1) (p := x1.2) ⟨_, _, _, rfl⟩ ⟨n, by simpa [Value.cells] using g1⟩ (hsub 1 _ _ rfl rfl)
      obtain ⟨vs, hvs, bvs⟩ := rows_of_trod (d := x0.1) (p := x0.2) (fun w r x => ValAt (MsgAt N) w (.agg r.toArray) x) (vwt (mwt N)) Tryz.underlying24 cells_val (by rw [bytes_val]; omega) ⟨_, _, _, rfl⟩ ⟨n, by simpa [Value.cells] using g0⟩ (hsub 0 _ _ rfl rfl) N (by omega)
        (fun fuel cs d p h hL hb => (ih fuel cs d p h hL (by omega)).2)
      refine ⟨rfl, (⟨vs, us⟩ : Msgd (M N)), ⟨_, _, rfl, hvs, hus⟩, ?_⟩
      show 1 + twt us + (vs.map (vwt (mwt N))).sum ≤ _
      omega
end Go.Proofs.YtaefpjecalnbcaaGreat
namespace Go.Proofs.YtaefpjecalnbcaaGreat
open Go.RowKit Go.Deep
theorem cells_int1 : Tryz.prog.cellsOf 3 = 1 := by kernel_rfl
theorem bytes_int : Tryz.prog.bytesOf 3 = 8 := by kernel_rfl
theorem cells_ints : Tryz.prog.cellsOf 68 = 1 := by kernel_rfl
theorem bytes_ints : Tryz.prog.bytesOf 68 = 24 := by kernel_rfl
theorem sum_ones' : ∀ n : Nat, ((List.range n).map fun _ => 1).sum = n
  | 0 => rfl
  | n + 1 => by rw [List.range_succ, List.map_append, List.sum_append, sum_ones' n]; simp
theorem ints_of_trod {H : Type} {enc : TypeId × Value → H} {w : World} {v : Value} {d : DataW H} {p : List MemPlace} (hv : ∃ a n c, v = .slice a n c) (h : DataW.Trod enc Tryz.prog w 0 (fun _ => true) true 68 v d p) (hL : Light Tryz.prog 68 d) :
    ∃ l, IntsAt w v l ∧ l.length + 1 ≤ Rows.uptoBulk d := by
  obtain ⟨n, fuel, css, D, Pl, hs, hel, hd⟩ := seg_of_trod2 Tryz.underlying68 cells_int1 (by rw [bytes_int]; omega) hv h hL
  obtain ⟨c, hc⟩ := choose_lt (α := Int) (n := n) (p := fun i c => css i = [intV c] ∧ i64ok c) (fun i hi => by
    obtain ⟨h1, h2, -⟩ := hel i hi
    obtain ⟨z, hz, -, wz⟩ := DataW.trod_int Tryz.underlying3 h2
    have hb : -9223372036854775808 ≤ z ∧ z ≤ 9223372036854775807 := by simpa [Lit.wf, IntKind.min, IntKind.max, IntKind.signed, IntKind.bits] using wz
    exact ⟨z, hz, hb⟩)
  refine ⟨(List.range n).map c, ⟨?_, ?_⟩, ?_⟩
  · rw [List.length_map, List.length_range, List.map_map, ← flat_one n css (intV ∘ c) (fun i hi => (hc i hi).1)]
    exact hs
  · intro t ht
    obtain ⟨i, hi, rfl⟩ := List.mem_map.1 ht
    exact (hc i (List.mem_range.1 hi)).2
  · have := bulk_elems (f := fun _ => 1) hd fun i _ => bulk_one _
    rw [sum_ones'] at this
    simpa using this
theorem ways_of_trod {H : Type} {enc : TypeId × Value → H} {w : World} {v : Value} {d : DataW H} {p : List MemPlace} (hv : ∃ a n c, v = .slice a n c) (h : DataW.Trod enc Tryz.prog w 0 (fun _ => true) true 28 v d p) (hL : Light Tryz.prog 28 d) :
    ∃ ls, WaysAt w v ls ∧ (ls.map fun l => l.length + 1).sum + 1 ≤ Rows.uptoBulk d := by
  refine rows_of_trod WayP (fun l => l.length + 1) under_ways cells_ints (by rw [bytes_ints]; omega) hv h hL (Rows.uptoBulk d) (by omega) ?_
  intro fuel cs d' p' hx hl _
  obtain ⟨u, rfl⟩ : ∃ u, cs = [u] := by
    rcases open_slice under_ints hx with ⟨hcs, -⟩ | ⟨a, len, cap, m, n, D, Pl, hcs, -⟩
    · exact ⟨_, hcs⟩
    · exact ⟨_, hcs⟩
  obtain ⟨a, n, c, rfl⟩ := trod_slice_form under_ints hx
  obtain ⟨l, h1, h2⟩ := ints_of_trod ⟨a, n, c, rfl⟩ ⟨fuel, hx⟩ hl
  exact ⟨l, ⟨_, rfl, h1⟩, h2⟩
theorem sum_light : ∀ (ls : List (List Int)), ls.length ≤ (ls.map fun l => l.length + 1).sum ∧ ∀ l ∈ ls, l.length ≤ (ls.map fun l => l.length + 1).sum
  | [] => by simp
  | x :: r => by
    obtain ⟨h1, h2⟩ := sum_light r
    refine ⟨by simp; omega, fun l hl => ?_⟩
    rw [List.map_cons, List.sum_cons]
    rcases List.mem_cons.1 hl with e | hl
    · rw [e]; omega
    · have := h2 l hl; omega
theorem light_of_bulk {ls : List (List Int)} (h : (ls.map fun l => l.length + 1).sum ≤ 1048576) : LightW ls := by
  obtain ⟨h1, h2⟩ := sum_light ls
  exact ⟨by omega, fun l hl => by have := h2 l hl; omega⟩
end Go.Proofs.YtaefpjecalnbcaaGreat
