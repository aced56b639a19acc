/- Parts of a proof: texts of the author, merged. No condition of their own. -/
import Derived.Test.YtbdeclkccchnoaaGreatZ05
import Derived.Test.YtbdeclkccchnoaaGreatZ07
import Derived.Test.YtbdeclkccchnoaaGreatZ08
import Derived.Test.YtbdeclkccchnoaaGreatZ10
import Derived.Test.YtbdeclkccchnoaaGreatZ11
import Derived.Test.YtbdeclkccchnoaaGreatZ12
import Derived.Lib.AppendZerosOnto
namespace Go.Proofs.YtbdeclkccchnoaaGreat
open Go.RowKit
theorem fault_num {n : Nat} {nm nu : Bool} {f : Fld} (h : fieldFault n nm nu f = 0) : nu = false ∧ numOk f.number = true := by
  unfold fieldFault at h
  by_cases h1 : nameOk f.name = false
  · rw [if_pos h1] at h; cases h
  rw [if_neg h1] at h
  cases nm with
  | true => simp at h
  | false =>
    rw [if_neg (by decide)] at h
    cases h2 : numOk f.number with
    | false => rw [if_pos h2] at h; cases h
    | true =>
      rw [if_neg (by rw [h2]; decide)] at h
      cases nu with
      | true => simp at h
      | false => exact ⟨rfl, rfl⟩
theorem fault_at {n : Nat} {fs : List Fld} : ∀ (k j : Nat), j = fs.length - k → fieldsFault n (fs.take k) (fs.drop k) k = none → ∀ i, k ≤ i → i < fs.length → numMet (fs.take i) (fs.getD i .zero).number = false ∧ numOk (fs.getD i .zero).number = true
  | k, 0, hj, _, i, h1, h2 => by omega
  | k, j + 1, hj, h, i, h1, h2 => by
    rw [fieldsFault_at n fs k (by omega)] at h
    by_cases hc : fieldFault n (nameMet (fs.take k) (fs.getD k .zero).name) (numMet (fs.take k) (fs.getD k .zero).number) (fs.getD k .zero) = 0
    · rw [if_pos hc] at h
      by_cases hik : i = k
      · subst hik; exact fault_num hc
      · exact fault_at (k + 1) j (by omega) h i (by omega) h2
    · rw [if_neg hc] at h; cases h
theorem schema_nums {s : List Mes} (h : sright s = true) (m : Nat) (hm : m < s.length) (i : Nat) (hi : i < (s.getD m .zero).fields.length) :
    numMet ((s.getD m .zero).fields.take i) ((s.getD m .zero).fields.getD i .zero).number = false ∧ numOk ((s.getD m .zero).fields.getD i .zero).number = true := by
  have h0 : (scheck s).2.2 = 0 := of_decide_eq_true h
  unfold scheck at h0
  by_cases h1 : s.length = 0 ∨ 100 < s.length
  · rw [if_pos h1] at h0; simp at h0
  rw [if_neg h1] at h0
  have hmem : s.getD m .zero ∈ s := by
    have : s.getD m .zero = s[m] := by simp [List.getD, hm]
    rw [this]; exact List.getElem_mem hm
  obtain ⟨h2, -, -⟩ := scheckGo_ok s [] 0 h0 _ hmem
  exact fault_at 0 _ rfl (by simpa using h2) i (by omega) hi
theorem firstAt_first (p : Fld → Bool) (fs : List Fld) (q : Nat) (hq : q < fs.length) (hp : p (fs.getD q .zero) = true) (hb : ∀ j, j < q → p (fs.getD j .zero) = false) :
    ∀ (j k : Nat), k + j = q → firstAt p (fs.drop k) k = (q : Int)
  | 0, k, h => by
    obtain rfl : k = q := by omega
    rw [firstAt_at p fs k hq, hp, if_pos rfl]
  | j + 1, k, h => by
    rw [firstAt_at p fs k (by omega), hb k (by omega), if_neg (by decide)]
    exact firstAt_first p fs q hq hp hb j (k + 1) (by omega)
structure Nums (fs : List Fld) : Prop where
  met : ∀ i, i < fs.length → numMet (fs.take i) (fs.getD i .zero).number = false
  pos : ∀ i, i < fs.length → 1 ≤ (fs.getD i .zero).number
theorem schema_Nums {s : List Mes} (h : sright s = true) (m : Nat) (hm : m < s.length) : Nums (s.getD m .zero).fields :=
  ⟨fun i hi => (schema_nums h m hm i hi).1, fun i hi => (of_decide_eq_true (schema_nums h m hm i hi).2).1⟩
theorem Nums.ne {fs : List Fld} (h : Nums fs) {i j : Nat} (hij : i < j) (hj : j < fs.length) : (fs.getD i .zero).number ≠ (fs.getD j .zero).number := by
  intro e
  have h1 := h.met j hj
  unfold numMet at h1
  rw [List.any_eq_false] at h1
  have hi : i < fs.length := by omega
  have h2 := h1 (fs.getD i .zero) (by
    have e2 : fs.getD i .zero = fs[i] := by simp [List.getD, hi]
    rw [e2]
    exact List.mem_take_iff_getElem.2 ⟨i, by omega, rfl⟩)
  exact h2 (decide_eq_true e)
theorem Nums.at {fs : List Fld} (h : Nums fs) {q : Nat} (hq : q < fs.length) : fieldAt fs (fs.getD q .zero).number = q := by
  have := firstAt_first (fun f => decide (f.number = (fs.getD q .zero).number)) fs q hq (decide_eq_true rfl) (fun j hj => decide_eq_false (h.ne hj hq)) q 0 (by omega)
  rw [List.drop_zero] at this
  exact this
theorem Nums.lt {fs : List Fld} (h : Nums fs) {i j : Int} (hi : 0 ≤ i ∧ i < fs.length) (hj : 0 ≤ j ∧ j < fs.length) (ha : Ahead fs i j) : numAt fs i < numAt fs j := by
  rcases ha with ha | ⟨h1, h2⟩
  · exact ha
  · exact absurd h1 (h.ne (i := i.toNat) (j := j.toNat) (by omega) (by omega))
theorem viewsOf_mem {all : List VW} {i : Int} {x : VW} (h : x ∈ viewsOf all i) : x ∈ all ∧ x.k = i := by
  unfold viewsOf at h
  rw [List.mem_filter] at h
  exact ⟨h.1, of_decide_eq_true h.2⟩
def SubOk (s : List Mes) (d : Nat) (o : Int) (b : List UInt8) : Prop := ∃ d', d = d' + 1 ∧ (vmsg s d' o.toNat b).2 = 0
theorem field_recs {s : List Mes} (hs : sright s = true) {d m : Nat} {l : List UInt8} (hm : m < s.length) (h : (vmsg s d m l).2 = 0) {q : Nat} (hq : q < (s.getD m .zero).fields.length) :
    FieldRecs (SubOk s d) ((s.getD m .zero).fields.getD q .zero) l (viewsOf (vall (s.getD m .zero).fields l).1 q) := by
  have hv := (vall_ok h).2
  have hf := sright_field hs m hm _ (getD_mem (s.getD m .zero).fields .zero hq)
  have hx : ∀ x ∈ viewsOf (vall (s.getD m .zero).fields l).1 q, ViewOk s d m l x ∧ x.k = q := fun x hx => ⟨hv x (viewsOf_mem hx).1, (viewsOf_mem hx).2⟩
  refine ⟨hf.1, fun x h1 h2 => ?_, fun h15 x h1 => (hx x h1).1.text (hx x h1).2 h15, fun h17 => ⟨fun x h1 => (hx x h1).1.sub (hx x h1).2 h17, fun _ hne => ?_⟩⟩
  · obtain ⟨-, -, -, h3⟩ := (hx x h1).1.facts
    rcases h3 with ⟨-, h3⟩ | ⟨k, h3, -, h4, -⟩
    · rw [h3] at h2; cases h2
    · have : k = q := by have := (hx x h1).2; omega
      subst this
      exact h4 h2
  · obtain ⟨x0, hx0⟩ := List.exists_mem_of_ne_nil _ hne
    obtain ⟨d', rfl, -⟩ := (hx x0 hx0).1.sub (hx x0 hx0).2 h17
    refine ⟨d', rfl, ?_⟩
    rw [List.flatMap_def]
    refine vmsg_flat fun b hb => ?_
    obtain ⟨x, hx1, rfl⟩ := List.mem_map.1 hb
    obtain ⟨d2, e2, h2⟩ := (hx x hx1).1.sub (hx x hx1).2 h17
    obtain rfl : d2 = d' := by omega
    exact h2
theorem of_range {s : List Mes} (hs : sright s = true) {m : Nat} (hm : m < s.length) {q : Nat} (hq : q < (s.getD m .zero).fields.length) :
    0 ≤ ((s.getD m .zero).fields.getD q .zero).of ∧ ((s.getD m .zero).fields.getD q .zero).of < s.length := by
  obtain ⟨-, h1, h2, -⟩ := sright_field hs m hm _ (getD_mem (s.getD m .zero).fields .zero hq)
  by_cases h17 : ((s.getD m .zero).fields.getD q .zero).kind = 17
  · exact h1 h17
  · have := h2 h17
    have := (sright_len hs).1
    omega
end Go.Proofs.YtbdeclkccchnoaaGreat
namespace Go.Proofs.YtbdeclkccchnoaaGreat
open Go.RowKit
def vsize (x : VW) : Nat := x.r.to - x.r.start
def vsum (l : List VW) : Nat := (l.map vsize).sum
def Thin (x : VW) : Prop := 1 + (x.r.to - x.r.at') ≤ vsize x
theorem vall_sum (fs : List Fld) (l : List UInt8) : ∀ (n i : Nat), i ≤ l.length → vsum (vallGo fs l n i).1 + i ≤ l.length ∧ ∀ x ∈ (vallGo fs l n i).1, Thin x
  | 0, i, hi => by simp [vallGo, vsum]; omega
  | n + 1, i, hi => by
    rw [vallGo]
    by_cases h : l.length ≤ i
    · rw [if_pos h]; simp [vsum]; omega
    rw [if_neg h]
    rcases vlook_cases fs l i with ⟨c, hc, e, -⟩ | ⟨r, h1, h2, h3, h4, -, hcase⟩
    · rw [e, if_pos hc]; simp [vsum]; omega
    · obtain ⟨k, run, e⟩ : ∃ k run, vlook fs l i = (r, k, run, 0) := by
        rcases hcase with e | ⟨k, run, -, e, -⟩
        · exact ⟨_, _, e⟩
        · exact ⟨_, _, e⟩
      rw [e, if_neg (by simp)]
      simp only
      obtain ⟨g1, g2⟩ := vall_sum fs l n r.to h4
      split
      · simp [vsum]; omega
      · refine ⟨?_, fun x hx => ?_⟩
        · unfold vsum at g1 ⊢
          rw [List.map_cons, List.sum_cons]
          have : vsize ⟨r, k, run⟩ = r.to - r.start := rfl
          omega
        · rcases List.mem_cons.1 hx with rfl | hx
          · unfold Thin vsize; simp only; omega
          · exact g2 x hx
theorem vsum_app (a b : List VW) : vsum (a ++ b) = vsum a + vsum b := by unfold vsum; rw [List.map_append, List.sum_append]
theorem vbytes_len (l : List UInt8) (x : VW) : (vbytes l x).length ≤ x.r.to - x.r.at' := by unfold vbytes part; rw [List.length_take]; omega
theorem flat_sum {α : Type} (g : VW → List α) (W : List α → Nat) (h0 : W [] = 0) (ha : ∀ a b, W (a ++ b) = W a + W b) : ∀ (xs : List VW), (∀ x ∈ xs, W (g x) ≤ vsize x) → W (xs.flatMap g) ≤ vsum xs
  | [], _ => by rw [List.flatMap_nil, h0]; exact Nat.zero_le _
  | x :: r, h => by
    have ih := flat_sum g W h0 ha r fun y hy => h y (by simp [hy])
    have h1 := h x (by simp)
    rw [List.flatMap_cons, ha]
    unfold vsum at ih ⊢
    rw [List.map_cons, List.sum_cons]
    omega
theorem piece_words {f : Fld} {l : List UInt8} {x : VW} (h : Thin x) : (pieceW f l x).length ≤ vsize x := by
  unfold Thin at h
  unfold pieceW
  split
  · unfold runWords
    split
    · have h1 := rpieces_len (kwire f.kind) _ (vbytes l x) (Nat.le_refl _)
      have h2 := vbytes_len l x
      simp only [kwords, List.length_map]
      omega
    · simp
  · split
    · simp; omega
    · simp
theorem sortedF_nodup (fs : List Fld) : (sortedF fs).Nodup := by
  have h := (sortF_ok fs fs.length).2
  refine List.Pairwise.imp (fun {a b} hab => ?_) h
  rintro rfl
  exact Ahead.asymm _ _ hab hab
end Go.Proofs.YtbdeclkccchnoaaGreat
namespace Go.Proofs.YtbdeclkccchnoaaGreat
open Go.RowKit
def StrsOwn (w : World) (base : Nat) (v : Value) (l : List (List UInt8)) : Prop := w.ownsRow base 9 1 v l.length (l.map strV)
theorem info_string : (Tryz.prog.info? 9).map (fun i => (i.zero, i.size, i.bytes)) = some (some (.string ⟨#[]⟩), 1, 16) := by kernel_rfl
theorem under_strl : Tryz.prog.underlying 25 = some (.slice 9) := Tryz.underlying25
theorem StrsOwn.form {w : World} {base : Nat} {v : Value} {l : List (List UInt8)} (h : StrsOwn w base v l) : ∃ a c, v = .slice a l.length c := by
  rcases h.2 with ⟨h1, h2⟩ | ⟨g, cap, cur, hv, -⟩
  · exact ⟨none, 0, by rw [h1, h2]⟩
  · exact ⟨_, _, hv⟩
theorem StrsOwn.strs {w : World} {base : Nat} {v : Value} {l : List (List UInt8)} (h : StrsOwn w base v l) (hn : l.length ≤ 140737488355328) (hl : ∀ t ∈ l, t.length ≤ 140737488355328) : StrsAt w v l :=
  ⟨row_seg h hn, hl⟩
theorem StrsOwn.one {W : World} {base : Nat} {v : Value} {l : List (List UInt8)} (h : StrsOwn W base v l) (t : List UInt8) (hn : l.length + 1 ≤ 1099511627777) (hB : base ≤ W.heap.size) :
    ∃ v' w', (Builtin.append_ #[25, 25] 25 #[v, .slice (some ⟨W.heap.size, 0, none⟩) 1 1]).run Tryz.prog (W.alloc (.cells #[strV t] 9)) = .ok v' w' ∧ StrsOwn w' base v' (l ++ [t]) ∧ W.grownBy w' v.ownBlock := by
  have hA : Below W.heap.size W (W.alloc (.cells #[strV t] 9)) := (Below.refl _ _).alloc (Nat.le_refl _) _
  have hx : Seg (W.alloc (.cells #[strV t] 9)) (.slice (some ⟨W.heap.size, 0, none⟩) 1 1) 1 1 [strV t] := seg_blk (Blk.new W [strV t] _) 1 1 rfl (by omega)
  have h' : (W.alloc (.cells #[strV t] 9)).ownsRow base 9 1 v l.length (l.map strV) := row_keep h fun b _ _ he => hA.block b (Array.getElem?_eq_some_iff.1 he).1
  obtain ⟨v', w', h1, h2, h3, -⟩ := seg_append (P := Tryz.prog) _ base 25 25 9 (.string ⟨#[]⟩) 1 16 under_strl info_string rfl (by decide) v _ l.length 1 _ _ h' hx (by intro u hu; simp at hu; subst hu; rfl) (by omega) (by omega) (by simp; omega)
  refine ⟨v', w', h1, ?_, ?_⟩
  · unfold StrsOwn
    rw [List.length_append, List.map_append]
    exact h2
  · exact ⟨h3.os, h3.tape, h3.output, Nat.le_trans (by simp) h3.size, fun k hk hr => (h3.block k (by simp; omega) hr).trans (Below.heap_alloc W _ k hk)⟩
end Go.Proofs.YtbdeclkccchnoaaGreat
namespace Go.Proofs.YtbdeclkccchnoaaGreat
open Go.RowKit Go.Shelf
abbrev noneS : Value := .slice none 0 0
theorem own_form {w : World} {base : Nat} {v : Value} {l : List UInt8} (h : Own w base v l) : ∃ a c, v = .slice a l.length c := by
  rcases h.2 with ⟨h1, h2⟩ | ⟨g, cap, cur, hv, -⟩
  · exact ⟨none, 0, by rw [h1, h2]⟩
  · exact ⟨_, _, hv⟩
theorem kread_lt (k : Int) (l : List UInt8) : (kread k l).1 < 2 ^ 64 := by
  unfold kread
  split
  · refine kcanon_lt k ?_
    split
    · rcases vread_cases l with ⟨x, n, e, -, -, -, hx⟩ | ⟨c, e, -⟩
      · rw [e]; exact hx
      · rw [e]; show 0 < _; decide
    · exact wordOf_lt l
  · show 0 < _; decide
theorem pieceW_lt {f : Fld} {l : List UInt8} {x : VW} {y : Nat} (h : y ∈ pieceW f l x) : y < 2 ^ 64 := by
  unfold pieceW at h
  split at h
  · unfold runWords at h
    split at h
    · unfold kwords at h
      obtain ⟨z, -, rfl⟩ := List.mem_map.1 h
      exact kread_lt _ _
    · simp at h
  · split at h
    · simp at h; subst h; exact kread_lt _ _
    · simp at h
theorem tsub_len (s : List Mes) (d : Nat) (o : Int) (b : List UInt8) : (tsub s d o b).length ≤ 1 := by cases d <;> simp [tsub]
theorem all_thin (fs : List Fld) (l : List UInt8) : ∀ x ∈ (vall fs l).1, Thin x := (vall_sum fs l l.length 0 (Nat.zero_le _)).2
theorem all_vsum (fs : List Fld) (l : List UInt8) : vsum (vall fs l).1 ≤ l.length := by have := (vall_sum fs l l.length 0 (Nat.zero_le _)).1; unfold vall; omega
theorem vsum_filter (p : VW → Bool) : ∀ (xs : List VW), vsum (xs.filter p) ≤ vsum xs
  | [] => by simp [vsum]
  | x :: r => by
    have := vsum_filter p r
    rw [List.filter_cons]
    unfold vsum at *
    split
    · rw [List.map_cons, List.sum_cons, List.map_cons, List.sum_cons]; omega
    · rw [List.map_cons, List.sum_cons]; omega
theorem part_views (fs : List Fld) (l : List UInt8) (k : Nat) (q : Int) : (∀ x ∈ viewsOf ((vall fs l).1.take k) q, Thin x) ∧ vsum (viewsOf ((vall fs l).1.take k) q) ≤ l.length := by
  refine ⟨fun x hx => all_thin fs l x (List.mem_of_mem_take (viewsOf_mem hx).1), ?_⟩
  have h1 := vsum_filter (fun x => decide (x.k = q)) ((vall fs l).1.take k)
  have h2 := all_vsum fs l
  have h3 : vsum ((vall fs l).1.take k) ≤ vsum (vall fs l).1 := by
    conv => rhs; rw [← List.take_append_drop k (vall fs l).1, vsum_app]
    omega
  unfold viewsOf
  omega
end Go.Proofs.YtbdeclkccchnoaaGreat
namespace Go.Proofs.YtbdeclkccchnoaaGreat
open Go.RowKit
theorem growB_zeros (w : World) (n : Nat) (h0 : 0 < n) (hn : n ≤ 2199023255552) (ty : TypeId) :
    ∃ G, n ≤ G ∧ G ≤ 9223372036854775807 ∧ (Builtin.append_ #[32, 3] ty #[.slice none 0 0, .int .i64 (n : Int)]).run Tryz.prog w = .ok (.slice (some ⟨w.heap.size, 0, none⟩) n G) (w.drew.alloc (.cells (Builtin.zeroCells #[.int .u8 0] n ++ Builtin.zeroCells #[.int .u8 0] (G - n)) 5)) ∧ G ≤ maxLen := by
  obtain ⟨i, hi, hz, hsize, hby⟩ := info_parts info_u8
  have h := Lib.run_append_grow_zeros w 32 3 ty 5 i (.int .u8 0) .i64 .i64 under_bytes Tryz.underlying3 hi hz none 0 0 [] (run_firstCells_none w.drew i.size 0 0 0) n h0 (by omega) (by omega) (by omega) (by rw [hby]; omega)
    (by rw [Nat.zero_add]; exact growslice_fits (by omega) (by rw [hby]; omega))
  rw [Nat.zero_add] at h
  have hm := grownCap_le_maxLen w n 0 5 (by unfold maxLen; omega)
  refine ⟨_, grownCap_ge w n 0 _, by have := hm; unfold maxLen at this; omega, ?_, hm⟩
  simp at h
  exact h
theorem sizeB_zero (z : Value) (n : Nat) : (Builtin.zeroCells #[z] n).size = n := by
  have := size_zeroCells #[z] n
  simpa using this
set_option maxRecDepth 100000 in
set_option maxHeartbeats 4000000 in
theorem grow_bytes (w : World) (n : Nat) (hn : n ≤ 2199023255552) :
    Calls Tryz.prog 105 #[.slice none 0 0, .int .i64 (n : Int)] w fun e w' => ∃ v', e = .returned v' ∧ w'.ownsRow w.heap.size 5 1 v' 0 [] ∧ Below w.heap.size w w' := by
  by_cases h0 : 0 < n
  · obtain ⟨G, h1, h2, h3, h4⟩ := growB_zeros w n h0 hn 32
    have hcut : ∀ W, (Instr.slice 32 (.slice (some ⟨w.heap.size, 0, none⟩) n G) none (some (.int .i64 0)) none).run Tryz.prog W = .ok (.slice (some ⟨w.heap.size, 0, none⟩) 0 G) W := by
      intro W
      have := slice_h_run (P := Tryz.prog) under_bytes size_u8 (some ⟨w.heap.size, 0, none⟩) n G 0 (by omega) W
      rw [show ((0 : Nat) : Int) = 0 from rfl] at this
      rw [this]
      unfold sliced
      by_cases hG : G = 0
      · omega
      · rw [if_neg hG]; rfl
    have hcut0 : ∀ W, (Instr.slice 32 (.slice none 0 0) none (some (.int .i64 0)) none).run Tryz.prog W = .ok (.slice none 0 0) W := by
      intro W
      have := slice_h_run (P := Tryz.prog) under_bytes size_u8 none 0 0 0 (by omega) W
      rw [show ((0 : Nat) : Int) = 0 from rfl] at this
      rw [this]; rfl
    have HOWN : Hid (World.ownsRow (w.drew.alloc (.cells (Builtin.zeroCells #[.int .u8 0] n ++ Builtin.zeroCells #[.int .u8 0] (G - n)) 5)) w.heap.size 5 1 (.slice (some ⟨w.heap.size, 0, none⟩) 0 G) 0 []) := by
      refine ⟨rfl, .inr ⟨w.heap.size, G, _, rfl, Nat.le_refl _, heap_alloc_new w.drew _, Nat.zero_le _, h4, ?_, by simp⟩⟩
      rw [Array.size_append, sizeB_zero, sizeB_zero]; omega
    clear h4
    go_enter Tryz.func105, Tryz.ntmps105
    go_wp2_with (at_builtin; refine wpList_append2_eq rfl _ _ _ _ rfl _ _ rfl rfl h3 ?_)
    go_ret
    exact ⟨_, rfl, HOWN.out, ((Below.refl _ _).drew).alloc (Nat.le_refl _) _⟩
  · obtain rfl : n = 0 := by omega
    go_enter Tryz.func105, Tryz.ntmps105
    go_wp2_with fail
    go_ret
    exact ⟨_, rfl, World.ownsRow_nil _ _ _ _, Below.refl _ _⟩
def PcsAt (w : World) (v : Value) (bs : List (List UInt8)) : Prop := ∃ vs : List Value, vs.length = bs.length ∧ Seg w v 1 bs.length vs ∧ ∀ (i : Nat) (u : Value) (t : List UInt8), vs[i]? = some u → bs[i]? = some t → Bytes w u t
theorem PcsAt.open {w : World} {v : Value} {bs : List (List UInt8)} (h : PcsAt w v bs) :
    bs.length ≤ 140737488355328 ∧ ∃ a cap, v = .slice a bs.length cap ∧ ∀ i t, bs[i]? = some t → ∃ b o u, a = some ⟨b, o, none⟩ ∧ w.cell? ⟨b, o + i, none⟩ = some u ∧ Bytes w u t := by
  obtain ⟨vs, h1, ⟨h2, h3, a, cap, hv, h4, h5, h6, h7⟩, h8⟩ := h
  refine ⟨h3, a, cap, hv, fun i t ht => ?_⟩
  have hi : i < vs.length := by have := (List.getElem?_eq_some_iff.1 ht).1; omega
  obtain ⟨b, o, e, hc⟩ := h7 i _ (List.getElem?_eq_getElem hi)
  exact ⟨b, o, _, e, hc, h8 i _ t (List.getElem?_eq_getElem hi) ht⟩
theorem flatten_take_le (bs : List (List UInt8)) (i : Nat) : (bs.take i).flatten.length ≤ bs.flatten.length := by
  conv => rhs; rw [← List.take_append_drop i bs, List.flatten_append, List.length_append]
  omega
theorem size_bytes (w : World) : (sizeOf 32).run Tryz.prog w = .ok 1 w := by kernel_rfl
theorem under_bytesl : Tryz.prog.underlying 96 = some (.slice 32) := Tryz.underlying96
set_option maxRecDepth 100000 in
set_option maxHeartbeats 4000000 in
theorem concat_bytes {w : World} {v : Value} {bs : List (List UInt8)} (h : PcsAt w v bs) (hl : bs.flatten.length ≤ 1099511627776) (hn : bs.length ≤ 1099511627776) :
    Calls Tryz.prog 72 #[v] w fun e w' => ∃ v', e = .returned v' ∧ Own w' w.heap.size v' bs.flatten ∧ Below w.heap.size w w' := by
  have H := hid h
  obtain ⟨-, a, cap, rfl, hat⟩ := h.open
  have HAT := hid hat
  obtain ⟨n, HN⟩ : ∃ n, Hid (n = bs.length) := ⟨_, rfl⟩
  rw [← HN.out] at H hn ⊢
  have HL := hid hl
  clear h hat
  go_enter Tryz.func72, Tryz.ntmps72
  go_wp2_with fail
  go_loopw [3, 11] (fun v3 v11 wr => ∃ i : Nat, v11 = .int .i64 (i : Int) ∧ v3 = .int .i64 ((bs.take i).flatten.length : Nat) ∧ i ≤ n ∧ wr = w) (fun _ v11 _ => n - (intOf v11).toNat)
  case atStart => exact ⟨0, rfl, rfl, by omega, rfl⟩
  case round =>
    obtain ⟨i, rfl, rfl, hi, rfl⟩ := hrel
    have hfl := flatten_take_le bs i
    by_cases hlt : i < n
    · obtain ⟨t, ht⟩ : ∃ t, bs[i]? = some t := ⟨_, List.getElem?_eq_getElem (by rw [← HN.out]; exact hlt)⟩
      obtain ⟨b, o, u, rfl, hc, hb⟩ := HAT.out i t ht
      obtain ⟨htl, ua, uc, rfl, -⟩ := hb.open
      have hst : (bs.take (i + 1)).flatten.length = (bs.take i).flatten.length + t.length := by
        rw [List.take_add_one, ht, List.flatten_append, List.length_append]; simp
      have hfl2 := flatten_take_le bs (i + 1)
      have HST := hid hst
      obtain ⟨z, HZ⟩ : ∃ z, Hid (z = (bs.take i).flatten.length) := ⟨_, rfl⟩
      obtain ⟨tn, HT⟩ : ∃ z, Hid (z = t.length) := ⟨_, rfl⟩
      rw [hst] at hfl2
      rw [← HZ.out] at hfl hfl2 ⊢
      rw [← HT.out] at htl hc hfl2
      have hz : z + tn ≤ 1099511627776 := by have := HL.out; omega
      clear hst hb ht
      go_wp2_with fail
      go_roundw
      case rel => exact ⟨i + 1, by go_num, by rw [HST.out, ← HZ.out, ← HT.out]; go_num, hlt, by first | rfl | trivial⟩
      case measure => simp [intOf]; omega
    · obtain rfl : i = n := by omega
      have htk : (bs.take i).flatten.length = bs.flatten.length := by rw [HN.out, List.take_length]
      obtain ⟨z, HZ⟩ : ∃ z, Hid (z = bs.flatten.length) := ⟨_, rfl⟩
      rw [htk, ← HZ.out] at hfl ⊢
      have HG := hid (grow_bytes wr z (by have := HL.out; have := HZ.out; omega))
      have HBB := hid HAT.out
      clear hfl htk
      go_wp2_with (refine HG.out.mono ?_; rintro e w1 ⟨v3, rfl, hO, hB⟩; obtain ⟨a3, n3, k3, rfl⟩ : ∃ a n c, v3 = .slice a n c := by (obtain ⟨-, -, a, c, e, -⟩ := row_seg hO (by omega); exact ⟨_, _, _, e⟩))
      have HO := hid hO
      have HB := hid hB
      clear hO hB
      go_loopw [6, 27] (fun v6 v27 wx => ∃ (j : Nat) (a5 : Option Addr) (n5 c5 : Nat), v27 = .int .i64 (j : Int) ∧ v6 = .slice a5 n5 c5 ∧ j ≤ i ∧ Hid (Own wx wr.heap.size (.slice a5 n5 c5) (bs.take j).flatten ∧ Below wr.heap.size wr wx)) (fun _ v27 _ => i - (intOf v27).toNat)
      case atStart => exact ⟨0, a3, n3, k3, rfl, rfl, by omega, HO.out, HB.out⟩
      case round =>
        obtain ⟨j, a5, n5, c5, rfl, rfl, hj, HJ⟩ := hrel
        by_cases hlt : j < i
        · obtain ⟨t, ht⟩ : ∃ t, bs[j]? = some t := ⟨_, List.getElem?_eq_getElem (by rw [← HN.out]; exact hlt)⟩
          obtain ⟨b, o, u, rfl, hc, hb⟩ := HAT.out j t ht
          have hst : (bs.take (j + 1)).flatten = (bs.take j).flatten ++ t := by
            rw [List.take_add_one, ht, List.flatten_append]; simp
          have hfl2 := flatten_take_le bs (j + 1)
          rw [hst, List.length_append] at hfl2
          have hc' := below_keeps HJ.out.2 _ _ hc
          obtain ⟨v7, w7, hr7, hO7, hg7, -⟩ := own_append HJ.out.1 (hb.below HJ.out.2) (by have := HL.out; omega) HJ.out.2.size
          obtain ⟨-, ua, uc, rfl, -⟩ := hb.open
          obtain ⟨a7, n7, k7, rfl⟩ : ∃ a n c, v7 = .slice a n c := by (obtain ⟨-, -, a, c, e, -⟩ := row_seg hO7 (by rw [List.length_append]; have := HL.out; omega); exact ⟨_, _, _, e⟩)
          have HO7 := hid hO7
          have HB7 := hid (own_grown HJ.out.1 HJ.out.2 hg7)
          have HST := hid hst
          have HR := hid hr7
          clear hO7 hg7 hr7 hst hb ht hfl2
          go_wp2_with (at_builtin; refine wpList_append_eq rfl _ _ _ rfl _ _ rfl rfl HR.out ?_)
          refine ⟨⟨j + 1, a7, n7, k7, by go_num, rfl, hlt, by rw [HST.out]; exact HO7.out, HB7.out⟩, by simp [intOf]; omega⟩
        · obtain rfl : j = i := by omega
          go_wp2_with fail
          go_ret
          refine ⟨_, rfl, ?_, HJ.out.2⟩
          have h9 := HJ.out.1
          rw [List.take_of_length_le (by rw [← HN.out]; exact Nat.le_refl _)] at h9
          exact h9
end Go.Proofs.YtbdeclkccchnoaaGreat
