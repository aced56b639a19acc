/- Reading slices of ints and of ways from an argument's data. -/
import Derived.Test.YtmngpfnjomhhcaaDoorZ08
import Derived.Test.YtmngpfnjomhhcaaDoorZ12
namespace Go.Proofs.YtmngpfnjomhhcaaDoor
open Go.RowKit Go.Deep
theorem cells_int1 : Tryd.prog.cellsOf 3 = 1 := by kernel_rfl
theorem bytes_int : Tryd.prog.bytesOf 3 = 8 := by kernel_rfl
theorem cells_ints : Tryd.prog.cellsOf 23 = 1 := by kernel_rfl
theorem bytes_ints : Tryd.prog.bytesOf 23 = 24 := by kernel_rfl
theorem sum_ones' : ∀ n : Nat, ((List.range n).map fun _ => 1).sum = n
  | 0 => rfl
  | n + 1 => by rw [List.range_succ, List.map_append, List.sum_append, sum_ones' n]; simp
theorem ints_of_trod {H : Type} {enc : TypeId × Value → H} {w : World} {v : Value} {d : DataW H} {p : List MemPlace} (hv : ∃ a n c, v = .slice a n c) (h : DataW.Trod enc Tryd.prog w 0 (fun _ => true) true 23 v d p) (hL : Light Tryd.prog 23 d) :
    ∃ l, IntsAt w v l ∧ l.length + 1 ≤ Rows.uptoBulk d := by
  obtain ⟨n, fuel, css, D, Pl, hs, hel, hd⟩ := seg_of_trod2 Tryd.underlying23 cells_int1 (by rw [bytes_int]; omega) hv h hL
  obtain ⟨c, hc⟩ := choose_lt (α := Int) (n := n) (p := fun i c => css i = [intV c] ∧ i64ok c) (fun i hi => by
    obtain ⟨h1, h2, -⟩ := hel i hi
    obtain ⟨z, hz, -, wz⟩ := DataW.trod_int Tryd.underlying3 h2
    have hb : -9223372036854775808 ≤ z ∧ z ≤ 9223372036854775807 := by simpa [Lit.wf, IntKind.min, IntKind.max, IntKind.signed, IntKind.bits] using wz
    exact ⟨z, hz, hb⟩)
  refine ⟨(List.range n).map c, ⟨?_, ?_⟩, ?_⟩
  · rw [List.length_map, List.length_range, List.map_map, ← flat_one n css (intV ∘ c) (fun i hi => (hc i hi).1)]
    exact hs
  · intro t ht
    obtain ⟨i, hi, rfl⟩ := List.mem_map.1 ht
    exact (hc i (List.mem_range.1 hi)).2
  · have := bulk_elems (f := fun _ => 1) hd fun i _ => bulk_one _
    rw [sum_ones'] at this
    simpa using this
theorem ways_of_trod {H : Type} {enc : TypeId × Value → H} {w : World} {v : Value} {d : DataW H} {p : List MemPlace} (hv : ∃ a n c, v = .slice a n c) (h : DataW.Trod enc Tryd.prog w 0 (fun _ => true) true 22 v d p) (hL : Light Tryd.prog 22 d) :
    ∃ ls, WaysAt w v ls ∧ (ls.map fun l => l.length + 1).sum + 1 ≤ Rows.uptoBulk d := by
  refine rows_of_trod WayP (fun l => l.length + 1) under_ways cells_ints (by rw [bytes_ints]; omega) hv h hL (Rows.uptoBulk d) (by omega) ?_
  intro fuel cs d' p' hx hl _
  obtain ⟨u, rfl⟩ : ∃ u, cs = [u] := by
    rcases open_slice under_ints hx with ⟨hcs, -⟩ | ⟨a, len, cap, m, n, D, Pl, hcs, -⟩
    · exact ⟨_, hcs⟩
    · exact ⟨_, hcs⟩
  obtain ⟨a, n, c, rfl⟩ := trod_slice_form under_ints hx
  obtain ⟨l, h1, h2⟩ := ints_of_trod ⟨a, n, c, rfl⟩ ⟨fuel, hx⟩ hl
  exact ⟨l, ⟨_, rfl, h1⟩, h2⟩
theorem sum_light : ∀ (ls : List (List Int)), ls.length ≤ (ls.map fun l => l.length + 1).sum ∧ ∀ l ∈ ls, l.length ≤ (ls.map fun l => l.length + 1).sum
  | [] => by simp
  | x :: r => by
    obtain ⟨h1, h2⟩ := sum_light r
    refine ⟨by simp; omega, fun l hl => ?_⟩
    rw [List.map_cons, List.sum_cons]
    rcases List.mem_cons.1 hl with e | hl
    · rw [e]; omega
    · have := h2 l hl; omega
theorem light_of_bulk {ls : List (List Int)} (h : (ls.map fun l => l.length + 1).sum ≤ 1048576) : LightW ls := by
  obtain ⟨h1, h2⟩ := sum_light ls
  exact ⟨by omega, fun l hl => by have := h2 l hl; omega⟩
end Go.Proofs.YtmngpfnjomhhcaaDoor
