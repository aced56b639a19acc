/- What the document's Read of a varint at a place returns: vread of the bytes from that place on. The place is no more than the bytes' number. What tag.Right, tag.Read and the document's Right and Read of tags return on any bytes: tread. No condition beyond that the argument reads as bytes. What record.size and record.Next return on any bytes: rsize, rnext. The place is a natural number. -/
import Derived.Test.YtbcpeckmnmhfhaaGreatZ01
namespace Go.Proofs.YtbcpeckmnmhfhaaGreat
open Go.RowKit
theorem index_at {P : Program} {t e : TypeId} (ht : P.underlying t = some (.slice e)) (hs : ∀ w : World, (sizeOf e).run P w = .ok 1 w) {a : Option Addr} {b o len cap : Nat} (ha : a = some ⟨b, o, none⟩) (i k : Nat) (hk : i + k < len) (w : World) :
    (Instr.indexAt t (.slice a len cap) (.int .i64 ((i : Int) + (k : Int)))).run P w = .ok (.pointer (some ⟨b, o + (i + k), none⟩)) w := by
  have := index_run1 ht hs ha (i + k) hk w (cap := cap)
  rwa [Int.natCast_add] at this
theorem getD_drop (l : List UInt8) (i k : Nat) : (l.drop i).getD k 0 = l.getD (i + k) 0 := by
  simp [List.getD, List.getElem?_drop]
theorem wrap_lt (x : Int) (h0 : 0 ≤ x) (h : x < 2 ^ 64) : IntKind.u64.wrap x = x := by rw [IntKind.wrap_u64]; omega
set_option maxRecDepth 100000 in
theorem ref02_Read {w : World} {v : Value} {l : List UInt8} (h : Bytes w v l) (i : Nat) (hi : i ≤ l.length) :
    Calls Tryz.prog 51 #[v, .int .i64 i] w fun e w' => e = .returned (.tuple #[.int .u64 (vread (l.drop i)).1, .int .i64 (vread (l.drop i)).2.1, .int .i64 (vread (l.drop i)).2.2]) ∧ w = w' := by
  obtain ⟨hlen, a, cap, rfl, -, -, -, hcell⟩ := h.open
  obtain ⟨n, HN⟩ : ∃ n, Hid (n = l.length) := ⟨_, rfl⟩
  rw [← HN.out] at hcell hlen hi ⊢
  go_enter Tryz.func51, Tryz.ntmps51
  go_wp2
  go_loop [7] (fun v7 => ∃ k : Nat, i + k ≤ n ∧ k ≤ 10 ∧ v7 = .int .i64 k ∧ Hid (∀ j, j < k → 128 ≤ ((l.drop i).getD j 0).toNat)) (fun v7 => n - (intOf v7).toNat)
  case atStart => exact ⟨0, by omega, by omega, rfl, fun j hj => absurd hj (by omega)⟩
  case round =>
    obtain ⟨k, hk, hk2, rfl, HA⟩ := hrel
    by_cases hlt : i + k < n
    · obtain ⟨b, o, ha, hc0⟩ := hcell (i + k) hlt
      have hix := index_at under_bytes size_u8 ha i k hlt (cap := cap)
      obtain ⟨c, HC⟩ : ∃ c, Hid (c = (l.getD (i + k) 0).toNat) := ⟨_, rfl⟩
      have hcb : c < 256 := by rw [HC.out]; exact (l.getD (i + k) 0).toNat_lt
      rw [← HC.out] at hc0
      have HC' : Hid (((l.drop i).getD k 0).toNat = c) := hid (by rw [getD_drop, HC.out])
      have HAA := hid ha
      have HL : Hid (k < (l.drop i).length) := hid (by rw [List.length_drop, ← HN.out]; omega)
      have HCL := hid hcell
      clear ha HC hcell
      have hne : ((i : Int) + (k : Int) == (n : Int)) = false := by simp; omega
      by_cases h10 : k = 10
      · subst h10
        go_wp2
        go_ret3
        have hv : vread (l.drop i) = (0, 0, 4) := vgo_over 9 (l.drop i) 0 0 (fun j hj => HA.out j (by omega)) (by omega) (by have := HL.out; omega) (by have := HA.out 9 (by omega); omega)
        rw [hv]
        exact ⟨rfl, rfl⟩
      · have hk10 : k < 10 := by omega
        have h10' : ((k : Int) == 10) = false := by simp; omega
        have H10 := hid h10
        clear h10
        by_cases hc128 : 128 ≤ c
        · go_wp2
          go_round
          case rel =>
            refine ⟨k + 1, by omega, by omega, by go_num, fun j hj => ?_⟩
            by_cases e : j = k
            · subst e; rw [HC'.out]; exact hc128
            · exact HA.out j (by omega)
          case measure => simp [intOf]; omega
        · by_cases h9 : k = 9 ∧ 1 < c
          · obtain ⟨h9, h9c⟩ := h9
            have h9' : ((k : Int) == 9) = true := by simp; omega
            have H9 := hid h9
            clear h9
            go_wp2
            go_ret3
            have hv : vread (l.drop i) = (0, 0, 4) := vgo_over k (l.drop i) 0 0 HA.out (by have := H9.out; omega) HL.out (by rw [HC'.out]; omega)
            rw [hv]
            exact ⟨rfl, rfl⟩
          · have hv : vread (l.drop i) = (0 + 128 ^ 0 * pieces (k + 1) (l.drop i), 0 + k + 1, 0) := vgo_run k 0 0 (l.drop i) HA.out (by omega) HL.out (by rw [HC'.out]; omega) (by rw [HC'.out]; omega)
            have hP : pieces (k + 1) (l.drop i) < 2 ^ 64 := by
              rcases vread_cases (l.drop i) with ⟨x, m, e, _, _, _, h5⟩ | ⟨x, e, h5⟩
              · rw [hv] at e; simp at e; omega
              · rw [hv] at e; simp at e
            obtain ⟨p, HPP⟩ : ∃ p, Hid (p = pieces (k + 1) (l.drop i)) := ⟨_, rfl⟩
            have HV : Hid (vread (l.drop i) = (p, k + 1, 0)) := by rw [hv, HPP.out]; simp [Hid]
            have HP := hid hP
            clear hP hv
            have hk9 : k ≤ 9 := by omega
            have hor : k < 9 ∨ k = 9 ∧ c ≤ 1 := by omega
            have HK9 := hid h9
            clear h9
            rcases hor with h9 | ⟨h9, hc1⟩
            · have h9' : ((k : Int) == 9) = false := by simp; omega
              go_wp2
              go_loop [8, 9] (fun v8 v9 => ∃ (m : Nat) (z : Int) (q : Nat), m ≤ k + 1 ∧ v9 = .int .i64 z ∧ v8 = .int .u64 q ∧ Hid (z = (m : Int) - 1 ∧ q = pieces (k + 1 - m) ((l.drop i).drop m))) (fun _ v9 => (intOf v9 + 1).toNat)
              case atStart => exact ⟨k + 1, k, 0, by omega, rfl, rfl, by omega, by simp [pieces]⟩
              case round =>
                obtain ⟨m, z, q, hm, rfl, rfl, HM⟩ := hrel
                cases m with
                | zero =>
                  obtain rfl : z = -1 := by have := HM.out.1; omega
                  go_wp2
                  go_ret3
                  rw [HV.out]
                  refine ⟨ret3 (int_eq ?_) (by go_num) rfl, rfl⟩
                  rw [HM.out.2, HPP.out]
                  simp
                | succ m =>
                  obtain rfl : z = (m : Int) := by have := HM.out.1; omega
                  have hcl := HCL.out
                  obtain ⟨b', o', ha', hc'⟩ := hcl (i + m) (by omega)
                  clear hcl
                  have hix' := index_at under_bytes size_u8 ha' i m (len := n) (by omega) (cap := cap)
                  obtain ⟨d, HD⟩ : ∃ d, Hid (d = (l.getD (i + m) 0).toNat) := ⟨_, rfl⟩
                  have hdb : d < 256 := by rw [HD.out]; exact (l.getD (i + m) 0).toNat_lt
                  rw [← HD.out] at hc'
                  have HAA' := hid ha'
                  clear ha'
                  have hstep : pieces (k + 1 - m) ((l.drop i).drop m) = 128 * q + d % 128 := by
                    have e : k + 1 - m = (k - m) + 1 := by omega
                    rw [e, pieces_step _ _ (by rw [List.length_drop]; have := HL.out; omega), HM.out.2, List.drop_drop, HD.out]
                    congr 2
                    · congr 1; omega
                    · rw [getD_drop, getD_drop]; simp
                  have hle : 128 * q + d % 128 < 2 ^ 64 := by
                    have := pieces_suffix m (k + 1) (l.drop i) (by omega)
                    rw [hstep] at this
                    have := HP.out
                    omega
                  have hw1 : IntKind.u64.wrap (128 * (q : Int)) = 128 * (q : Int) := wrap_lt _ (by omega) (by omega)
                  have hw2 : IntKind.u64.wrap (128 * (q : Int) + (d : Int) % 128) = ((128 * q + d % 128 : Nat) : Int) := by rw [wrap_lt _ (by omega) (by omega)]; omega
                  have HS := hid hstep
                  clear hstep hle
                  go_wp2
                  go_round
                  case rel => exact ⟨m, (m : Int) - 1, 128 * q + d % 128, by omega, rfl, by first | rfl | go_num, rfl, HS.out.symm⟩
                  case measure => simp [intOf]
            · have h9' : ((k : Int) == 9) = true := by simp; omega
              have H9 := hid h9
              clear h9
              go_wp2
              go_loop [8, 9] (fun v8 v9 => ∃ (m : Nat) (z : Int) (q : Nat), m ≤ k + 1 ∧ v9 = .int .i64 z ∧ v8 = .int .u64 q ∧ Hid (z = (m : Int) - 1 ∧ q = pieces (k + 1 - m) ((l.drop i).drop m))) (fun _ v9 => (intOf v9 + 1).toNat)
              case atStart => exact ⟨k + 1, k, 0, by omega, rfl, rfl, by omega, by simp [pieces]⟩
              case round =>
                obtain ⟨m, z, q, hm, rfl, rfl, HM⟩ := hrel
                cases m with
                | zero =>
                  obtain rfl : z = -1 := by have := HM.out.1; omega
                  go_wp2
                  go_ret3
                  rw [HV.out]
                  refine ⟨ret3 (int_eq ?_) (by go_num) rfl, rfl⟩
                  rw [HM.out.2, HPP.out]
                  simp
                | succ m =>
                  obtain rfl : z = (m : Int) := by have := HM.out.1; omega
                  have hcl := HCL.out
                  obtain ⟨b', o', ha', hc'⟩ := hcl (i + m) (by omega)
                  clear hcl
                  have hix' := index_at under_bytes size_u8 ha' i m (len := n) (by omega) (cap := cap)
                  obtain ⟨d, HD⟩ : ∃ d, Hid (d = (l.getD (i + m) 0).toNat) := ⟨_, rfl⟩
                  have hdb : d < 256 := by rw [HD.out]; exact (l.getD (i + m) 0).toNat_lt
                  rw [← HD.out] at hc'
                  have HAA' := hid ha'
                  clear ha'
                  have hstep : pieces (k + 1 - m) ((l.drop i).drop m) = 128 * q + d % 128 := by
                    have e : k + 1 - m = (k - m) + 1 := by omega
                    rw [e, pieces_step _ _ (by rw [List.length_drop]; have := HL.out; omega), HM.out.2, List.drop_drop, HD.out]
                    congr 2
                    · congr 1; omega
                    · rw [getD_drop, getD_drop]; simp
                  have hle : 128 * q + d % 128 < 2 ^ 64 := by
                    have := pieces_suffix m (k + 1) (l.drop i) (by omega)
                    rw [hstep] at this
                    have := HP.out
                    omega
                  have hw1 : IntKind.u64.wrap (128 * (q : Int)) = 128 * (q : Int) := wrap_lt _ (by omega) (by omega)
                  have hw2 : IntKind.u64.wrap (128 * (q : Int) + (d : Int) % 128) = ((128 * q + d % 128 : Nat) : Int) := by rw [wrap_lt _ (by omega) (by omega)]; omega
                  have HS := hid hstep
                  clear hstep hle
                  go_wp2
                  go_round
                  case rel => exact ⟨m, (m : Int) - 1, 128 * q + d % 128, by omega, rfl, by first | rfl | go_num, rfl, HS.out.symm⟩
                  case measure => simp [intOf]
    · have HL : Hid ((l.drop i).length = k) := hid (by rw [List.length_drop, ← HN.out]; omega)
      have hki : Hid (i + k = n) := hid (by omega)
      by_cases h10 : k = 10
      · subst h10
        go_wp2
        go_ret3
        have hv : vread (l.drop i) = (0, 0, 4) := vgo_over 9 (l.drop i) 0 0 (fun j hj => HA.out j (by omega)) (by omega) (by rw [HL.out]; omega) (by have := HA.out 9 (by omega); omega)
        rw [hv]
        exact ⟨rfl, rfl⟩
      · have h10' : ((k : Int) == 10) = false := by simp; omega
        have hne : ((i : Int) + (k : Int) == (n : Int)) = true := by have := hki.out; simp; omega
        have H10 := hid h10
        clear h10
        go_wp2
        go_ret3
        have hv : vread (l.drop i) = (0, 0, 3) := vgo_short (l.drop i) 0 0 (by rw [HL.out]; exact HA.out) (by rw [HL.out]; have := H10.out; omega)
        rw [hv]
        exact ⟨rfl, rfl⟩
end Go.Proofs.YtbcpeckmnmhfhaaGreat
namespace Go.Proofs.YtbcpeckmnmhfhaaGreat
open Go.RowKit
def tagOk (n w : Int) : Bool := decide (1 ≤ n ∧ n ≤ 536870911 ∧ (w = 0 ∨ w = 1 ∨ w = 2 ∨ w = 5))
/-- number, wire type, how many bytes, code -/
def tread (l : List UInt8) : Nat × Nat × Nat × Nat :=
  if (vread l).2.2 ≠ 0 then (0, 0, 0, (vread l).2.2) else
  if 536870911 < (vread l).1 / 8 ∨ tagOk ((vread l).1 / 8 : Nat) ((vread l).1 % 8 : Nat) = false then (0, 0, 0, 5) else ((vread l).1 / 8, (vread l).1 % 8, (vread l).2.1, 0)
theorem tread_cases (l : List UInt8) : (∃ x n, vread l = (x, n, 0) ∧ tread l = (x / 8, x % 8, n, 0) ∧ 0 < n ∧ n ≤ 10 ∧ n ≤ l.length ∧ x ≤ 4294967295 ∧ tagOk (x / 8 : Nat) (x % 8 : Nat) = true) ∨
    (∃ x n, vread l = (x, n, 0) ∧ tread l = (0, 0, 0, 5) ∧ x < 2 ^ 64 ∧ n ≤ 10 ∧ (4294967295 < x ∨ tagOk (x / 8 : Nat) (x % 8 : Nat) = false)) ∨ (∃ c, vread l = (0, 0, c) ∧ tread l = (0, 0, 0, c) ∧ (c = 3 ∨ c = 4)) := by
  rcases vread_cases l with ⟨x, n, e, h1, h2, h3, h4⟩ | ⟨c, e, h⟩
  · by_cases hx : 536870911 < x / 8 ∨ tagOk (x / 8 : Nat) (x % 8 : Nat) = false
    · refine .inr (.inl ⟨x, n, e, ?_, h4, h2, ?_⟩)
      · simp only [tread, e]
        rw [if_neg (by simp), if_pos hx]
      · rcases hx with hx | hx
        · exact .inl (by omega)
        · exact .inr hx
    · refine .inl ⟨x, n, e, ?_, h1, h2, h3, by omega, by
        cases h : tagOk (x / 8 : Nat) (x % 8 : Nat) with
        | true => rfl
        | false => exact absurd (.inr h) hx⟩
      simp only [tread, e]
      rw [if_neg (by simp), if_neg hx]
  · refine .inr (.inr ⟨c, e, ?_, h⟩)
    simp only [tread, e]
    rw [if_pos (by omega)]
set_option maxRecDepth 100000 in
theorem tag_Right (n x : Int) (hn : -9223372036854775808 ≤ n ∧ n ≤ 9223372036854775807) (w : World) :
    Calls Tryz.prog 118 #[.agg #[.int .i64 n, .int .i64 x]] w fun e w' => e = .returned (.bool (tagOk n x)) ∧ Below w.heap.size w w' := by
  by_cases h1 : 1 ≤ n
  · by_cases h2 : n ≤ 536870911
    · by_cases h3 : 0 ≤ x
      · by_cases h4 : x < 8
        · have H : Hid (tagOk n x = decide (x = 0 ∨ x = 1 ∨ x = 2 ∨ x = 5)) := by simp [Hid, tagOk, h1, h2]
          rcases (show x = 0 ∨ x = 1 ∨ x = 2 ∨ x = 3 ∨ x = 4 ∨ x = 5 ∨ x = 6 ∨ x = 7 by omega) with rfl | rfl | rfl | rfl | rfl | rfl | rfl | rfl
          all_goals
            go_enter Tryz.func118, Tryz.ntmps118
            go_wp2
            go_ret
            exact ⟨ret1 (by rw [H.out]; rfl), (Below.refl _ _).alloc (Nat.le_refl _) _⟩
        · have H : Hid (tagOk n x = false) := by simp [Hid, tagOk]; omega
          go_enter Tryz.func118, Tryz.ntmps118
          go_wp2
          go_ret
          exact ⟨ret1 (by rw [H.out]; rfl), (Below.refl _ _).alloc (Nat.le_refl _) _⟩
      · have H : Hid (tagOk n x = false) := by simp [Hid, tagOk]; omega
        go_enter Tryz.func118, Tryz.ntmps118
        go_wp2
        go_ret
        exact ⟨ret1 (by rw [H.out]; rfl), (Below.refl _ _).alloc (Nat.le_refl _) _⟩
    · have H : Hid (tagOk n x = false) := by simp [Hid, tagOk]; omega
      go_enter Tryz.func118, Tryz.ntmps118
      go_wp2
      go_ret
      exact ⟨ret1 (by rw [H.out]; rfl), (Below.refl _ _).alloc (Nat.le_refl _) _⟩
  · have H : Hid (tagOk n x = false) := by simp [Hid, tagOk]; omega
    go_enter Tryz.func118, Tryz.ntmps118
    go_wp2
    go_ret
    exact ⟨ret1 (by rw [H.out]; rfl), (Below.refl _ _).alloc (Nat.le_refl _) _⟩
set_option maxRecDepth 100000 in
theorem ref03_Right (n x : Int) (w : World) :
    Calls Tryz.prog 99 #[.int .i64 n, .int .i64 x] w fun e w' => e = .returned (.bool (tagOk n x)) ∧ w = w' := by
  by_cases h1 : 1 ≤ n
  · by_cases h2 : n ≤ 536870911
    · have H : Hid (tagOk n x = decide (x = 0 ∨ x = 1 ∨ x = 2 ∨ x = 5)) := by simp [Hid, tagOk, h1, h2]
      by_cases h : x = 0 ∨ x = 1 ∨ x = 2 ∨ x = 5
      · rcases h with rfl | rfl | rfl | rfl
        all_goals
          go_enter Tryz.func99, Tryz.ntmps99
          go_wp2
          go_ret
          exact ⟨ret1 (by rw [H.out]; rfl), rfl⟩
      · have e0 : (x == 0) = false := by simp; omega
        have e1 : (x == 1) = false := by simp; omega
        have e2 : (x == 2) = false := by simp; omega
        have e5 : (x == 5) = false := by simp; omega
        have HH := hid h
        clear h
        go_enter Tryz.func99, Tryz.ntmps99
        go_wp2
        go_ret
        exact ⟨ret1 (by rw [H.out]; simp [HH.out]), rfl⟩
    · have H : Hid (tagOk n x = false) := by simp [Hid, tagOk]; omega
      go_enter Tryz.func99, Tryz.ntmps99
      go_wp2
      go_ret
      exact ⟨ret1 (by rw [H.out]; rfl), rfl⟩
  · have H : Hid (tagOk n x = false) := by simp [Hid, tagOk]; omega
    go_enter Tryz.func99, Tryz.ntmps99
    go_wp2
    go_ret
    exact ⟨ret1 (by rw [H.out]; rfl), rfl⟩
set_option maxRecDepth 100000 in
theorem ref03_Read {w : World} {v : Value} {l : List UInt8} (h : Bytes w v l) (i : Nat) (hi : i ≤ l.length) :
    Calls Tryz.prog 83 #[v, .int .i64 i] w fun e w' => e = .returned (.tuple #[.int .i64 (tread (l.drop i)).1, .int .i64 (tread (l.drop i)).2.1, .int .i64 (tread (l.drop i)).2.2.1, .int .i64 (tread (l.drop i)).2.2.2]) ∧ w = w' := by
  rcases tread_cases (l.drop i) with ⟨x, n, e, et, h1, h2, h3, h4, h5⟩ | ⟨x, n, e, et, h1, h2, h3⟩ | ⟨c, e, et, h1⟩
  · have E := hid e
    have ET := hid et
    have H5 := hid h5
    clear e et h5 h3
    go_enter Tryz.func83, Tryz.ntmps83
    go_wp2_with fail
    refine (ref02_Read h i hi).mono ?_
    rintro e w' ⟨rfl, rfl⟩
    rw [E.out]
    go_wp2_with fail
    refine (ref03_Right _ _ _).mono ?_
    rintro e w' ⟨rfl, rfl⟩
    rw [show (x : Int) / 8 = ((x / 8 : Nat) : Int) from by omega, show (x : Int) % 8 = ((x % 8 : Nat) : Int) from by omega, H5.out]
    go_wp2
    refine bodyPost_ret (v := .tuple #[.int .i64 (x / 8 : Nat), .int .i64 (x % 8 : Nat), .int .i64 n, .int .i64 0]) ?_ rfl ?_
    · simp [results, Tryz.results83, go_sem]
    · rw [ET.out]
      exact ⟨rfl, rfl⟩
  · have E := hid e
    have ET := hid et
    clear e et
    go_enter Tryz.func83, Tryz.ntmps83
    go_wp2_with fail
    refine (ref02_Read h i hi).mono ?_
    rintro e w' ⟨rfl, rfl⟩
    rw [E.out]
    by_cases hx : 4294967295 < x
    · clear h3
      go_wp2
      refine bodyPost_ret (v := .tuple #[.int .i64 0, .int .i64 0, .int .i64 0, .int .i64 5]) ?_ rfl ?_
      · simp [results, Tryz.results83, go_sem]
      · rw [ET.out]
        exact ⟨rfl, rfl⟩
    · have H5 : Hid (tagOk (x / 8 : Nat) (x % 8 : Nat) = false) := hid (h3.resolve_left hx)
      clear h3
      go_wp2_with fail
      refine (ref03_Right _ _ _).mono ?_
      rintro e w' ⟨rfl, rfl⟩
      rw [show (x : Int) / 8 = ((x / 8 : Nat) : Int) from by omega, show (x : Int) % 8 = ((x % 8 : Nat) : Int) from by omega, H5.out]
      go_wp2
      refine bodyPost_ret (v := .tuple #[.int .i64 0, .int .i64 0, .int .i64 0, .int .i64 5]) ?_ rfl ?_
      · simp [results, Tryz.results83, go_sem]
      · rw [ET.out]
        exact ⟨rfl, rfl⟩
  · have E := hid e
    have ET := hid et
    have hc : ((c : Int) == 0) = false := by simp; omega
    clear e et h1
    go_enter Tryz.func83, Tryz.ntmps83
    go_wp2_with fail
    refine (ref02_Read h i hi).mono ?_
    rintro e w' ⟨rfl, rfl⟩
    rw [E.out]
    go_wp2
    refine bodyPost_ret (v := .tuple #[.int .i64 0, .int .i64 0, .int .i64 0, .int .i64 c]) ?_ rfl ?_
    · simp [results, Tryz.results83, go_sem]
    · rw [ET.out]
      exact ⟨rfl, rfl⟩
theorem and7 (x : Nat) (h : x < 2 ^ 64) : bits .and .u64 (x : Int) 7 = ((x % 8 : Nat) : Int) := by
  have := bits_and_u64_nat x 7 (by omega) (by omega)
  rw [show ((7 : Nat) : Int) = (7 : Int) from rfl] at this
  rw [this]
  congr 1
  exact Nat.and_two_pow_sub_one_eq_mod x 3
set_option maxRecDepth 100000 in
theorem tag_Read {w : World} {v : Value} {l : List UInt8} (h : Bytes w v l) :
    Calls Tryz.prog 104 #[v] w fun e w' => e = .returned (.tuple #[.agg #[.int .i64 (tread l).1, .int .i64 (tread l).2.1], .int .i64 (tread l).2.2.1, .int .u8 (tread l).2.2.2]) ∧ Below w.heap.size w w' := by
  rcases tread_cases l with ⟨x, n, e, et, h1, h2, h3, h4, h5⟩ | ⟨x, n, e, et, h1, h2, h3⟩ | ⟨c, e, et, h1⟩
  · have E := hid e
    have ET := hid et
    have H5 := hid h5
    have h7 := and7 x (by omega)
    clear e et h5 h3
    go_enter Tryz.func104, Tryz.ntmps104
    go_wp2_with fail
    refine (varint_Read (h.below ((Below.refl _ _).alloc (Nat.le_refl _) _))).mono ?_
    rintro e w' ⟨rfl, rfl⟩
    rw [E.out]
    go_wp2_with fail
    refine (tag_Right _ _ (by omega) _).mono ?_
    rintro e w1 ⟨rfl, hb⟩
    rw [show (x : Int) / 8 = ((x / 8 : Nat) : Int) from by omega, show (x : Int) % 8 = ((x % 8 : Nat) : Int) from by omega, H5.out]
    have c0 := below_keeps hb ⟨w.heap.size, 0, none⟩ (.int .i64 0) (by simp [go_sem])
    have c1 := below_keeps hb ⟨w.heap.size, 1, none⟩ (.int .i64 0) (by simp [go_sem])
    obtain ⟨hc, hf⟩ := bcell hb
    go_wp2
    refine bodyPost_ret (v := .tuple #[.agg #[.int .i64 (x / 8 : Nat), .int .i64 (x % 8 : Nat)], .int .i64 n, .int .u8 0]) ?_ rfl ?_
    · simp [results, Tryz.results104, go_sem, c0, c1]
    · rw [ET.out]
      refine ⟨rfl, ?_⟩
      exact ((((Below.refl _ _).alloc (Nat.le_refl _) _).alloc (by simp) _).trans (hb.mono (by simp; omega))).setCell (by simp) _ |>.setCell (by simp) _
  · have E := hid e
    have ET := hid et
    by_cases hx : 4294967295 < x
    · clear e et h3
      go_enter Tryz.func104, Tryz.ntmps104
      go_wp2_with fail
      refine (varint_Read (h.below ((Below.refl _ _).alloc (Nat.le_refl _) _))).mono ?_
      rintro e w' ⟨rfl, rfl⟩
      rw [E.out]
      go_wp2
      refine bodyPost_ret (v := .tuple #[.agg #[.int .i64 0, .int .i64 0], .int .i64 0, .int .u8 5]) ?_ rfl ?_
      · simp [results, Tryz.results104, go_sem]
      · rw [ET.out]
        exact ⟨rfl, by repeat (first | exact Below.refl _ _ | exact (Below.refl _ _).alloc (Nat.le_refl _) _ | refine Below.setCell ?_ (by simp) _)⟩
    · have H5 : Hid (tagOk (x / 8 : Nat) (x % 8 : Nat) = false) := hid (h3.resolve_left hx)
      have h7 := and7 x (by omega)
      clear e et h3
      go_enter Tryz.func104, Tryz.ntmps104
      go_wp2_with fail
      refine (varint_Read (h.below ((Below.refl _ _).alloc (Nat.le_refl _) _))).mono ?_
      rintro e w' ⟨rfl, rfl⟩
      rw [E.out]
      go_wp2_with fail
      refine (tag_Right _ _ (by omega) _).mono ?_
      rintro e w1 ⟨rfl, hb⟩
      rw [show (x : Int) / 8 = ((x / 8 : Nat) : Int) from by omega, show (x : Int) % 8 = ((x % 8 : Nat) : Int) from by omega, H5.out]
      have c0 := below_keeps hb ⟨w.heap.size, 0, none⟩ (.int .i64 0) (by simp [go_sem])
      have c1 := below_keeps hb ⟨w.heap.size, 1, none⟩ (.int .i64 0) (by simp [go_sem])
      obtain ⟨hc, hf⟩ := bcell hb
      go_wp2
      refine bodyPost_ret (v := .tuple #[.agg #[.int .i64 0, .int .i64 0], .int .i64 0, .int .u8 5]) ?_ rfl ?_
      · simp [results, Tryz.results104, go_sem, c0, c1]
      · rw [ET.out]
        exact ⟨rfl, ((((Below.refl _ _).alloc (Nat.le_refl _) _).alloc (by simp) _).trans (hb.mono (by simp; omega))).setCell (by simp) _ |>.setCell (by simp) _⟩
  · have E := hid e
    have ET := hid et
    have hc : ((c : Int) == 0) = false := by simp; omega
    clear e et h1
    go_enter Tryz.func104, Tryz.ntmps104
    go_wp2_with fail
    refine (varint_Read (h.below ((Below.refl _ _).alloc (Nat.le_refl _) _))).mono ?_
    rintro e w' ⟨rfl, rfl⟩
    rw [E.out]
    go_wp2
    refine bodyPost_ret (v := .tuple #[.agg #[.int .i64 0, .int .i64 0], .int .i64 0, .int .u8 c]) ?_ rfl ?_
    · simp [results, Tryz.results104, go_sem]
    · rw [ET.out]
      exact ⟨rfl, by repeat (first | exact Below.refl _ _ | exact (Below.refl _ _).alloc (Nat.le_refl _) _ | refine Below.setCell ?_ (by simp) _)⟩
end Go.Proofs.YtbcpeckmnmhfhaaGreat
namespace Go.Proofs.YtbcpeckmnmhfhaaGreat
open Go.RowKit
/-- how many bytes stand ahead, how many the value has, code -/
def rsize (wire : Nat) (l : List UInt8) : Nat × Nat × Nat :=
  if wire = 0 then (0, (vread l).2.1, (vread l).2.2) else if wire = 1 then (0, 8, 0) else if wire = 5 then (0, 4, 0) else ((vread l).2.1, (vread l).1, (vread l).2.2)
structure Rec where
  number : Nat
  wire : Nat
  start : Nat
  at' : Nat
  to : Nat
def Rec.none : Rec := ⟨0, 0, 0, 0, 0⟩
def Rec.val (r : Rec) : Value := .agg #[.int .i64 r.number, .int .i64 r.wire, .int .i64 r.start, .int .i64 r.at', .int .i64 r.to]
def rnext (l : List UInt8) (start : Nat) : Rec × Nat :=
  if l.length ≤ start then (.none, 2) else
  let t := tread (l.drop start)
  if t.2.2.2 ≠ 0 then (.none, t.2.2.2) else
  let s := rsize t.2.1 (l.drop (start + t.2.2.1))
  if s.2.2 ≠ 0 then (.none, s.2.2) else
  let at' := start + t.2.2.1 + s.1
  if l.length - at' < s.2.1 then (.none, 3) else (⟨t.1, t.2.1, start, at', at' + s.2.1⟩, 0)
theorem tread_bounds (l : List UInt8) : (∃ k x n, tread l = (k, x, n, 0) ∧ 0 < n ∧ n ≤ 10 ∧ n ≤ l.length ∧ k ≤ 536870911 ∧ 1 ≤ k ∧ (x = 0 ∨ x = 1 ∨ x = 2 ∨ x = 5)) ∨ (∃ c, tread l = (0, 0, 0, c) ∧ (c = 3 ∨ c = 4 ∨ c = 5)) := by
  rcases tread_cases l with ⟨x, n, e, et, h1, h2, h3, h4, h5⟩ | ⟨x, n, e, et, h1, h2, h3⟩ | ⟨c, e, et, h1⟩
  · have h6 : (1 : Int) ≤ (x / 8 : Nat) ∧ ((x / 8 : Nat) : Int) ≤ 536870911 ∧ (((x % 8 : Nat) : Int) = 0 ∨ ((x % 8 : Nat) : Int) = 1 ∨ ((x % 8 : Nat) : Int) = 2 ∨ ((x % 8 : Nat) : Int) = 5) := of_decide_eq_true h5
    exact .inl ⟨_, _, _, et, h1, h2, h3, by omega, by omega, by omega⟩
  · exact .inr ⟨5, et, by omega⟩
  · exact .inr ⟨c, et, by omega⟩
theorem rsize_bounds (wire : Nat) (l : List UInt8) : (∃ a n, rsize wire l = (a, n, 0) ∧ a ≤ l.length ∧ a ≤ 10 ∧ n < 2 ^ 64) ∨ (∃ a n c, rsize wire l = (a, n, c) ∧ (c = 3 ∨ c = 4) ∧ a ≤ 10 ∧ n < 2 ^ 64) := by
  unfold rsize
  rcases vread_cases l with ⟨x, n, e, h1, h2, h3, h4⟩ | ⟨c, e, h⟩
  · rw [e]
    split
    · exact .inl ⟨0, n, rfl, by omega, by omega, by omega⟩
    · split
      · exact .inl ⟨0, 8, rfl, by omega, by omega, by omega⟩
      · split
        · exact .inl ⟨0, 4, rfl, by omega, by omega, by omega⟩
        · exact .inl ⟨n, x, rfl, by omega, by omega, by omega⟩
  · rw [e]
    split
    · exact .inr ⟨0, 0, c, rfl, h, by omega, by omega⟩
    · split
      · exact .inl ⟨0, 8, rfl, by omega, by omega, by omega⟩
      · split
        · exact .inl ⟨0, 4, rfl, by omega, by omega, by omega⟩
        · exact .inr ⟨0, 0, c, rfl, h, by omega, by omega⟩
/-- Every outcome of rnext, with what the walks want of the numbers. -/
theorem rnext_cases (l : List UInt8) (i : Nat) :
    (l.length ≤ i ∧ rnext l i = (.none, 2)) ∨
    (i < l.length ∧ ∃ c, tread (l.drop i) = (0, 0, 0, c) ∧ (c = 3 ∨ c = 4 ∨ c = 5) ∧ rnext l i = (.none, c)) ∨
    (i < l.length ∧ ∃ k x n, tread (l.drop i) = (k, x, n, 0) ∧ 0 < n ∧ n ≤ 10 ∧ i + n ≤ l.length ∧ k ≤ 536870911 ∧ 1 ≤ k ∧ (x = 0 ∨ x = 1 ∨ x = 2 ∨ x = 5) ∧
      ((∃ a m c, rsize x (l.drop (i + n)) = (a, m, c) ∧ (c = 3 ∨ c = 4) ∧ a ≤ 10 ∧ m < 2 ^ 64 ∧ rnext l i = (.none, c)) ∨
       (∃ a m, rsize x (l.drop (i + n)) = (a, m, 0) ∧ i + n + a ≤ l.length ∧ a ≤ 10 ∧ m < 2 ^ 64 ∧ l.length - (i + n + a) < m ∧ rnext l i = (.none, 3)) ∨
       (∃ a m, rsize x (l.drop (i + n)) = (a, m, 0) ∧ i + n + a ≤ l.length ∧ a ≤ 10 ∧ m ≤ l.length - (i + n + a) ∧ rnext l i = (⟨k, x, i, i + n + a, i + n + a + m⟩, 0)))) := by
  by_cases hi : l.length ≤ i
  · exact .inl ⟨hi, by simp [rnext, hi]⟩
  · have hi' : i < l.length := by omega
    rcases tread_bounds (l.drop i) with ⟨k, x, n, et, h1, h2, h3, h4, h5, h6⟩ | ⟨c, et, h1⟩
    · rw [List.length_drop] at h3
      refine .inr (.inr ⟨hi', k, x, n, et, h1, h2, by omega, h4, h5, h6, ?_⟩)
      rcases rsize_bounds x (l.drop (i + n)) with ⟨a, m, es, g1, g2, g3⟩ | ⟨a, m, c, es, g1, g2, g3⟩
      · rw [List.length_drop] at g1
        by_cases hm : l.length - (i + n + a) < m
        · refine .inr (.inl ⟨a, m, es, by omega, g2, g3, hm, ?_⟩)
          unfold rnext
          rw [if_neg hi, et]
          simp [es, hm]
        · refine .inr (.inr ⟨a, m, es, by omega, g2, by omega, ?_⟩)
          unfold rnext
          rw [if_neg hi, et]
          simp [es, hm]
      · refine .inl ⟨a, m, c, es, g1, g2, g3, ?_⟩
        unfold rnext
        rw [if_neg hi, et]
        simp [es]
        intro h0; omega
    · refine .inr (.inl ⟨hi', c, et, h1, ?_⟩)
      unfold rnext
      rw [if_neg hi, et]
      simp
      intro h0; omega
set_option maxRecDepth 100000 in
theorem record_size {w : World} {v : Value} {l : List UInt8} (h : Bytes w v l) (x : Nat) (hx : x = 0 ∨ x = 1 ∨ x = 2 ∨ x = 5) :
    Calls Tryz.prog 105 #[v, .int .i64 x] w fun e w' => e = .returned (.tuple #[.int .i64 (rsize x l).1, .int .u64 (rsize x l).2.1, .int .u8 (rsize x l).2.2]) ∧ w = w' := by
  obtain ⟨W, N, C, HV, hN⟩ : ∃ W N C, Hid (vread l = (W, N, C)) ∧ N ≤ 10 := by
    rcases vread_cases l with ⟨x, n, e, h1, h2, h3, h4⟩ | ⟨c, e, h⟩
    · exact ⟨_, _, _, e, h2⟩
    · exact ⟨_, _, _, e, by omega⟩
  rcases hx with rfl | rfl | rfl | rfl
  · have hs : rsize 0 l = (0, N, C) := by simp [rsize, HV.out]
    rw [hs]; clear hs
    go_enter Tryz.func105, Tryz.ntmps105
    go_wp2_with (go_at_call 119; refine (varint_Skip h).mono ?_; rintro e w' ⟨rfl, rfl⟩; rw [HV.out])
    go_ret3
    exact ⟨rfl, rfl⟩
  · have hs : rsize 1 l = (0, 8, 0) := by simp [rsize]
    rw [hs]; clear hs
    go_enter Tryz.func105, Tryz.ntmps105
    go_wp2
    go_ret3
    exact ⟨rfl, rfl⟩
  · have hs : rsize 2 l = (N, W, C) := by simp [rsize, HV.out]
    rw [hs]; clear hs
    go_enter Tryz.func105, Tryz.ntmps105
    go_wp2_with (go_at_call 95; refine (varint_Read h).mono ?_; rintro e w' ⟨rfl, rfl⟩; rw [HV.out])
    go_ret3
    exact ⟨rfl, rfl⟩
  · have hs : rsize 5 l = (0, 4, 0) := by simp [rsize]
    rw [hs]; clear hs
    go_enter Tryz.func105, Tryz.ntmps105
    go_wp2
    go_ret3
    exact ⟨rfl, rfl⟩
set_option maxRecDepth 100000 in
theorem record_Next {w : World} {v : Value} {l : List UInt8} (h : Bytes w v l) (i : Nat) (hi63 : i ≤ 9223372036854775807) :
    Calls Tryz.prog 87 #[v, .int .i64 i] w fun e w' => e = .returned (.tuple #[(rnext l i).1.val, .int .u8 (rnext l i).2]) ∧ Below w.heap.size w w' := by
  obtain ⟨hlen, a, cap, rfl, -, -, -, -⟩ := h.open
  obtain ⟨n, HN⟩ : ∃ n, Hid (n = l.length) := ⟨_, rfl⟩
  have hcs := rnext_cases l i
  rw [← HN.out] at hcs hlen h ⊢
  rcases hcs with ⟨hi, er⟩ | ⟨hi, c, et, hc, er⟩ | ⟨hi, k, x, m, et, h1, h2, h3, h4, h4', h5, hcs⟩
  · have ER := hid er
    clear er
    go_enter Tryz.func87, Tryz.ntmps87
    go_wp2
    refine bodyPost_ret (v := .tuple #[Rec.none.val, .int .u8 2]) ?_ rfl ?_
    · simp [results, Tryz.results87, go_sem, Rec.none, Rec.val]
    · rw [ER.out]
      exact ⟨rfl, by (repeat (first | with_reducible exact Below.refl _ _ | with_reducible refine Below.setCell ?_ (by first | omega | (simp; omega) | (simp; done)) _ | with_reducible refine Below.alloc ?_ (by first | omega | (simp; omega) | (simp; done)) _ | with_reducible refine below_drewN ?_ _ | with_reducible refine Below.drew ?_))⟩
  · have ER := hid er
    have ET := hid et
    have hc0 : ((c : Int) == 0) = false := by simp; omega
    obtain ⟨v', hsl, hv'⟩ := h.l HN.out i (by omega)
    clear er et
    go_enter Tryz.func87, Tryz.ntmps87
    go_wp2_with fail
    refine (tag_Read (hv'.below ((Below.refl _ _).alloc (Nat.le_refl _) _))).mono ?_
    rintro e w1 ⟨rfl, hb⟩
    rw [ET.out]
    obtain ⟨hcc, hf⟩ := bcell hb
    have hz : w.heap.size < w1.heap.size := by have := hb.size; simp at this; omega
    have c0 := below_keeps hb ⟨w.heap.size, 0, none⟩ (.int .i64 0) (by simp [go_sem])
    have c1 := below_keeps hb ⟨w.heap.size, 1, none⟩ (.int .i64 0) (by simp [go_sem])
    have c2 := below_keeps hb ⟨w.heap.size, 2, none⟩ (.int .i64 0) (by simp [go_sem])
    have c3 := below_keeps hb ⟨w.heap.size, 3, none⟩ (.int .i64 0) (by simp [go_sem])
    have c4 := below_keeps hb ⟨w.heap.size, 4, none⟩ (.int .i64 0) (by simp [go_sem])
    go_wp2
    refine bodyPost_ret (v := .tuple #[Rec.none.val, .int .u8 c]) ?_ rfl ?_
    · simp [results, Tryz.results87, go_sem, Rec.none, Rec.val, c0, c1, c2, c3, c4, hz]
    · rw [ER.out]
      refine ⟨rfl, ?_⟩
      (repeat (first | with_reducible exact Below.refl _ _ | with_reducible refine Below.setCell ?_ (by first | omega | (simp; omega) | (simp; done)) _ | with_reducible refine Below.alloc ?_ (by first | omega | (simp; omega) | (simp; done)) _ | with_reducible refine below_drewN ?_ _ | with_reducible refine Below.drew ?_))
      exact below_new hb
  · have ET := hid et
    obtain ⟨v', hsl, hv'⟩ := h.l HN.out i (by omega)
    obtain ⟨v2, hsl2, hv2⟩ := h.l HN.out (i + m) (by omega)
    simp only [Int.natCast_add] at hsl2
    have HX := hid h5
    clear et h5
    rcases hcs with ⟨a', m', c, es, hc, ha, hm', er⟩ | ⟨a', m', es, ha, ha', hm', hlt, er⟩ | ⟨a', m', es, ha, ha', hm', er⟩
    · have ER := hid er
      have ES := hid es
      have hc0 : ((c : Int) == 0) = false := by simp; omega
      clear er es hm' hc
      go_enter Tryz.func87, Tryz.ntmps87
      go_wp2_with fail
      refine (tag_Read (hv'.below ((Below.refl _ _).alloc (Nat.le_refl _) _))).mono ?_
      rintro e w1 ⟨rfl, hb⟩
      rw [ET.out]
      obtain ⟨hcc, hf⟩ := bcell hb
      have hz : w.heap.size < w1.heap.size := by have := hb.size; simp at this; omega
      have c0 := below_keeps hb ⟨w.heap.size, 0, none⟩ (.int .i64 0) (by simp [go_sem])
      have c1 := below_keeps hb ⟨w.heap.size, 1, none⟩ (.int .i64 0) (by simp [go_sem])
      have c2 := below_keeps hb ⟨w.heap.size, 2, none⟩ (.int .i64 0) (by simp [go_sem])
      have c3 := below_keeps hb ⟨w.heap.size, 3, none⟩ (.int .i64 0) (by simp [go_sem])
      have c4 := below_keeps hb ⟨w.heap.size, 4, none⟩ (.int .i64 0) (by simp [go_sem])
      have hv3 : Bytes w1 v2 (l.drop (i + m)) := hv2.below (below_new hb)
      go_wp2
      go_quiet ((go_at_call 105; exact quiet_eq (record_size ((hv3.below ((Below.refl _ _).alloc (Nat.le_refl _) _)).drewN _) _ HX.out)))
      rw [ES.out]
      go_wp2
      refine bodyPost_ret (v := .tuple #[Rec.none.val, .int .u8 c]) ?_ rfl ?_
      · simp [results, Tryz.results87, go_sem, Rec.none, Rec.val, c0, c1, c2, c3, c4, hz]
      · rw [ER.out]
        refine ⟨rfl, ?_⟩
        (repeat (first | with_reducible exact Below.refl _ _ | with_reducible refine Below.setCell ?_ (by first | omega | (simp; omega) | (simp; done)) _ | with_reducible refine Below.alloc ?_ (by first | omega | (simp; omega) | (simp; done)) _ | with_reducible refine below_drewN ?_ _ | with_reducible refine Below.drew ?_))
        exact below_new hb
    · have ER := hid er
      have ES := hid es
      have hlt' : n - (i + m + a') < m' := hlt
      clear er es hm'
      go_enter Tryz.func87, Tryz.ntmps87
      go_wp2_with fail
      refine (tag_Read (hv'.below ((Below.refl _ _).alloc (Nat.le_refl _) _))).mono ?_
      rintro e w1 ⟨rfl, hb⟩
      rw [ET.out]
      obtain ⟨hcc, hf⟩ := bcell hb
      have hz : w.heap.size < w1.heap.size := by have := hb.size; simp at this; omega
      have c0 := below_keeps hb ⟨w.heap.size, 0, none⟩ (.int .i64 0) (by simp [go_sem])
      have c1 := below_keeps hb ⟨w.heap.size, 1, none⟩ (.int .i64 0) (by simp [go_sem])
      have c2 := below_keeps hb ⟨w.heap.size, 2, none⟩ (.int .i64 0) (by simp [go_sem])
      have c3 := below_keeps hb ⟨w.heap.size, 3, none⟩ (.int .i64 0) (by simp [go_sem])
      have c4 := below_keeps hb ⟨w.heap.size, 4, none⟩ (.int .i64 0) (by simp [go_sem])
      have hv3 : Bytes w1 v2 (l.drop (i + m)) := hv2.below (below_new hb)
      go_wp2
      go_quiet ((go_at_call 105; exact quiet_eq (record_size ((hv3.below ((Below.refl _ _).alloc (Nat.le_refl _) _)).drewN _) _ HX.out)))
      rw [ES.out]
      go_wp2
      refine bodyPost_ret (v := .tuple #[Rec.none.val, .int .u8 3]) ?_ rfl ?_
      · simp [results, Tryz.results87, go_sem, Rec.none, Rec.val, c0, c1, c2, c3, c4, hz]
      · rw [ER.out]
        refine ⟨rfl, ?_⟩
        (repeat (first | with_reducible exact Below.refl _ _ | with_reducible refine Below.setCell ?_ (by first | omega | (simp; omega) | (simp; done)) _ | with_reducible refine Below.alloc ?_ (by first | omega | (simp; omega) | (simp; done)) _ | with_reducible refine below_drewN ?_ _ | with_reducible refine Below.drew ?_))
        exact below_new hb
    · have ER := hid er
      have ES := hid es
      clear er es
      go_enter Tryz.func87, Tryz.ntmps87
      go_wp2_with fail
      refine (tag_Read (hv'.below ((Below.refl _ _).alloc (Nat.le_refl _) _))).mono ?_
      rintro e w1 ⟨rfl, hb⟩
      rw [ET.out]
      obtain ⟨hcc, hf⟩ := bcell hb
      have hz : w.heap.size < w1.heap.size := by have := hb.size; simp at this; omega
      have c0 := below_keeps hb ⟨w.heap.size, 0, none⟩ (.int .i64 0) (by simp [go_sem])
      have c1 := below_keeps hb ⟨w.heap.size, 1, none⟩ (.int .i64 0) (by simp [go_sem])
      have c2 := below_keeps hb ⟨w.heap.size, 2, none⟩ (.int .i64 0) (by simp [go_sem])
      have c3 := below_keeps hb ⟨w.heap.size, 3, none⟩ (.int .i64 0) (by simp [go_sem])
      have c4 := below_keeps hb ⟨w.heap.size, 4, none⟩ (.int .i64 0) (by simp [go_sem])
      have hv3 : Bytes w1 v2 (l.drop (i + m)) := hv2.below (below_new hb)
      go_wp2
      go_quiet ((go_at_call 105; exact quiet_eq (record_size ((hv3.below ((Below.refl _ _).alloc (Nat.le_refl _) _)).drewN _) _ HX.out)))
      rw [ES.out]
      go_wp2
      refine bodyPost_ret (v := .tuple #[(⟨k, x, i, i + m + a', i + m + a' + m'⟩ : Rec).val, .int .u8 0]) ?_ rfl ?_
      · simp [results, Tryz.results87, go_sem, Rec.val, c0, c1, c2, c3, c4, hz]
      · rw [ER.out]
        refine ⟨rfl, ?_⟩
        (repeat (first | with_reducible exact Below.refl _ _ | with_reducible refine Below.setCell ?_ (by first | omega | (simp; omega) | (simp; done)) _ | with_reducible refine Below.alloc ?_ (by first | omega | (simp; omega) | (simp; done)) _ | with_reducible refine below_drewN ?_ _ | with_reducible refine Below.drew ?_))
        exact below_new hb
end Go.Proofs.YtbcpeckmnmhfhaaGreat
