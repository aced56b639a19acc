/- Plain laws: the places of fields by rising numbers, what is alike in its order. No condition. bits.Word, darningref01.Word: the word of at most eight bytes (wordOf). No condition. scalar.Read, darningref08.Read, darningref05.Fits: a number's bytes (kread). The kind is a number's. -/
import Derived.Test.YtfimpmennkfjcaaGreatDoorZ01
import Derived.Test.YtfimpmennkfjcaaGreatDoorZ03
import Derived.Test.YtfimpmennkfjcaaGreatDoorZ05
import Derived.Test.YtfimpmennkfjcaaGreatDoorZ13
import Derived.Test.YtfimpmennkfjcaaGreatDoorZ19
import Derived.Test.YtfimpmennkfjcaaGreatDoorZ20
namespace Go.Proofs.YtfimpmennkfjcaaGreatDoor
def numAt (fs : List Fld) (i : Int) : Int := (fs.getD i.toNat .zero).number
/-- comes a place ahead of another one? -/
def Ahead (fs : List Fld) (i j : Int) : Prop := numAt fs i < numAt fs j ∨ numAt fs i = numAt fs j ∧ i < j
theorem Ahead.trans {fs : List Fld} (x y z : Int) (h : Ahead fs x y) (h2 : Ahead fs y z) : Ahead fs x z := by unfold Ahead at *; omega
theorem Ahead.asymm {fs : List Fld} (x y : Int) (h : Ahead fs x y) : ¬ Ahead fs y x := by unfold Ahead at *; omega
def upTo (n : Nat) : List Int := (List.range n).map fun k : Nat => (k : Int)
theorem upTo_succ (n : Nat) : upTo (n + 1) = upTo n ++ [(n : Int)] := by unfold upTo; rw [List.range_succ, List.map_append]; rfl
theorem upTo_len (n : Nat) : (upTo n).length = n := by simp [upTo]
theorem upTo_mem {n : Nat} {x : Int} : x ∈ upTo n ↔ 0 ≤ x ∧ x < n := by
  unfold upTo
  rw [List.mem_map]
  constructor
  · rintro ⟨k, hk, rfl⟩
    have := List.mem_range.1 hk
    omega
  · intro h
    exact ⟨x.toNat, List.mem_range.2 (by omega), by omega⟩
/-- the place in a row where i is put -/
def posF (fs : List Fld) (i : Int) (o : List Int) : Nat := (o.takeWhile fun u => decide (numAt fs u ≤ numAt fs i)).length
def insF (fs : List Fld) (i : Int) (o : List Int) : List Int := o.take (posF fs i o) ++ i :: o.drop (posF fs i o)
def sortF (fs : List Fld) : Nat → List Int
  | 0 => []
  | n + 1 => insF fs (n : Int) (sortF fs n)
/-- the places of all fields -/
def sortedF (fs : List Fld) : List Int := sortF fs fs.length
theorem posF_le (fs : List Fld) (i : Int) (o : List Int) : posF fs i o ≤ o.length := (List.takeWhile_prefix _).length_le
theorem posF_from (fs : List Fld) (i : Int) (o : List Int) : (∀ k, k < posF fs i o → ∃ u, o[k]? = some u ∧ numAt fs u ≤ numAt fs i) ∧ (∀ u, o[posF fs i o]? = some u → numAt fs i < numAt fs u) := by
  unfold posF
  induction o with
  | nil => simp
  | cons u r ih =>
    rw [List.takeWhile_cons]
    by_cases h : numAt fs u ≤ numAt fs i
    · simp only [decide_eq_true h, if_true, List.length_cons]
      refine ⟨fun k hk => ?_, fun v hv => ih.2 v (by simpa using hv)⟩
      cases k with
      | zero => exact ⟨u, rfl, h⟩
      | succ k => simpa using ih.1 k (by omega)
    · simp only [decide_eq_false h, Bool.false_eq_true, if_false, List.length_nil]
      refine ⟨fun k hk => by omega, fun v hv => ?_⟩
      simp at hv
      subst hv
      omega
theorem sortF_ok (fs : List Fld) : ∀ n, (sortF fs n).Perm (upTo n) ∧ (sortF fs n).Pairwise (Ahead fs)
  | 0 => ⟨List.Perm.refl _, List.Pairwise.nil⟩
  | n + 1 => by
    obtain ⟨h1, h2⟩ := sortF_ok fs n
    obtain ⟨h3, h4⟩ := posF_from fs (n : Int) (sortF fs n)
    have hm : ∀ u ∈ sortF fs n, u < (n : Int) := fun u hu => (upTo_mem.1 (h1.mem_iff.1 hu)).2
    rw [sortF, upTo_succ]
    refine ⟨?_, ?_⟩
    · exact (perm_insert _ _).trans ((List.Perm.cons _ h1).trans (List.perm_append_singleton _ _).symm)
    · refine srt_insert Ahead.trans h2 _ ?_ ?_
      · by_cases h0 : posF fs n (sortF fs n) = 0
        · exact .inl h0
        · obtain ⟨u, hu, hle⟩ := h3 (posF fs n (sortF fs n) - 1) (by omega)
          refine .inr ⟨u, hu, ?_⟩
          have := hm u (List.mem_of_getElem? hu)
          unfold Ahead
          omega
      · by_cases hl : (sortF fs n).length ≤ posF fs n (sortF fs n)
        · exact .inl hl
        · have hu := List.getElem?_eq_getElem (l := sortF fs n) (i := posF fs n (sortF fs n)) (by omega)
          exact .inr ⟨_, hu, .inl (h4 _ hu)⟩
theorem sortF_len (fs : List Fld) (n : Nat) : (sortF fs n).length = n := by rw [(sortF_ok fs n).1.length_eq, upTo_len]
theorem sortedF_len (fs : List Fld) : (sortedF fs).length = fs.length := sortF_len fs _
theorem sortedF_mem {fs : List Fld} {x : Int} (h : x ∈ sortedF fs) : 0 ≤ x ∧ x < fs.length := upTo_mem.1 ((sortF_ok fs _).1.mem_iff.1 h)
end Go.Proofs.YtfimpmennkfjcaaGreatDoor
namespace Go.Proofs.YtfimpmennkfjcaaGreatDoor
open Go.RowKit
def wordL : List UInt8 → Nat
  | [] => 0
  | c :: r => c.toNat + 256 * wordL r
def wordOf (l : List UInt8) : Nat := wordL (l.take 8)
theorem wordL_snoc (l : List UInt8) (c : UInt8) : wordL (l ++ [c]) = wordL l + c.toNat * 256 ^ l.length := by
  induction l with
  | nil => simp [wordL]
  | cons x r ih =>
    rw [List.cons_append, wordL, ih, wordL, List.length_cons, Nat.pow_succ, Nat.mul_add]
    have : c.toNat * (256 ^ r.length * 256) = 256 * (c.toNat * 256 ^ r.length) := by
      rw [← Nat.mul_assoc, Nat.mul_comm]
    omega
theorem wordL_lt (l : List UInt8) : wordL l < 256 ^ l.length := by
  induction l with
  | nil => simp [wordL]
  | cons x r ih =>
    have := UInt8.toNat_lt x
    rw [wordL, List.length_cons, Nat.pow_succ]
    omega
theorem wordOf_lt (l : List UInt8) : wordOf l < 18446744073709551616 := by
  have h1 := wordL_lt (l.take 8)
  have h2 : (256 : Nat) ^ (l.take 8).length ≤ 256 ^ 8 := Nat.pow_le_pow_right (by decide) (List.length_take_le _ _)
  have h3 : (256 : Nat) ^ 8 = 18446744073709551616 := by decide
  unfold wordOf
  omega
theorem wordL_take (l : List UInt8) (i : Nat) (h : i < l.length) : wordL (l.take (i + 1)) = wordL (l.take i) + (l.getD i 0).toNat * 256 ^ i := by
  rw [List.take_succ_eq_append_getElem h, wordL_snoc, List.length_take, Nat.min_eq_left (by omega), List.getD_eq_getElem?_getD, List.getElem?_eq_getElem h]
  rfl
set_option maxRecDepth 100000 in
set_option maxHeartbeats 4000000 in
theorem ref01_Word {w : World} {v : Value} {l : List UInt8} (h : Bytes w v l) :
    Calls Tryz.prog 71 #[v] w fun e w' => e = .returned (.int .u64 (wordOf l : Nat)) ∧ w = w' := by
  obtain ⟨hlen, a, cap, rfl, -, -, hnil, hat⟩ := h.open
  obtain ⟨n, HN⟩ : ∃ n, Hid (n = l.length) := ⟨_, rfl⟩
  rw [← HN.out] at hlen hat ⊢
  have HAT := hid hat
  clear h hat hnil
  go_enter Tryz.func71, Tryz.ntmps71
  go_wp2_with fail
  go_loopw [3, 4, 5] (fun v3 v4 v5 wr => ∃ i x f : Nat, v5 = .int .i64 (i : Int) ∧ v3 = .int .u64 (x : Int) ∧ v4 = .int .u64 (f : Int) ∧ i ≤ n ∧ i ≤ 8 ∧ w = wr ∧ Hid (x = wordL (l.take i) ∧ (i < 8 → f = 256 ^ i))) (fun _ _ v5 _ => n - (intOf v5).toNat)
  case atStart => exact ⟨0, 0, 1, rfl, rfl, rfl, by omega, by omega, rfl, rfl, fun _ => rfl⟩
  case round =>
    obtain ⟨i, x, f, rfl, rfl, rfl, hi, hi8, rfl, HV⟩ := hrel
    by_cases hlt : i < n ∧ i < 8
    · obtain ⟨h1, h2⟩ := hlt
      obtain ⟨b, o, ha, g0⟩ := HAT.out i h1
      have hix := index_run1 under_bytes size_u8 ha i h1 (cap := cap)
      obtain ⟨c, HC⟩ : ∃ c, Hid (c = l.getD i 0) := ⟨_, rfl⟩
      rw [← HC.out] at g0
      obtain ⟨y, HY⟩ : ∃ y, Hid (y = wordL (l.take (i + 1))) := ⟨_, rfl⟩
      obtain ⟨f2, HF2⟩ : ∃ f2 : Nat, Hid ((f2 : Int) = IntKind.u64.wrap ((f : Int) * 256)) := ⟨(IntKind.u64.wrap ((f : Int) * 256)).toNat, by show (_ : Int) = _; rw [IntKind.wrap_u64]; omega⟩
      have HST : Hid (IntKind.u64.wrap ((x : Int) + IntKind.u64.wrap (IntKind.u64.wrap (c.toNat : Int) * (f : Int))) = (y : Int) ∧ (i + 1 < 8 → f2 = 256 ^ (i + 1))) := by
        have e1 := HV.out.2 h2
        have hy : y = x + c.toNat * f := by rw [HY.out, wordL_take _ _ (by rw [← HN.out]; exact h1), ← HV.out.1, ← HC.out, e1]
        have hlt2 : y < 18446744073709551616 := by
          rw [HY.out]
          have h3 := wordL_lt (l.take (i + 1))
          have h4 : (256 : Nat) ^ (l.take (i + 1)).length ≤ 256 ^ 8 := Nat.pow_le_pow_right (by decide) (by rw [List.length_take]; omega)
          have h5 : (256 : Nat) ^ 8 = 18446744073709551616 := by decide
          omega
        constructor
        · have h9 := UInt8.toNat_lt c
          rw [show IntKind.u64.wrap (c.toNat : Int) = (c.toNat : Int) by rw [IntKind.wrap_u64]; omega, ← Int.natCast_mul, IntKind.wrap_u64, IntKind.wrap_u64]
          omega
        · intro h3
          have h4 : (256 : Nat) ^ (i + 1) ≤ 256 ^ 7 := Nat.pow_le_pow_right (by decide) (by omega)
          have h5 : (256 : Nat) ^ 7 = 72057594037927936 := by decide
          have h6 := HF2.out
          rw [IntKind.wrap_u64, e1] at h6
          rw [Nat.pow_succ] at h4 ⊢
          omega
      clear ha
      go_wp2_with fail
      go_roundw
      case rel => exact ⟨i + 1, y, f2, by go_num, by rw [← HST.out.1], by rw [HF2.out], h1, by omega, by first | rfl | trivial, HY.out, HST.out.2⟩
      case measure => simp [intOf]; omega
    · have HE : Hid (x = wordOf l) := by
        rw [Hid, HV.out.1, wordOf]
        by_cases h8 : i = 8
        · rw [h8]
        · rw [List.take_of_length_le (by rw [← HN.out]; omega), List.take_of_length_le (by rw [← HN.out]; omega)]
      have hexit : (i < n ∧ i = 8) ∨ i = n := by omega
      clear hlt
      rcases hexit with ⟨h1, rfl⟩ | rfl
      · go_wp2_with fail
        go_ret
        exact ⟨by rw [HE.out]; first | done | rfl, rfl⟩
      · go_wp2_with fail
        go_ret
        exact ⟨by rw [HE.out]; first | done | rfl, rfl⟩
end Go.Proofs.YtfimpmennkfjcaaGreatDoor
namespace Go.Proofs.YtfimpmennkfjcaaGreatDoor
open Go.RowKit
/-- a value's word, the code -/
def kread (k : Int) (l : List UInt8) : Nat × Nat := if rfits (kwire k) l = true then (kcanon k (if kwire k = 0 then (vread l).1 else wordOf l), 0) else (0, 12)
theorem kwire_015 {k : Int} (h : knumber k = true) : kwire k = 0 ∨ kwire k = 1 ∨ kwire k = 5 := by
  have h' : 1 ≤ k ∧ k ≤ 14 := of_decide_eq_true h
  unfold kwire
  rw [if_neg (by omega), if_neg (by omega)]
  by_cases h1 : 12 ≤ k
  · rw [if_pos h1]; omega
  · rw [if_neg h1]
    by_cases h2 : 9 ≤ k
    · rw [if_pos h2]; omega
    · rw [if_neg h2]; omega
theorem kright_num {k : Int} (h : knumber k = true) : kright k = true := by unfold knumber at h; unfold kright; simp at h ⊢; omega
set_option maxRecDepth 100000 in
set_option maxHeartbeats 4000000 in
theorem ref05_Fits {x : Nat} (hx : x = 0 ∨ x = 1 ∨ x = 5) {w : World} {v : Value} {l : List UInt8} (h : Bytes w v l) :
    Calls Tryz.prog 69 #[.int .i64 (x : Int), v] w fun e w' => e = .returned (.bool (rfits x l)) ∧ w = w' := by
  have HR := hid fun (z : Int) (hz : z = (0 : Nat)) => ref02_Read_at h z 0 hz (Nat.zero_le _)
  obtain ⟨hlen, a, cap, rfl, -, -, -, -⟩ := h.open
  obtain ⟨n, HN⟩ : ∃ n, Hid (n = l.length) := ⟨_, rfl⟩
  rw [← HN.out] at hlen HR ⊢
  rw [List.drop_zero] at HR
  obtain ⟨y, s, cv, HY⟩ : ∃ y s cv, Hid (vread l = (y, s, cv)) := ⟨_, _, _, rfl⟩
  rw [HY.out] at HR
  obtain ⟨b, HB⟩ : ∃ b, Hid (b = rfits x l) := ⟨_, rfl⟩
  rw [← HB.out]
  have HB2 := HB.out
  rw [rfits, HY.out, ← HN.out] at HB2
  have HBB := hid HB2
  clear h HB2
  rcases hx with rfl | rfl | rfl
  · have HE : Hid (b = decide (cv = 0 ∧ s = n)) := by rw [Hid, HBB.out]; rfl
    by_cases hc : cv = 0
    · subst hc
      by_cases hs : s = n
      · have HT : Hid (b = true) := by rw [Hid, HE.out]; exact decide_eq_true ⟨rfl, hs⟩
        have e2 : ((s : Int) == (n : Int)) = true := by simp; omega
        have e3 : (s == n) = true := by simp; omega
        have e4 : decide (s = n) = true := decide_eq_true hs
        clear hs
        go_enter Tryz.func69, Tryz.ntmps69
        go_wp2_with (go_at_call 67; refine (HR.out 0 rfl).mono ?_; rintro e w1 ⟨rfl, rfl⟩)
        go_ret
        exact ⟨by rw [HT.out]; first | done | rfl, rfl⟩
      · have HT : Hid (b = false) := by rw [Hid, HE.out]; exact decide_eq_false fun h => hs h.2
        have e2 : ((s : Int) == (n : Int)) = false := by simp; omega
        have e3 : (s == n) = false := by simp; omega
        have e4 : decide (s = n) = false := decide_eq_false hs
        clear hs
        go_enter Tryz.func69, Tryz.ntmps69
        go_wp2_with (go_at_call 67; refine (HR.out 0 rfl).mono ?_; rintro e w1 ⟨rfl, rfl⟩)
        go_ret
        exact ⟨by rw [HT.out]; first | done | rfl, rfl⟩
    · have HT : Hid (b = false) := by rw [Hid, HE.out]; exact decide_eq_false fun h => hc h.1
      have e2 : ((cv : Int) == 0) = false := by simp; exact hc
      have e3 : (cv == 0) = false := by simp; exact hc
      clear hc
      go_enter Tryz.func69, Tryz.ntmps69
      go_wp2_with (go_at_call 67; refine (HR.out 0 rfl).mono ?_; rintro e w1 ⟨rfl, rfl⟩)
      go_ret
      exact ⟨by rw [HT.out]; first | done | rfl, rfl⟩
  · have HE : Hid (b = decide (n = 8)) := by rw [Hid, HBB.out]; rfl
    by_cases hs : n = 8
    · subst hs
      have HT : Hid (b = true) := by rw [Hid, HE.out]; rfl
      go_enter Tryz.func69, Tryz.ntmps69
      go_wp2_with fail
      go_ret
      exact ⟨by rw [HT.out]; first | done | rfl, rfl⟩
    · have HT : Hid (b = false) := by rw [Hid, HE.out]; exact decide_eq_false hs
      have e2 : ((n : Int) == 8) = false := by simp; omega
      have e3 : (n == 8) = false := by simp; omega
      clear hs
      go_enter Tryz.func69, Tryz.ntmps69
      go_wp2_with fail
      go_ret
      exact ⟨by rw [HT.out]; first | done | rfl, rfl⟩
  · have HE : Hid (b = decide (n = 4)) := by rw [Hid, HBB.out]; rfl
    by_cases hs : n = 4
    · subst hs
      have HT : Hid (b = true) := by rw [Hid, HE.out]; rfl
      go_enter Tryz.func69, Tryz.ntmps69
      go_wp2_with fail
      go_ret
      exact ⟨by rw [HT.out]; first | done | rfl, rfl⟩
    · have HT : Hid (b = false) := by rw [Hid, HE.out]; exact decide_eq_false hs
      have e2 : ((n : Int) == 4) = false := by simp; omega
      have e3 : (n == 4) = false := by simp; omega
      clear hs
      go_enter Tryz.func69, Tryz.ntmps69
      go_wp2_with fail
      go_ret
      exact ⟨by rw [HT.out]; first | done | rfl, rfl⟩
set_option maxRecDepth 100000 in
set_option maxHeartbeats 4000000 in
theorem ref08_Read {k : Int} (hk : knumber k = true) {w : World} {v : Value} {l : List UInt8} (h : Bytes w v l) :
    Calls Tryz.prog 44 #[.int .i64 k, v] w fun e w' => e = .returned (.tuple #[.int .u64 ((kread k l).1 : Nat), .int .i64 ((kread k l).2 : Nat)]) ∧ w = w' := by
  have HK := hid hk
  have HKW := hid (kwire_015 hk)
  have HWI := hid fun W => ref06_Wire k (kright_num hk) W
  have HNU := hid fun W => ref06_Number k W
  rw [hk] at HNU
  have HR := hid fun (z : Int) (hz : z = (0 : Nat)) => ref02_Read_at h z 0 hz (Nat.zero_le _)
  have HWB := hid (ref01_Word h)
  have HFT := hid fun (x : Nat) (hx : x = 0 ∨ x = 1 ∨ x = 5) => ref05_Fits hx h
  obtain ⟨hlen, a, cap, rfl, -, -, -, -⟩ := h.open
  obtain ⟨n, HN⟩ : ∃ n, Hid (n = l.length) := ⟨_, rfl⟩
  rw [← HN.out] at hlen HR HWB HFT ⊢
  rw [List.drop_zero] at HR
  obtain ⟨y, s, cv, HY⟩ : ∃ y s cv, Hid (vread l = (y, s, cv)) := ⟨_, _, _, rfl⟩
  rw [HY.out] at HR
  obtain ⟨x, c, HX⟩ : ∃ x c, Hid (kread k l = (x, c)) := ⟨_, _, rfl⟩
  rw [HX.out]
  have HX2 : Hid ((x, c) = if rfits (kwire k) l = true then (kcanon k (if kwire k = 0 then (vread l).1 else wordOf l), 0) else (0, 12)) := HX.out.symm
  rw [HY.out] at HX2
  obtain ⟨q, HQ⟩ : ∃ q, Hid (q = kwire k) := ⟨_, rfl⟩
  obtain ⟨b, HB⟩ : ∃ b, Hid (b = rfits q l) := ⟨_, rfl⟩
  rw [← HQ.out] at HX2 HKW HWI
  rw [← HB.out] at HX2
  have HFT2 := hid (HFT.out q HKW.out)
  rw [← HB.out] at HFT2
  obtain ⟨z, HZ⟩ : ∃ z, Hid (wordOf l = z) := ⟨_, rfl⟩
  rw [HZ.out] at HX2 HWB
  clear h hk
  cases b with
  | false =>
    have HRES : Hid (x = 0 ∧ c = 12) := by
      have h1 := HX2.out
      simp at h1
      exact h1
    go_enter Tryz.func44, Tryz.ntmps44
    go_wp2_with (first | (go_at_call 43; refine (HNU.out _).mono ?_; rintro e w1 ⟨rfl, rfl⟩) | (go_at_call 70; refine (HWI.out _).mono ?_; rintro e w1 ⟨rfl, rfl⟩) | (go_at_call 69; refine HFT2.out.mono ?_; rintro e w1 ⟨rfl, rfl⟩))
    go_ret2
    exact ⟨by rw [HRES.out.1, HRES.out.2]; first | done | rfl, rfl⟩
  | true =>
    by_cases h0 : q = 0
    · have HRES : Hid (x = kcanon k y ∧ c = 0) := by
        have h1 := HX2.out
        rw [h0] at h1
        simp at h1
        exact h1
      subst h0
      go_enter Tryz.func44, Tryz.ntmps44
      go_wp2_with (first | (go_at_call 43; refine (HNU.out _).mono ?_; rintro e w1 ⟨rfl, rfl⟩) | (go_at_call 70; refine (HWI.out _).mono ?_; rintro e w1 ⟨rfl, rfl⟩) | (go_at_call 69; refine HFT2.out.mono ?_; rintro e w1 ⟨rfl, rfl⟩) | (go_at_call 71; refine HWB.out.mono ?_; rintro e w1 ⟨rfl, rfl⟩) | (go_at_call 67; refine (HR.out 0 rfl).mono ?_; rintro e w1 ⟨rfl, rfl⟩) | (go_at_call 72; refine (ref06_Canon HK.out y _).mono ?_; rintro e w1 ⟨rfl, rfl⟩))
      go_ret2
      exact ⟨by rw [HRES.out.1, HRES.out.2]; first | done | rfl, rfl⟩
    · have HRES : Hid (x = kcanon k z ∧ c = 0) := by
        have h1 := HX2.out
        simp [h0] at h1
        exact h1
      have e1 : ((q : Int) == 0) = false := by simp; exact h0
      have e2 : (q == 0) = false := by simp; exact h0
      clear h0
      go_enter Tryz.func44, Tryz.ntmps44
      go_wp2_with (first | (go_at_call 43; refine (HNU.out _).mono ?_; rintro e w1 ⟨rfl, rfl⟩) | (go_at_call 70; refine (HWI.out _).mono ?_; rintro e w1 ⟨rfl, rfl⟩) | (go_at_call 69; refine HFT2.out.mono ?_; rintro e w1 ⟨rfl, rfl⟩) | (go_at_call 71; refine HWB.out.mono ?_; rintro e w1 ⟨rfl, rfl⟩) | (go_at_call 72; refine (ref06_Canon HK.out z _).mono ?_; rintro e w1 ⟨rfl, rfl⟩))
      go_ret2
      exact ⟨by rw [HRES.out.1, HRES.out.2]; first | done | rfl, rfl⟩
end Go.Proofs.YtfimpmennkfjcaaGreatDoor
