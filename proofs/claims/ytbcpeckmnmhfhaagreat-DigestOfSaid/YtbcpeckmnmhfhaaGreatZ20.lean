/- Canonical words and their bytes: kind.Canon, darningref06.Canon (kcanon), bits.Little, darningref01.Little (little), scalar.Put, darningref08.Put (kput), run.Pack, darningref09.Pack (kpack). The kind is a number's; words are below 2^64; a list's length is at most 2^36. What darninglaw14.Size and SizeValue return of any meaning whose weight is at most 2^40: szM, szV; where these are small they are the weight. Bytes of canonical words: bits.Little, darningref01.Little (little), scalar.Put, darningref08.Put (kput), run.Pack, darningref09.Pack (kpack). The kind is a number's; words are below 2^64; a list's length is at most 2^36. tag.word, tag.Put, record.fits, record.Put, darningref03.Put, darningref05.Put: rput. The tag is right, the value fits; bytes are at most 2^40. A slice of the call's own whose elements are several cells each, built by appending one element after the other. darninglaw14.Of, OfValue: a copy of any meaning, that reads the same in each world that agrees on what was there at the start and on what the call has laid. -/
import Derived.Test.YtbcpeckmnmhfhaaGreatZ09
import Derived.Test.YtbcpeckmnmhfhaaGreatZ14
import Derived.Test.YtbcpeckmnmhfhaaGreatZ17
import Derived.Test.YtbcpeckmnmhfhaaGreatZ19
import Derived.Deep.AppendLies
import Derived.Deep.RegionHeld3
import Derived.Deep.DeepCutAuto
import Derived.Laws.BitsAllLaws
import Derived.Deep.RegionLaw
namespace Go.Proofs.YtbcpeckmnmhfhaaGreat
open Go.RowKit
theorem knum_cases {k : Int} (h : knumber k = true) : k = 1 ∨ k = 2 ∨ k = 3 ∨ k = 4 ∨ k = 5 ∨ k = 6 ∨ k = 7 ∨ k = 8 ∨ k = 9 ∨ k = 10 ∨ k = 11 ∨ k = 12 ∨ k = 13 ∨ k = 14 := by
  have h' : 1 ≤ k ∧ k ≤ 14 := of_decide_eq_true h
  omega
set_option maxRecDepth 100000 in
set_option maxHeartbeats 4000000 in
theorem kind_Canon_32 (k : Int) (hk : k = 1 ∨ k = 8) (x : Nat) (w : World) :
    Calls Tryz.prog 93 #[.int .i64 k, .int .u64 x] w fun e w' => e = .returned (.tuple #[.int .u64 (kcanon k x), .int .u8 0]) ∧ Below w.heap.size w w' := by
  have HC : Hid (kcanon k x = w32 x) := by rw [Hid, kcanon, if_pos hk]
  have HK : Hid (knumber k = true) := by rcases hk with rfl | rfl <;> rfl
  rcases hk with rfl | rfl
  all_goals
    go_enter Tryz.func93, Tryz.ntmps93
    go_wp2_with (first | (go_at_call 74; refine (kind_Number _ _).mono ?_; rintro e w1 ⟨rfl, hb⟩; rw [HK.out]) | (go_at_call 111; refine (bits_Sign32 x _).mono ?_; rintro e w2 ⟨rfl, rfl⟩) | (go_at_call 110; refine (bits_Wide32 x _).mono ?_; rintro e w3 ⟨rfl, rfl⟩))
    go_ret2
    exact ⟨by rw [HC.out]; rfl, hb⟩
set_option maxRecDepth 100000 in
set_option maxHeartbeats 4000000 in
theorem kind_Canon_7 (x : Nat) (w : World) :
    Calls Tryz.prog 93 #[.int .i64 7, .int .u64 x] w fun e w' => e = .returned (.tuple #[.int .u64 (kcanon 7 x), .int .u8 0]) ∧ Below w.heap.size w w' := by
  have HK : Hid (knumber 7 = true) := rfl
  by_cases h : 0 < x
  · have HC : Hid (kcanon 7 x = 1) := by simp [Hid, kcanon, h]
    go_enter Tryz.func93, Tryz.ntmps93
    go_wp2_with (go_at_call 74; refine (kind_Number _ _).mono ?_; rintro e w1 ⟨rfl, hb⟩; rw [HK.out])
    go_ret2
    exact ⟨by rw [HC.out]; rfl, hb⟩
  · have HC : Hid (kcanon 7 x = 0) := by simp [Hid, kcanon, h]
    obtain rfl : x = 0 := by omega
    go_enter Tryz.func93, Tryz.ntmps93
    go_wp2_with (go_at_call 74; refine (kind_Number _ _).mono ?_; rintro e w1 ⟨rfl, hb⟩; rw [HK.out])
    go_ret2
    exact ⟨by rw [HC.out]; rfl, hb⟩
theorem field_form (s : ByteArray) (a b : Int) (w : World) : (Instr.field 197 (.agg #[.string s, .int .i64 a, .int .i64 b]) 2).run Tryz.prog w = .ok (.int .i64 b) w := by kernel_rfl
theorem forms_at {k : Int} {n : Nat} (h : kright k = true) (hn : kbits k = n) : ∀ (W : World) (r : Nat), MapIs W r intK formsL →
    (Instr.lookup 199 (.map (some r)) (.int .i64 k) false).run Tryz.prog W = .ok (.agg #[.string (kname k), .int .i64 (kwire k), .int .i64 n]) W := by
  intro W r hm
  have hl := map_lookup (P := Tryz.prog) intK_ok Tryz.underlying199 form_zero hm k false
  rw [getOf_forms, if_pos h, hn] at hl
  exact hl
set_option maxRecDepth 100000 in
set_option maxHeartbeats 4000000 in
theorem kind_Canon_low (k : Int) (hk : k = 3 ∨ k = 5 ∨ k = 9 ∨ k = 10 ∨ k = 11) (x : Nat) (w : World) :
    Calls Tryz.prog 93 #[.int .i64 k, .int .u64 x] w fun e w' => e = .returned (.tuple #[.int .u64 (kcanon k x), .int .u8 0]) ∧ Below w.heap.size w w' := by
  have HC : Hid (kcanon k x = x % 4294967296) := by rw [Hid, kcanon, if_neg (by omega), if_neg (by omega), if_pos hk]
  have HK : Hid (knumber k = true) := by rcases hk with rfl | rfl | rfl | rfl | rfl <;> rfl
  have HL := hid (forms_at (k := k) (n := 32) (by rcases hk with rfl | rfl | rfl | rfl | rfl <;> rfl) (by rcases hk with rfl | rfl | rfl | rfl | rfl <;> rfl))
  rcases hk with rfl | rfl | rfl | rfl | rfl
  all_goals
    go_enter Tryz.func93, Tryz.ntmps93
    go_wp2_with (go_at_call 74; refine (kind_Number _ _).mono ?_; rintro e w1 ⟨rfl, hb⟩; rw [HK.out])
    refine (kind_forms _).mono ?_
    rintro e w2 ⟨r, hm, hr, hb2, rfl⟩
    have hl := HL.out w2 r hm
    have hfd := field_form
    have HB : Hid (Below w.heap.size w w2) := hb.trans (hb2.mono hb.size)
    clear hb hb2
    go_wp2_with (go_at_call 112; refine (bits_Low32 x _).mono ?_; rintro e w3 ⟨rfl, rfl⟩)
    go_ret2
    exact ⟨by rw [HC.out]; first | rfl | go_num | (simp [go_sem]; omega), HB.out⟩
set_option maxRecDepth 100000 in
set_option maxHeartbeats 4000000 in
theorem kind_Canon_whole (k : Int) (hk : k = 2 ∨ k = 4 ∨ k = 6 ∨ k = 12 ∨ k = 13 ∨ k = 14) (x : Nat) (w : World) :
    Calls Tryz.prog 93 #[.int .i64 k, .int .u64 x] w fun e w' => e = .returned (.tuple #[.int .u64 (kcanon k x), .int .u8 0]) ∧ Below w.heap.size w w' := by
  have HC : Hid (kcanon k x = x) := by rw [Hid, kcanon, if_neg (by omega), if_neg (by omega), if_neg (by omega)]
  have HK : Hid (knumber k = true) := by rcases hk with rfl | rfl | rfl | rfl | rfl | rfl <;> rfl
  have HL := hid (forms_at (k := k) (n := 64) (by rcases hk with rfl | rfl | rfl | rfl | rfl | rfl <;> rfl) (by rcases hk with rfl | rfl | rfl | rfl | rfl | rfl <;> rfl))
  rcases hk with rfl | rfl | rfl | rfl | rfl | rfl
  all_goals
    go_enter Tryz.func93, Tryz.ntmps93
    go_wp2_with (go_at_call 74; refine (kind_Number _ _).mono ?_; rintro e w1 ⟨rfl, hb⟩; rw [HK.out])
    refine (kind_forms _).mono ?_
    rintro e w2 ⟨r, hm, hr, hb2, rfl⟩
    have hl := HL.out w2 r hm
    have hfd := field_form
    have HB : Hid (Below w.heap.size w w2) := hb.trans (hb2.mono hb.size)
    clear hb hb2
    go_wp2_with fail
    go_ret2
    exact ⟨by rw [HC.out]; rfl, HB.out⟩
theorem kind_Canon {k : Int} (hk : knumber k = true) (x : Nat) (w : World) :
    Calls Tryz.prog 93 #[.int .i64 k, .int .u64 x] w fun e w' => e = .returned (.tuple #[.int .u64 (kcanon k x), .int .u8 0]) ∧ Below w.heap.size w w' := by
  rcases knum_cases hk with h | h | h | h | h | h | h | h | h | h | h | h | h | h
  case inr.inr.inr.inr.inr.inr.inl => subst h; exact kind_Canon_7 x w
  all_goals first
    | exact kind_Canon_32 k (by omega) x w
    | exact kind_Canon_low k (by omega) x w
    | exact kind_Canon_whole k (by omega) x w
set_option maxRecDepth 100000 in
set_option maxHeartbeats 4000000 in
theorem ref06_Canon {k : Int} (hk : knumber k = true) (x : Nat) (w : World) :
    Calls Tryz.prog 52 #[.int .i64 k, .int .u64 x] w fun e w' => e = .returned (.int .u64 (kcanon k x)) ∧ w = w' := by
  have H32 : Hid ((k = 1 ∨ k = 8) → kcanon k x = w32 x) := fun h => by rw [kcanon, if_pos h]
  have HLO : Hid ((k = 3 ∨ k = 5 ∨ k = 9 ∨ k = 10 ∨ k = 11) → kcanon k x = x % 4294967296) := fun h => by rw [kcanon, if_neg (by omega), if_neg (by omega), if_pos h]
  have HWH : Hid ((k = 2 ∨ k = 4 ∨ k = 6 ∨ k = 12 ∨ k = 13 ∨ k = 14) → kcanon k x = x) := fun h => by rw [kcanon, if_neg (by omega), if_neg (by omega), if_neg (by omega)]
  have H7 : Hid (k = 7 → kcanon k x = if 0 < x then 1 else 0) := fun h => by rw [kcanon, if_neg (by omega), if_pos h]
  have hk' := knum_cases hk
  clear hk
  rcases hk' with rfl | rfl | rfl | rfl | rfl | rfl | rfl | rfl | rfl | rfl | rfl | rfl | rfl | rfl
  case inr.inr.inr.inr.inr.inr.inl =>
    by_cases h : 0 < x
    · have HC : Hid (kcanon 7 x = 1) := by rw [Hid, H7.out rfl, if_pos h]
      go_enter Tryz.func52, Tryz.ntmps52
      go_wp2_with fail
      go_ret
      exact ⟨by rw [HC.out]; rfl, rfl⟩
    · have HC : Hid (kcanon 7 x = 0) := by rw [Hid, H7.out rfl, if_neg h]
      go_enter Tryz.func52, Tryz.ntmps52
      go_wp2_with fail
      go_ret
      exact ⟨by rw [HC.out]; rfl, rfl⟩
  all_goals
    go_enter Tryz.func52, Tryz.ntmps52
    go_wp2_with (first | (go_at_call 68; refine (ref01_Sign32 x _).mono ?_; rintro e w2 ⟨rfl, rfl⟩) | (go_at_call 67; refine (ref01_Wide x _).mono ?_; rintro e w3 ⟨rfl, rfl⟩))
    go_ret
    first
      | exact ⟨by rw [H32.out (by decide)]; rfl, rfl⟩
      | exact ⟨by rw [HLO.out (by decide)]; exact ret1 (int_eq (by omega)), rfl⟩
      | exact ⟨by rw [HWH.out (by decide)]; rfl, rfl⟩
end Go.Proofs.YtbcpeckmnmhfhaaGreat
namespace Go.Proofs.YtbcpeckmnmhfhaaGreat
open Go.RowKit
theorem size_val (w : World) : (sizeOf 103).run Tryz.prog w = .ok 4 w := by kernel_rfl
theorem size_msg (w : World) : (sizeOf 63).run Tryz.prog w = .ok 2 w := by kernel_rfl
theorem size_str (w : World) : (sizeOf 9).run Tryz.prog w = .ok 1 w := by kernel_rfl
theorem size_u64 (w : World) : (sizeOf 27).run Tryz.prog w = .ok 1 w := by kernel_rfl
theorem twt_take (l : List (List UInt8)) (k : Nat) (t : List UInt8) (h : l[k]? = some t) : twt (l.take (k + 1)) = twt (l.take k) + (1 + t.length) := sum_take _ l k t h
theorem twt_take_le (l : List (List UInt8)) (k : Nat) : twt (l.take k) ≤ twt l := sum_take_le _ l k
end Go.Proofs.YtbcpeckmnmhfhaaGreat
namespace Go.Proofs.YtbcpeckmnmhfhaaGreat
open Go.RowKit
theorem little_byte (x k : Nat) : (x : Int) / 2 ^ (8 * k) % 256 = ((b8 (x / 256 ^ k % 256)).toNat : Int) := by
  have e : (2 : Int) ^ (8 * k) = ((256 ^ k : Nat) : Int) := by
    rw [Int.pow_mul]
    simp
  rw [e]
  simp [b8]
set_option maxRecDepth 100000 in
set_option maxHeartbeats 4000000 in
theorem bits_Little_8 (x : Nat) (w : World) :
    Calls Tryz.prog 60 #[.int .u64 x, .int .i64 8] w fun e w' => ∃ v', e = .returned v' ∧ Own w' w.heap.size v' (little 8 x) ∧ Below w.heap.size w w' := by
  go_enter Tryz.func60, Tryz.ntmps60
  go_wp2_with fail
  go_loopw [5, 6, 10] (fun v5 _ v10 wr => ∃ k : Nat, k ≤ 8 ∧ v10 = .int .i64 k ∧ Hid (Below w.heap.size w wr ∧ Own wr w.heap.size v5 (little k x))) (fun _ _ v10 _ => 8 - (intOf v10).toNat)
  case atStart => exact ⟨0, by omega, rfl, Below.refl _ _, own_nil _ _⟩
  case round =>
    obtain ⟨k, hk, rfl, HB⟩ := hrel
    by_cases hlt : k < 8
    · have hB := bytes_one wr 5 (b8 (x / 256 ^ k % 256)) ((x : Int) / 2 ^ (8 * k) % 256) (little_byte x k)
      have hlen := little_len k x
      obtain ⟨v', w', hr, hO', hg, -⟩ := own_append (w := wr.alloc (.cells #[.int .u8 ((x : Int) / 2 ^ (8 * k) % 256)] 5)) (World.ownsRow.alloc HB.out.2 _) hB (by rw [hlen]; simp; omega) (by have := HB.out.1.size; simp; omega)
      have HR := hid hr
      have HO2 := hid hO'
      have hg2 := own_grown (w := wr.alloc (.cells #[.int .u8 ((x : Int) / 2 ^ (8 * k) % 256)] 5)) (World.ownsRow.alloc HB.out.2 _) (HB.out.1.alloc HB.out.1.size _) hg
      have HG2 := hid hg2
      clear hB hlen hr hO' hg hg2
      go_wp2_with (at_builtin; refine wpList_append_eq rfl _ _ _ rfl _ _ rfl rfl HR.out ?_)
      go_roundw
      case rel => exact ⟨k + 1, hlt, by go_num, HG2.out, by rw [little_succ]; exact HO2.out⟩
      case measure => simp [intOf]; omega
    · obtain rfl : k = 8 := by omega
      go_wp2_with fail
      go_ret
      exact ⟨_, rfl, HB.out.2, HB.out.1⟩
set_option maxRecDepth 100000 in
set_option maxHeartbeats 4000000 in
theorem ref01_Little_8 (x : Nat) (hx : x < 2 ^ 64) (w : World) :
    Calls Tryz.prog 53 #[.int .u64 x, .int .i64 8] w fun e w' => ∃ v', e = .returned v' ∧ Own w' w.heap.size v' (little 8 x) ∧ Below w.heap.size w w' := by
  have HX := hid hx
  clear hx
  go_enter Tryz.func53, Tryz.ntmps53
  go_wp2_with fail
  go_loopw [0, 5, 6] (fun v0 v5 v6 wr => ∃ (k y : Nat), k ≤ 8 ∧ v6 = .int .i64 k ∧ v0 = .int .u64 y ∧ Hid (y = x / 256 ^ k) ∧ Hid (Below w.heap.size w wr ∧ Own wr w.heap.size v5 (little k x))) (fun _ _ v6 _ => 8 - (intOf v6).toNat)
  case atStart => exact ⟨0, x, by omega, rfl, rfl, by simp [Hid], Below.refl _ _, own_nil _ _⟩
  case round =>
    obtain ⟨k, y, hk, rfl, rfl, HY, HB⟩ := hrel
    have hyx : y ≤ x := by rw [HY.out]; exact Nat.div_le_self _ _
    have hy64 : y < 2 ^ 64 := Nat.lt_of_le_of_lt hyx HX.out
    clear hyx
    by_cases hlt : k < 8
    · have hB := bytes_one wr 5 (b8 (y % 256)) ((y : Int) % 256) (by simp [b8])
      have hlen := little_len k x
      obtain ⟨v', w', hr, hO', hg, -⟩ := own_append (w := wr.alloc (.cells #[.int .u8 ((y : Int) % 256)] 5)) (World.ownsRow.alloc HB.out.2 _) hB (by rw [hlen]; simp; omega) (by have := HB.out.1.size; simp; omega)
      have HR := hid hr
      have HO2 := hid hO'
      have hg2 := own_grown (w := wr.alloc (.cells #[.int .u8 ((y : Int) % 256)] 5)) (World.ownsRow.alloc HB.out.2 _) (HB.out.1.alloc HB.out.1.size _) hg
      have HG2 := hid hg2
      have HW : Hid (IntKind.u64.wrap ((y : Int) / 256) = ((y / 256 : Nat) : Int)) := by rw [Hid, IntWalk.u64_in _ (by omega)]; omega
      clear hB hlen hr hO' hg hg2
      go_wp2_with (at_builtin; refine wpList_append_eq rfl _ _ _ rfl _ _ rfl rfl HR.out ?_)
      go_roundw
      case rel => exact ⟨k + 1, y / 256, hlt, by go_num, by first | rfl | go_num | (rw [HW.out]), by rw [Hid, HY.out, Nat.div_div_eq_div_mul, ← Nat.pow_succ], HG2.out, by rw [little_succ, ← HY.out]; exact HO2.out⟩
      case measure => simp [intOf]; omega
    · obtain rfl : k = 8 := by omega
      go_wp2_with fail
      go_ret
      exact ⟨_, rfl, HB.out.2, HB.out.1⟩
set_option maxRecDepth 100000 in
set_option maxHeartbeats 4000000 in
theorem scalar_wide (k : Int) (hk : k = 0 ∨ k = 1 ∨ k = 5) (w : World) :
    Calls Tryz.prog 92 #[.int .i64 k] w fun e w' => e = .returned (.int .i64 (if k = 1 then 8 else if k = 5 then 4 else 0)) ∧ w = w' := by
  rcases hk with rfl | rfl | rfl
  all_goals
    go_enter Tryz.func92, Tryz.ntmps92
    go_wp2_with fail
    go_ret
    exact ⟨rfl, rfl⟩
end Go.Proofs.YtbcpeckmnmhfhaaGreat
namespace Go.Proofs.YtbcpeckmnmhfhaaGreat
open Go.RowKit
end Go.Proofs.YtbcpeckmnmhfhaaGreat
namespace Go.Proofs.YtbcpeckmnmhfhaaGreat
open Go.RowKit
/-- P holds in each world that agrees with w on the blocks below n0 and on those from base on. -/
def Apart (n0 base : Nat) (w : World) (P : World → Prop) : Prop := ∀ w', (∀ b, b < w.heap.size → (b < n0 ∨ base ≤ b) → w'.heap[b]? = w.heap[b]?) → P w'
theorem Apart.here {n0 base : Nat} {w : World} {P : World → Prop} (h : Apart n0 base w P) : P w := h w fun _ _ _ => rfl
theorem Apart.later {n0 base : Nat} {w w2 : World} {P : World → Prop} (h : Apart n0 base w P) (hb : Below w.heap.size w w2) : Apart n0 base w2 P := fun w' hw' => h w' fun b hlt hc => (hw' b (Nat.lt_of_lt_of_le hlt hb.size) hc).trans (hb.block b hlt)
theorem Apart.mono {n0 base base' : Nat} {w : World} {P : World → Prop} (h : Apart n0 base w P) (hb : base' ≤ base) : Apart n0 base' w P := fun w' hw' => h w' fun b hlt hc => hw' b hlt (hc.imp id fun h => Nat.le_trans hb h)
def RowsOwn {α : Type} (P : World → List Value → α → Prop) (T : TypeId) (k n0 base : Nat) (w : World) (v : Value) (l : List α) : Prop :=
  ∃ rows : List (List Value), rows.length = l.length ∧ (∀ r ∈ rows, r.length = k) ∧ w.ownsRow base T k v l.length rows.flatten ∧
    ∀ w', (∀ b, b < w.heap.size → v.ownBlock ≠ some b → (b < n0 ∨ base ≤ b) → w'.heap[b]? = w.heap[b]?) → ∀ (i : Nat) (r : List Value) (x : α), rows[i]? = some r → l[i]? = some x → P w' r x
theorem RowsOwn.nil {α : Type} (P : World → List Value → α → Prop) (T : TypeId) (k n0 base : Nat) (w : World) : RowsOwn P T k n0 base w (.slice none 0 0) [] :=
  ⟨[], rfl, by simp, World.ownsRow_nil _ _ _ _, fun _ _ i r x h => by simp at h⟩
theorem RowsOwn.later {α : Type} {P : World → List Value → α → Prop} {T : TypeId} {k n0 base : Nat} {w w2 : World} {v : Value} {l : List α} (h : RowsOwn P T k n0 base w v l)
    (hw : ∀ b, b < w.heap.size → (b < n0 ∨ base ≤ b) → w2.heap[b]? = w.heap[b]?) (hs : w.heap.size ≤ w2.heap.size) : RowsOwn P T k n0 base w2 v l := by
  obtain ⟨rows, h1, h2, h3, h4⟩ := h
  refine ⟨rows, h1, h2, row_keep h3 fun b cur hb he => hw b (Array.getElem?_eq_some_iff.1 he).1 (.inr hb), fun w' hw' => h4 w' fun b hlt hne hc => (hw' b (by omega) hne hc).trans (hw b hlt hc)⟩
theorem RowsOwn.below {α : Type} {P : World → List Value → α → Prop} {T : TypeId} {k n0 base : Nat} {w w2 : World} {v : Value} {l : List α} (h : RowsOwn P T k n0 base w v l) (hb : Below w.heap.size w w2) : RowsOwn P T k n0 base w2 v l :=
  h.later (fun b hlt _ => hb.block b hlt) hb.size
theorem RowsOwn.form {α : Type} {P : World → List Value → α → Prop} {T : TypeId} {k n0 base : Nat} {w : World} {v : Value} {l : List α} (h : RowsOwn P T k n0 base w v l) : ∃ a c, v = .slice a l.length c := by
  obtain ⟨rows, -, -, h3, -⟩ := h
  rcases h3.2 with ⟨rfl, h0⟩ | ⟨g, cap, cur, rfl, _⟩
  · exact ⟨none, 0, by rw [h0]⟩
  · exact ⟨_, _, rfl⟩
theorem RowsOwn.at {α : Type} {P : World → List Value → α → Prop} {T : TypeId} {k n0 base : Nat} {w : World} {v : Value} {l : List α} (h : RowsOwn P T k n0 base w v l) (hl : l.length ≤ 140737488355328) {w' : World}
    (hw : ∀ b, b < w.heap.size → (b < n0 ∨ base ≤ b) → w'.heap[b]? = w.heap[b]?) : RowsAt P k w' v l := by
  obtain ⟨rows, h1, h2, h3, h4⟩ := h
  exact ⟨rows, h1, h2, row_seg (row_keep h3 fun b cur hb he => hw b (Array.getElem?_eq_some_iff.1 he).1 (.inr hb)) hl, fun i r x hr hx => h4 w' (fun b hlt _ hc => hw b hlt hc) i r x hr hx⟩
/-- one element more, laid in a block of its own (at w.heap.size) -/
theorem RowsOwn.append' {α : Type} {P : World → List Value → α → Prop} {T : TypeId} {k n0 base : Nat} {w : World} {v : Value} {l : List α} (h : RowsOwn P T k n0 base w v l) (hk : 0 < k)
    {G : Program} (t : TypeId) (z : Value) (bytes : Nat) (ht : G.underlying t = some (.slice T)) (hinfo : (G.info? T).map (fun i => (i.zero, i.size, i.bytes)) = some (some z, k, bytes)) (hzs : z.cells.size = k)
    (cells : Array Value) (hr : cells.size = k) (h1 : ∀ u ∈ cells.toList, u.oneCell' = true) (x : α)
    (hP : ∀ w', (∀ b, b < w.heap.size → v.ownBlock ≠ some b → (b < n0 ∨ base ≤ b) → w'.heap[b]? = w.heap[b]?) → P w' cells.toList x) (hlen : l.length ≤ 1099511627776) (hby : bytes ≤ 120) (hbase : base ≤ w.heap.size) :
    ∃ v' w', (Builtin.append_ #[t, t] t #[v, .slice (some ⟨w.heap.size, 0, none⟩) 1 1]).run G (w.alloc (.cells cells T)) = .ok v' w' ∧ RowsOwn P T k n0 base w' v' (l ++ [x]) ∧
      (w.alloc (.cells cells T)).grownBy w' v.ownBlock ∧ (v'.ownBlock = v.ownBlock ∨ v'.ownBlock = some (w.alloc (.cells cells T)).heap.size) := by
  obtain ⟨rows, g1, g2, g3, g4⟩ := h
  have hseg : Seg (w.alloc (.cells cells T)) (.slice (some ⟨w.heap.size, 0, none⟩) 1 1) k 1 cells.toList := by
    refine ⟨by simp [hr], by omega, some ⟨w.heap.size, 0, none⟩, 1, rfl, Nat.le_refl _, by omega, by simp, fun j u hu => ⟨_, _, rfl, ?_⟩⟩
    rw [Nat.zero_add, cell_of_row _ _ _ cells T (0, 0) (heap_alloc_new w _)]
    simpa using hu
  have hb1 : (l.length + 1) * bytes ≤ 140737488355328 := Nat.le_trans (Nat.mul_le_mul_left _ hby) (by omega)
  obtain ⟨v', w', hrun, hO, hg, hat⟩ := seg_append (P := G) (w.alloc (.cells cells T)) base t t T z k bytes ht hinfo hzs hk v _ l.length 1 rows.flatten cells.toList
    (World.ownsRow.alloc g3 _) hseg h1 (by omega) hb1 (by simp; omega)
  refine ⟨v', w', hrun, ⟨rows ++ [cells.toList], by simp [g1], ?_, by simpa using hO, ?_⟩, hg, hat⟩
  · intro r hr'
    rcases List.mem_append.1 hr' with h | h
    · exact g2 r h
    · simp at h; subst h; simpa using hr
  · intro w2 hw2
    have hsz : w.heap.size + 1 ≤ w'.heap.size := by have := hg.size; simpa using this
    have hold : ∀ b, b < w.heap.size → v.ownBlock ≠ some b → (b < n0 ∨ base ≤ b) → w2.heap[b]? = w.heap[b]? := by
      intro b hlt hne hc
      have hne' : v'.ownBlock ≠ some b := by
        rcases hat with e | e
        · rw [e]; exact hne
        · rw [e]; intro e2; simp at e2; omega
      exact ((hw2 b (by omega) hne' hc).trans (hg.block b (by simp; omega) (fun e => hne e.symm))).trans (Below.heap_alloc w _ b hlt)
    intro i r y hri hyi
    by_cases hil : i < l.length
    · rw [List.getElem?_append_left (by omega)] at hri
      rw [List.getElem?_append_left hil] at hyi
      exact g4 w2 hold i r y hri hyi
    · have hi : i = l.length := by
        have := (List.getElem?_eq_some_iff.1 hyi).1
        simp at this; omega
      subst hi
      rw [← g1, List.getElem?_concat_length] at hri
      rw [List.getElem?_concat_length] at hyi
      cases hri
      cases hyi
      exact hP w2 hold
/-- .. whose parts lie apart from the list -/
theorem RowsOwn.append {α : Type} {P : World → List Value → α → Prop} {T : TypeId} {k n0 base : Nat} {w : World} {v : Value} {l : List α} (h : RowsOwn P T k n0 base w v l) (hk : 0 < k) (hn0 : n0 ≤ base)
    {G : Program} (t : TypeId) (z : Value) (bytes : Nat) (ht : G.underlying t = some (.slice T)) (hinfo : (G.info? T).map (fun i => (i.zero, i.size, i.bytes)) = some (some z, k, bytes)) (hzs : z.cells.size = k)
    (cells : Array Value) (hr : cells.size = k) (h1 : ∀ u ∈ cells.toList, u.oneCell' = true) (x : α) (nb : Nat) (hnb : ∀ b, v.ownBlock = some b → b < nb) (hbn : base ≤ nb)
    (hP : Apart n0 nb w fun w' => P w' cells.toList x) (hlen : l.length ≤ 1099511627776) (hby : bytes ≤ 120) (hbase : base ≤ w.heap.size) :
    ∃ v' w', (Builtin.append_ #[t, t] t #[v, .slice (some ⟨w.heap.size, 0, none⟩) 1 1]).run G (w.alloc (.cells cells T)) = .ok v' w' ∧ RowsOwn P T k n0 base w' v' (l ++ [x]) ∧
      (w.alloc (.cells cells T)).grownBy w' v.ownBlock ∧ (v'.ownBlock = v.ownBlock ∨ v'.ownBlock = some (w.alloc (.cells cells T)).heap.size) := by
  have g3 := h
  obtain ⟨rows, -, -, g3, -⟩ := g3
  refine h.append' hk t z bytes ht hinfo hzs cells hr h1 x (fun w2 hold => hP w2 fun b hlt hc => hold b hlt ?_ (hc.imp id fun h => Nat.le_trans hbn h)) hlen hby hbase
  intro e
  have := hnb b e
  rcases hc with hc | hc
  · have hb2 : base ≤ b := by
      rcases g3.2 with ⟨rfl, _⟩ | ⟨g, cap, cur, rfl, hb, _⟩
      · simp [Value.ownBlock] at e
      · simp [Value.ownBlock] at e; omega
    omega
  · omega
theorem RowsOwn.own {α : Type} {P : World → List Value → α → Prop} {T : TypeId} {k n0 base : Nat} {w : World} {v : Value} {l : List α} (h : RowsOwn P T k n0 base w v l) (b : Nat) (e : v.ownBlock = some b) : base ≤ b ∧ b < w.heap.size := by
  obtain ⟨rows, -, -, h3, -⟩ := h
  rcases h3.2 with ⟨rfl, h0⟩ | ⟨g, cap, cur, rfl, hb, hg, _⟩
  · simp [Value.ownBlock] at e
  · simp [Value.ownBlock] at e
    subst e
    exact ⟨hb, (Array.getElem?_eq_some_iff.1 hg).1⟩
/-- a call that lays a new element, the element's block, the append -/
theorem RowsOwn.step {α : Type} {P : World → List Value → α → Prop} {T : TypeId} {k n0 base i : Nat} {wr w1 : World} {oa : Option Addr} {oc : Nat} {l : List α} (h : RowsOwn P T k n0 base wr (.slice oa i oc) l) (hb : Below wr.heap.size wr w1) (hk : 0 < k) (hn0 : n0 ≤ base) (hbs : base ≤ wr.heap.size) (hil : l.length = i)
    {G : Program} (t : TypeId) (z : Value) (bytes : Nat) (ht : G.underlying t = some (.slice T)) (hinfo : (G.info? T).map (fun i => (i.zero, i.size, i.bytes)) = some (some z, k, bytes)) (hzs : z.cells.size = k)
    (cells : Array Value) (hr : cells.size = k) (h1 : ∀ u ∈ cells.toList, u.oneCell' = true) (x : α) (hP : Apart n0 wr.heap.size w1 fun w' => P w' cells.toList x) (hlen : i ≤ 1099511627776) (hby : bytes ≤ 120) :
    ∃ a' c' w5, (Builtin.append_ #[t, t] t #[.slice oa i oc, .slice (some ⟨w1.heap.size, 0, none⟩) 1 1]).run G (w1.alloc (.cells cells T)) = .ok (.slice a' (i + 1) c') w5 ∧ RowsOwn P T k n0 base w5 (.slice a' (i + 1) c') (l ++ [x]) ∧
      Below base wr (w1.alloc (.cells cells T)) ∧ Below base wr w5 := by
  have hs := hb.size
  have hB1 : Below base wr (w1.alloc (.cells cells T)) := (hb.mono hbs).alloc (by omega) _
  obtain ⟨v', w', hrun, hO, hg, -⟩ := (h.below hb).append hk hn0 t z bytes ht hinfo hzs cells hr h1 x wr.heap.size (fun b e => (h.own b e).2) hbs hP (by omega) hby (by omega)
  obtain ⟨a', c', rfl⟩ := hO.form
  rw [List.length_append, List.length_singleton, hil] at *
  exact ⟨a', c', w', hrun, hO, hB1, hB1.grown hg (by have := hB1.size; omega) fun q e => (h.own q e).1⟩
end Go.Proofs.YtbcpeckmnmhfhaaGreat
namespace Go.Proofs.YtbcpeckmnmhfhaaGreat
open Go.RowKit Go.Shelf
def SubP (d : Nat) (w : World) (r : List Value) (x : M d) : Prop := MsgAt d w (.agg r.toArray) x
def ValP' (d : Nat) (w : World) (r : List Value) (x : Val (M d)) : Prop := ValAt (MsgAt d) w (.agg r.toArray) x
theorem info_rmsg : (Tryz.prog.info? 41).map (fun i => (i.zero, i.size, i.bytes)) = some (some (.agg #[.slice none 0 0, .slice none 0 0]), 2, 48) := by kernel_rfl
theorem info_rval : (Tryz.prog.info? 79).map (fun i => (i.zero, i.size, i.bytes)) = some (some (.agg #[.int .i64 0, .slice none 0 0, .slice none 0 0, .slice none 0 0]), 4, 80) := by kernel_rfl
theorem MsgAt.form : ∀ {d : Nat} {w : World} {v : Value} {x : M d}, MsgAt d w v x → ∃ a1 n1 c1 a2 n2 c2, v = .agg #[.slice a1 n1 c1, .slice a2 n2 c2]
  | 0, _, _, _, h => h.elim
  | d + 1, _, _, _, h => by
    obtain ⟨vv, uv, rfl, hV, hU⟩ := h
    obtain ⟨-, va, vc, rfl, -, -⟩ := hV.open
    obtain ⟨-, ua, uc, rfl, -, -⟩ := hU.open
    exact ⟨_, _, _, _, _, _, rfl⟩
theorem mwt_pos : ∀ {d : Nat} (x : M d), 1 ≤ mwt d x
  | 0, x => x.elim
  | d + 1, x => by show 1 ≤ 1 + _ + _; omega
theorem sub_count {d' : Nat} : ∀ (l : List (M d')) (d : Nat), d = d' → l.length ≤ (l.map (mwt d')).sum
  | [], _, _ => by simp
  | x :: t, d, h => by
    have := sub_count t d h
    have := mwt_pos x
    rw [List.map_cons, List.sum_cons, List.length_cons]
    omega
end Go.Proofs.YtbcpeckmnmhfhaaGreat
