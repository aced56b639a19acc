/- Parts of a proof: texts of the author, merged. No condition of their own. -/
import Derived.Test.YtaefpjecalnbcaaGreatZ01
import Derived.Test.YtaefpjecalnbcaaGreatZ02
import Derived.Test.YtaefpjecalnbcaaGreatZ07
import Derived.Test.YtaefpjecalnbcaaGreatZ08
import Derived.Test.YtaefpjecalnbcaaGreatZ09
import Derived.Test.YtaefpjecalnbcaaGreatZ10
import Derived.Test.YtaefpjecalnbcaaGreatZ11
import Derived.Test.YtaefpjecalnbcaaGreatZ13
import Derived.Test.YtaefpjecalnbcaaGreatZ14
import Derived.Deep.AppendLies
import Derived.Deep.RegionHeld3
import Derived.Deep.DeepCutAuto
import Derived.RangeFuncNested
import Derived.RangeFuncCalls
import Derived.Lib.AppendZerosOnto
namespace Go.Proofs.YtaefpjecalnbcaaGreat
open Go.RowKit
theorem fits_sub {α : Type} {R : Int → α → Bool} {f : Fld} {v : Val α} (h : fitsB R f v = true) (hk : f.kind = 17) (hr : f.rep = false) : ∃ y, v.subs = [y] ∧ R f.of y = true := by
  unfold fitsB at h
  by_cases h0 : v.words.length + v.texts.length + v.subs.length = 0 ∨ 1 < v.words.length + v.texts.length + v.subs.length ∧ f.rep = false
  · rw [if_pos h0] at h; cases h
  · rw [if_neg h0, if_neg (by rw [hk]; decide), if_pos hk, Bool.and_eq_true] at h
    have h1 : v.words.length = 0 ∧ v.texts.length = 0 := of_decide_eq_true h.1
    have h2 : v.subs.length = 1 := by
      by_cases h3 : 1 < v.words.length + v.texts.length + v.subs.length
      · exact absurd (.inr ⟨h3, hr⟩) h0
      · have : ¬ v.words.length + v.texts.length + v.subs.length = 0 := fun h => h0 (.inl h)
        omega
    match hs : v.subs, h2 with
    | [y], _ =>
      rw [hs] at h
      exact ⟨y, rfl, by simpa using h.2⟩
theorem right_range {s : List Mes} : ∀ {d : Nat} {root : Int} {y : M d}, rightB s d root y = true → ∃ r : Nat, root = r ∧ r < s.length
  | 0, _, _, h => by cases h
  | d + 1, root, y, h => by
    unfold rightB at h
    by_cases h0 : root < 0 ∨ (s.length : Int) ≤ root
    · rw [if_pos h0] at h; cases h
    · exact ⟨root.toNat, by omega, by omega⟩
end Go.Proofs.YtaefpjecalnbcaaGreat
namespace Go.Proofs.YtaefpjecalnbcaaGreat
open Go.RowKit
def StrsOwn (w : World) (base : Nat) (v : Value) (l : List (List UInt8)) : Prop := w.ownsRow base 9 1 v l.length (l.map strV)
theorem info_string : (Tryz.prog.info? 9).map (fun i => (i.zero, i.size, i.bytes)) = some (some (.string ⟨#[]⟩), 1, 16) := by kernel_rfl
theorem under_strl : Tryz.prog.underlying 25 = some (.slice 9) := Tryz.underlying25
theorem StrsOwn.form {w : World} {base : Nat} {v : Value} {l : List (List UInt8)} (h : StrsOwn w base v l) : ∃ a c, v = .slice a l.length c := by
  rcases h.2 with ⟨h1, h2⟩ | ⟨g, cap, cur, hv, -⟩
  · exact ⟨none, 0, by rw [h1, h2]⟩
  · exact ⟨_, _, hv⟩
end Go.Proofs.YtaefpjecalnbcaaGreat
namespace Go.Proofs.YtaefpjecalnbcaaGreat
open Go.RowKit
end Go.Proofs.YtaefpjecalnbcaaGreat
namespace Go.Proofs.YtaefpjecalnbcaaGreat
open Go.RowKit
theorem knum_cases {k : Int} (h : knumber k = true) : k = 1 ∨ k = 2 ∨ k = 3 ∨ k = 4 ∨ k = 5 ∨ k = 6 ∨ k = 7 ∨ k = 8 ∨ k = 9 ∨ k = 10 ∨ k = 11 ∨ k = 12 ∨ k = 13 ∨ k = 14 := by
  have h' : 1 ≤ k ∧ k ≤ 14 := of_decide_eq_true h
  omega
set_option maxRecDepth 100000 in
set_option maxHeartbeats 4000000 in
theorem kind_Canon_32 (k : Int) (hk : k = 1 ∨ k = 8) (x : Nat) (w : World) :
    Calls Tryz.prog 100 #[.int .i64 k, .int .u64 x] w fun e w' => e = .returned (.tuple #[.int .u64 (kcanon k x), .int .u8 0]) ∧ Below w.heap.size w w' := by
  have HC : Hid (kcanon k x = w32 x) := by rw [Hid, kcanon, if_pos hk]
  have HK : Hid (knumber k = true) := by rcases hk with rfl | rfl <;> rfl
  rcases hk with rfl | rfl
  all_goals
    go_enter Tryz.func100, Tryz.ntmps100
    go_wp2_with (first | (go_at_call 97; refine (kind_Number _ _).mono ?_; rintro e w1 ⟨rfl, hb⟩; rw [HK.out]) | (go_at_call 138; refine (bits_Sign32 x _).mono ?_; rintro e w2 ⟨rfl, rfl⟩) | (go_at_call 137; refine (bits_Wide32 x _).mono ?_; rintro e w3 ⟨rfl, rfl⟩))
    go_ret2
    exact ⟨by rw [HC.out]; rfl, hb⟩
set_option maxRecDepth 100000 in
set_option maxHeartbeats 4000000 in
theorem kind_Canon_7 (x : Nat) (w : World) :
    Calls Tryz.prog 100 #[.int .i64 7, .int .u64 x] w fun e w' => e = .returned (.tuple #[.int .u64 (kcanon 7 x), .int .u8 0]) ∧ Below w.heap.size w w' := by
  have HK : Hid (knumber 7 = true) := rfl
  by_cases h : 0 < x
  · have HC : Hid (kcanon 7 x = 1) := by simp [Hid, kcanon, h]
    go_enter Tryz.func100, Tryz.ntmps100
    go_wp2_with (go_at_call 97; refine (kind_Number _ _).mono ?_; rintro e w1 ⟨rfl, hb⟩; rw [HK.out])
    go_ret2
    exact ⟨by rw [HC.out]; rfl, hb⟩
  · have HC : Hid (kcanon 7 x = 0) := by simp [Hid, kcanon, h]
    obtain rfl : x = 0 := by omega
    go_enter Tryz.func100, Tryz.ntmps100
    go_wp2_with (go_at_call 97; refine (kind_Number _ _).mono ?_; rintro e w1 ⟨rfl, hb⟩; rw [HK.out])
    go_ret2
    exact ⟨by rw [HC.out]; rfl, hb⟩
theorem field_form (s : ByteArray) (a b : Int) (w : World) : (Instr.field 194 (.agg #[.string s, .int .i64 a, .int .i64 b]) 2).run Tryz.prog w = .ok (.int .i64 b) w := by kernel_rfl
theorem forms_at {k : Int} {n : Nat} (h : kright k = true) (hn : kbits k = n) : ∀ (W : World) (r : Nat), MapIs W r intK formsL →
    (Instr.lookup 195 (.map (some r)) (.int .i64 k) false).run Tryz.prog W = .ok (.agg #[.string (kname k), .int .i64 (kwire k), .int .i64 n]) W := by
  intro W r hm
  have hl := map_lookup (P := Tryz.prog) intK_ok Tryz.underlying195 form_zero hm k false
  rw [getOf_forms, if_pos h, hn] at hl
  exact hl
set_option maxRecDepth 100000 in
set_option maxHeartbeats 4000000 in
theorem kind_Canon_low (k : Int) (hk : k = 3 ∨ k = 5 ∨ k = 9 ∨ k = 10 ∨ k = 11) (x : Nat) (w : World) :
    Calls Tryz.prog 100 #[.int .i64 k, .int .u64 x] w fun e w' => e = .returned (.tuple #[.int .u64 (kcanon k x), .int .u8 0]) ∧ Below w.heap.size w w' := by
  have HC : Hid (kcanon k x = x % 4294967296) := by rw [Hid, kcanon, if_neg (by omega), if_neg (by omega), if_pos hk]
  have HK : Hid (knumber k = true) := by rcases hk with rfl | rfl | rfl | rfl | rfl <;> rfl
  have HL := hid (forms_at (k := k) (n := 32) (by rcases hk with rfl | rfl | rfl | rfl | rfl <;> rfl) (by rcases hk with rfl | rfl | rfl | rfl | rfl <;> rfl))
  rcases hk with rfl | rfl | rfl | rfl | rfl
  all_goals
    go_enter Tryz.func100, Tryz.ntmps100
    go_wp2_with (go_at_call 97; refine (kind_Number _ _).mono ?_; rintro e w1 ⟨rfl, hb⟩; rw [HK.out])
    refine (kind_forms _).mono ?_
    rintro e w2 ⟨r, hm, hr, hb2, rfl⟩
    have hl := HL.out w2 r hm
    have hfd := field_form
    have HB : Hid (Below w.heap.size w w2) := hb.trans (hb2.mono hb.size)
    clear hb hb2
    go_wp2_with (go_at_call 140; refine (bits_Low32 x _).mono ?_; rintro e w3 ⟨rfl, rfl⟩)
    go_ret2
    exact ⟨by rw [HC.out]; first | rfl | go_num | (simp [go_sem]; omega), HB.out⟩
set_option maxRecDepth 100000 in
set_option maxHeartbeats 4000000 in
theorem kind_Canon_whole (k : Int) (hk : k = 2 ∨ k = 4 ∨ k = 6 ∨ k = 12 ∨ k = 13 ∨ k = 14) (x : Nat) (w : World) :
    Calls Tryz.prog 100 #[.int .i64 k, .int .u64 x] w fun e w' => e = .returned (.tuple #[.int .u64 (kcanon k x), .int .u8 0]) ∧ Below w.heap.size w w' := by
  have HC : Hid (kcanon k x = x) := by rw [Hid, kcanon, if_neg (by omega), if_neg (by omega), if_neg (by omega)]
  have HK : Hid (knumber k = true) := by rcases hk with rfl | rfl | rfl | rfl | rfl | rfl <;> rfl
  have HL := hid (forms_at (k := k) (n := 64) (by rcases hk with rfl | rfl | rfl | rfl | rfl | rfl <;> rfl) (by rcases hk with rfl | rfl | rfl | rfl | rfl | rfl <;> rfl))
  rcases hk with rfl | rfl | rfl | rfl | rfl | rfl
  all_goals
    go_enter Tryz.func100, Tryz.ntmps100
    go_wp2_with (go_at_call 97; refine (kind_Number _ _).mono ?_; rintro e w1 ⟨rfl, hb⟩; rw [HK.out])
    refine (kind_forms _).mono ?_
    rintro e w2 ⟨r, hm, hr, hb2, rfl⟩
    have hl := HL.out w2 r hm
    have hfd := field_form
    have HB : Hid (Below w.heap.size w w2) := hb.trans (hb2.mono hb.size)
    clear hb hb2
    go_wp2_with fail
    go_ret2
    exact ⟨by rw [HC.out]; rfl, HB.out⟩
theorem kind_Canon {k : Int} (hk : knumber k = true) (x : Nat) (w : World) :
    Calls Tryz.prog 100 #[.int .i64 k, .int .u64 x] w fun e w' => e = .returned (.tuple #[.int .u64 (kcanon k x), .int .u8 0]) ∧ Below w.heap.size w w' := by
  rcases knum_cases hk with h | h | h | h | h | h | h | h | h | h | h | h | h | h
  case inr.inr.inr.inr.inr.inr.inl => subst h; exact kind_Canon_7 x w
  all_goals first
    | exact kind_Canon_32 k (by omega) x w
    | exact kind_Canon_low k (by omega) x w
    | exact kind_Canon_whole k (by omega) x w
set_option maxRecDepth 100000 in
set_option maxHeartbeats 4000000 in
theorem ref06_Canon {k : Int} (hk : knumber k = true) (x : Nat) (w : World) :
    Calls Tryz.prog 84 #[.int .i64 k, .int .u64 x] w fun e w' => e = .returned (.int .u64 (kcanon k x)) ∧ w = w' := by
  have H32 : Hid ((k = 1 ∨ k = 8) → kcanon k x = w32 x) := fun h => by rw [kcanon, if_pos h]
  have HLO : Hid ((k = 3 ∨ k = 5 ∨ k = 9 ∨ k = 10 ∨ k = 11) → kcanon k x = x % 4294967296) := fun h => by rw [kcanon, if_neg (by omega), if_neg (by omega), if_pos h]
  have HWH : Hid ((k = 2 ∨ k = 4 ∨ k = 6 ∨ k = 12 ∨ k = 13 ∨ k = 14) → kcanon k x = x) := fun h => by rw [kcanon, if_neg (by omega), if_neg (by omega), if_neg (by omega)]
  have H7 : Hid (k = 7 → kcanon k x = if 0 < x then 1 else 0) := fun h => by rw [kcanon, if_neg (by omega), if_pos h]
  have hk' := knum_cases hk
  clear hk
  rcases hk' with rfl | rfl | rfl | rfl | rfl | rfl | rfl | rfl | rfl | rfl | rfl | rfl | rfl | rfl
  case inr.inr.inr.inr.inr.inr.inl =>
    by_cases h : 0 < x
    · have HC : Hid (kcanon 7 x = 1) := by rw [Hid, H7.out rfl, if_pos h]
      go_enter Tryz.func84, Tryz.ntmps84
      go_wp2_with fail
      go_ret
      exact ⟨by rw [HC.out]; rfl, rfl⟩
    · have HC : Hid (kcanon 7 x = 0) := by rw [Hid, H7.out rfl, if_neg h]
      go_enter Tryz.func84, Tryz.ntmps84
      go_wp2_with fail
      go_ret
      exact ⟨by rw [HC.out]; rfl, rfl⟩
  all_goals
    go_enter Tryz.func84, Tryz.ntmps84
    go_wp2_with (first | (go_at_call 123; refine (ref01_Sign32 x _).mono ?_; rintro e w2 ⟨rfl, rfl⟩) | (go_at_call 122; refine (ref01_Wide x _).mono ?_; rintro e w3 ⟨rfl, rfl⟩))
    go_ret
    first
      | exact ⟨by rw [H32.out (by decide)]; rfl, rfl⟩
      | exact ⟨by rw [HLO.out (by decide)]; exact ret1 (int_eq (by omega)), rfl⟩
      | exact ⟨by rw [HWH.out (by decide)]; rfl, rfl⟩
end Go.Proofs.YtaefpjecalnbcaaGreat
namespace Go.Proofs.YtaefpjecalnbcaaGreat
open Go.RowKit
end Go.Proofs.YtaefpjecalnbcaaGreat
namespace Go.Proofs.YtaefpjecalnbcaaGreat
open Go.RowKit
end Go.Proofs.YtaefpjecalnbcaaGreat
namespace Go.Proofs.YtaefpjecalnbcaaGreat
open Go.RowKit Go.Shelf
attribute [local go_sem] Oper.semAt_some
def WordsOwn (w : World) (base : Nat) (v : Value) (l : List Nat) : Prop := w.ownsRow base 63 1 v l.length (l.map wordV)
theorem info_u64 : (Tryz.prog.info? 63).map (fun i => (i.zero, i.size, i.bytes)) = some (some (.int .u64 0), 1, 8) := by kernel_rfl
theorem under_words : Tryz.prog.underlying 64 = some (.slice 63) := Tryz.underlying64
theorem WordsOwn.form {w : World} {base : Nat} {v : Value} {l : List Nat} (h : WordsOwn w base v l) : ∃ a c, v = .slice a l.length c := by
  rcases h.2 with ⟨h1, h2⟩ | ⟨g, cap, cur, hv, -⟩
  · exact ⟨none, 0, by rw [h1, h2]⟩
  · exact ⟨_, _, hv⟩
end Go.Proofs.YtaefpjecalnbcaaGreat
namespace Go.Proofs.YtaefpjecalnbcaaGreat
open Go.RowKit
theorem WordsOwn.formC {w : World} {base : Nat} {v : Value} {l : List Nat} (h : WordsOwn w base v l) : ∃ a c, v = .slice a l.length c := by
  rcases h.2 with ⟨h1, h2⟩ | ⟨g, cap, cur, hv, -⟩
  · exact ⟨none, 0, by rw [h1, h2]⟩
  · exact ⟨_, _, hv⟩
theorem run_clone_words {w : World} {ad : Addr} {n c : Nat} {l : List Nat} (h : WordsAt w (.slice (some ad) n c) l) (hn : n = l.length) (hl : n ≤ 1099511627776) :
    ∃ a' c' w', (Builtin.append_ #[64, 64] 64 #[.slice (some ⟨w.heap.size, 0, none⟩) 0 0, .slice (some ad) n c]).run Tryz.prog (w.alloc (.cells #[] 63)) = .ok (.slice a' n c') w' ∧ WordsOwn w' w.heap.size (.slice a' n c') l ∧ Below w.heap.size w w' := by
  have hb0 : Below w.heap.size w (w.alloc (.cells #[] 63)) := (Below.refl _ _).alloc (Nat.le_refl _) _
  have h0 : (w.alloc (.cells #[] 63)).ownsRow w.heap.size 63 1 (.slice (some ⟨w.heap.size, 0, none⟩) 0 0) 0 [] := World.ownsRow_made (base := w.heap.size) (e := 63) (size := 1) w #[] 0 (Nat.le_refl _) (by unfold maxLen; omega) rfl
  have hs : Seg (w.alloc (.cells #[] 63)) (.slice (some ad) n c) 1 n (l.map wordV) := by have := h.1.keep (below_keeps hb0); rw [← hn] at this; exact this
  obtain ⟨v', w', hr, hO, hg, -⟩ := seg_append (P := Tryz.prog) _ w.heap.size 64 64 63 (.int .u64 0) 1 8 under_words info_u64 rfl (by decide) _ _ 0 n [] _ h0 hs
    (by intro u hu; obtain ⟨c, -, rfl⟩ := List.mem_map.1 hu; rfl) (by omega) (by omega) hb0.size
  rw [Nat.zero_add, List.nil_append] at hO
  have hO' : WordsOwn w' w.heap.size v' l := by unfold WordsOwn; rw [← hn]; exact hO
  obtain ⟨a', c', rfl⟩ := hO'.formC
  rw [← hn] at hO' hr
  exact ⟨a', c', w', hr, hO', hb0.grown hg hb0.size (by intro q e; simp [Value.ownBlock] at e; omega)⟩
set_option maxRecDepth 100000 in
set_option maxHeartbeats 4000000 in
theorem clone_words {w : World} {a : Option Addr} {n c : Nat} {l : List Nat} (h : WordsAt w (.slice a n c) l) (hn : n = l.length) (hl : n ≤ 1099511627776) :
    Calls Tryz.prog 59 #[.slice a n c] w fun e w' => ∃ a' c', e = .returned (.slice a' n c') ∧ WordsOwn w' w.heap.size (.slice a' n c') l ∧ Below w.heap.size w w' := by
  cases a with
  | none =>
    have h0 : n = 0 := by
      rcases Nat.eq_zero_or_pos n with h0 | h0
      · exact h0
      · obtain ⟨-, a', c', he, -, hat⟩ := h.open
        obtain ⟨x, hx⟩ : ∃ x, l[0]? = some x := ⟨_, List.getElem?_eq_getElem (by omega)⟩
        obtain ⟨-, b, o, ha, -⟩ := hat 0 x hx
        cases he
        cases ha
    obtain ⟨Q, HQ⟩ : ∃ Q : Ending → World → Prop, Hid (Q = fun e w' => ∃ a' c', e = .returned (.slice a' n c') ∧ WordsOwn w' w.heap.size (.slice a' n c') l ∧ Below w.heap.size w w') := ⟨_, rfl⟩
    rw [← HQ.out]
    have HE : Hid (Q (.returned (.slice none 0 0)) w) := by
      rw [HQ.out]
      subst h0
      refine ⟨none, 0, rfl, ?_, Below.refl _ _⟩
      rw [List.length_eq_zero_iff.1 hn.symm]
      exact World.ownsRow_nil _ _ _ _
    have heq : ∀ w, (binOp .eql 64 (.slice none n c) (.slice none 0 0)).run Tryz.prog w = .ok (.bool true) w := fun w => rfl
    clear h hn hl h0
    go_enter Tryz.func59, Tryz.ntmps59
    go_wp2_with fail
    exact HE.out
  | some ad =>
    obtain ⟨a', c', w', hr, hO, hb⟩ := run_clone_words h hn hl
    obtain ⟨Q, HQ⟩ : ∃ Q : Ending → World → Prop, Hid (Q = fun e w' => ∃ a' c', e = .returned (.slice a' n c') ∧ WordsOwn w' w.heap.size (.slice a' n c') l ∧ Below w.heap.size w w') := ⟨_, rfl⟩
    rw [← HQ.out]
    have HE : Hid (Q (.returned (.slice a' n c')) w') := by rw [HQ.out]; exact ⟨a', c', rfl, hO, hb⟩
    have heq : ∀ w, (binOp .eql 64 (.slice (some ad) n c) (.slice none 0 0)).run Tryz.prog w = .ok (.bool false) w := fun w => rfl
    clear h hn hl hO hb
    go_enter Tryz.func59, Tryz.ntmps59
    go_wp2_with (at_builtin; refine wpList_append_eq rfl _ _ _ rfl _ _ rfl rfl hr ?_)
    exact HE.out
theorem StrsOwn.formC {w : World} {base : Nat} {v : Value} {l : List (List UInt8)} (h : StrsOwn w base v l) : ∃ a c, v = .slice a l.length c := by
  rcases h.2 with ⟨h1, h2⟩ | ⟨g, cap, cur, hv, -⟩
  · exact ⟨none, 0, by rw [h1, h2]⟩
  · exact ⟨_, _, hv⟩
theorem run_clone_strs {w : World} {ad : Addr} {n c : Nat} {l : List (List UInt8)} (h : StrsAt w (.slice (some ad) n c) l) (hn : n = l.length) (hl : n ≤ 1099511627776) :
    ∃ a' c' w', (Builtin.append_ #[25, 25] 25 #[.slice (some ⟨w.heap.size, 0, none⟩) 0 0, .slice (some ad) n c]).run Tryz.prog (w.alloc (.cells #[] 9)) = .ok (.slice a' n c') w' ∧ StrsOwn w' w.heap.size (.slice a' n c') l ∧ Below w.heap.size w w' := by
  have hb0 : Below w.heap.size w (w.alloc (.cells #[] 9)) := (Below.refl _ _).alloc (Nat.le_refl _) _
  have h0 : (w.alloc (.cells #[] 9)).ownsRow w.heap.size 9 1 (.slice (some ⟨w.heap.size, 0, none⟩) 0 0) 0 [] := World.ownsRow_made (base := w.heap.size) (e := 9) (size := 1) w #[] 0 (Nat.le_refl _) (by unfold maxLen; omega) rfl
  have hs : Seg (w.alloc (.cells #[] 9)) (.slice (some ad) n c) 1 n (l.map strV) := by have := h.1.keep (below_keeps hb0); rw [← hn] at this; exact this
  obtain ⟨v', w', hr, hO, hg, -⟩ := seg_append (P := Tryz.prog) _ w.heap.size 25 25 9 (.string ⟨#[]⟩) 1 16 under_strl info_string rfl (by decide) _ _ 0 n [] _ h0 hs
    (by intro u hu; obtain ⟨c, -, rfl⟩ := List.mem_map.1 hu; rfl) (by omega) (by omega) hb0.size
  rw [Nat.zero_add, List.nil_append] at hO
  have hO' : StrsOwn w' w.heap.size v' l := by unfold StrsOwn; rw [← hn]; exact hO
  obtain ⟨a', c', rfl⟩ := hO'.formC
  rw [← hn] at hO' hr
  exact ⟨a', c', w', hr, hO', hb0.grown hg hb0.size (by intro q e; simp [Value.ownBlock] at e; omega)⟩
set_option maxRecDepth 100000 in
set_option maxHeartbeats 4000000 in
theorem clone_strs {w : World} {a : Option Addr} {n c : Nat} {l : List (List UInt8)} (h : StrsAt w (.slice a n c) l) (hn : n = l.length) (hl : n ≤ 1099511627776) :
    Calls Tryz.prog 58 #[.slice a n c] w fun e w' => ∃ a' c', e = .returned (.slice a' n c') ∧ StrsOwn w' w.heap.size (.slice a' n c') l ∧ Below w.heap.size w w' := by
  cases a with
  | none =>
    have h0 : n = 0 := by
      rcases Nat.eq_zero_or_pos n with h0 | h0
      · exact h0
      · obtain ⟨-, a', c', he, -, hat⟩ := h.open
        obtain ⟨x, hx⟩ : ∃ x, l[0]? = some x := ⟨_, List.getElem?_eq_getElem (by omega)⟩
        obtain ⟨-, b, o, ha, -⟩ := hat 0 x hx
        cases he
        cases ha
    obtain ⟨Q, HQ⟩ : ∃ Q : Ending → World → Prop, Hid (Q = fun e w' => ∃ a' c', e = .returned (.slice a' n c') ∧ StrsOwn w' w.heap.size (.slice a' n c') l ∧ Below w.heap.size w w') := ⟨_, rfl⟩
    rw [← HQ.out]
    have HE : Hid (Q (.returned (.slice none 0 0)) w) := by
      rw [HQ.out]
      subst h0
      refine ⟨none, 0, rfl, ?_, Below.refl _ _⟩
      rw [List.length_eq_zero_iff.1 hn.symm]
      exact World.ownsRow_nil _ _ _ _
    have heq : ∀ w, (binOp .eql 25 (.slice none n c) (.slice none 0 0)).run Tryz.prog w = .ok (.bool true) w := fun w => rfl
    clear h hn hl h0
    go_enter Tryz.func58, Tryz.ntmps58
    go_wp2_with fail
    exact HE.out
  | some ad =>
    obtain ⟨a', c', w', hr, hO, hb⟩ := run_clone_strs h hn hl
    obtain ⟨Q, HQ⟩ : ∃ Q : Ending → World → Prop, Hid (Q = fun e w' => ∃ a' c', e = .returned (.slice a' n c') ∧ StrsOwn w' w.heap.size (.slice a' n c') l ∧ Below w.heap.size w w') := ⟨_, rfl⟩
    rw [← HQ.out]
    have HE : Hid (Q (.returned (.slice a' n c')) w') := by rw [HQ.out]; exact ⟨a', c', rfl, hO, hb⟩
    have heq : ∀ w, (binOp .eql 25 (.slice (some ad) n c) (.slice none 0 0)).run Tryz.prog w = .ok (.bool false) w := fun w => rfl
    clear h hn hl hO hb
    go_enter Tryz.func58, Tryz.ntmps58
    go_wp2_with (at_builtin; refine wpList_append_eq rfl _ _ _ rfl _ _ rfl rfl hr ?_)
    exact HE.out
end Go.Proofs.YtaefpjecalnbcaaGreat
namespace Go.Proofs.YtaefpjecalnbcaaGreat
open Go.RowKit
theorem grow_zeros_words (w : World) (n : Nat) (h0 : 0 < n) (hn : n ≤ 2199023255552) (ty : TypeId) :
    ∃ G, n ≤ G ∧ G ≤ 9223372036854775807 ∧ (Builtin.append_ #[64, 3] ty #[.slice none 0 0, .int .i64 (n : Int)]).run Tryz.prog w = .ok (.slice (some ⟨w.heap.size, 0, none⟩) n G) (w.drew.alloc (.cells (Builtin.zeroCells #[.int .u64 0] n ++ Builtin.zeroCells #[.int .u64 0] (G - n)) 63)) ∧ G ≤ maxLen := by
  obtain ⟨i, hi, hz, hsize, hby⟩ := info_parts info_u64
  have h := Lib.run_append_grow_zeros w 64 3 ty 63 i (.int .u64 0) .i64 .i64 under_words Tryz.underlying3 hi hz none 0 0 [] (run_firstCells_none w.drew i.size 0 0 0) n h0 (by omega) (by omega) (by omega) (by rw [hby]; omega)
    (by rw [Nat.zero_add]; exact growslice_fits (by omega) (by rw [hby]; omega))
  rw [Nat.zero_add] at h
  have hm := grownCap_le_maxLen w n 0 63 (by unfold maxLen; omega)
  refine ⟨_, grownCap_ge w n 0 _, by have := hm; unfold maxLen at this; omega, ?_, hm⟩
  simp at h
  exact h
set_option maxRecDepth 100000 in
set_option maxHeartbeats 4000000 in
theorem grow_words (w : World) (n : Nat) (hn : n ≤ 2199023255552) :
    Calls Tryz.prog 126 #[.slice none 0 0, .int .i64 (n : Int)] w fun e w' => ∃ v', e = .returned v' ∧ w'.ownsRow w.heap.size 63 1 v' 0 [] ∧ Below w.heap.size w w' := by
  by_cases h0 : 0 < n
  · obtain ⟨G, h1, h2, h3, h4⟩ := grow_zeros_words w n h0 hn 64
    have hcut : ∀ W, (Instr.slice 64 (.slice (some ⟨w.heap.size, 0, none⟩) n G) none (some (.int .i64 0)) none).run Tryz.prog W = .ok (.slice (some ⟨w.heap.size, 0, none⟩) 0 G) W := by
      intro W
      have := slice_h_run (P := Tryz.prog) under_words size_u64 (some ⟨w.heap.size, 0, none⟩) n G 0 (by omega) W
      rw [show ((0 : Nat) : Int) = 0 from rfl] at this
      rw [this]
      unfold sliced
      by_cases hG : G = 0
      · omega
      · rw [if_neg hG]; rfl
    have HOWN : Hid (World.ownsRow (w.drew.alloc (.cells (Builtin.zeroCells #[.int .u64 0] n ++ Builtin.zeroCells #[.int .u64 0] (G - n)) 63)) w.heap.size 63 1 (.slice (some ⟨w.heap.size, 0, none⟩) 0 G) 0 []) := by
      refine ⟨rfl, .inr ⟨w.heap.size, G, _, rfl, Nat.le_refl _, heap_alloc_new w.drew _, Nat.zero_le _, h4, ?_, by simp⟩⟩
      have e1 := size_zeroCells #[.int .u64 0] n
      have e2 := size_zeroCells #[.int .u64 0] (G - n)
      rw [Array.size_append, e1, e2]
      simp
      omega
    clear h4
    go_enter Tryz.func126, Tryz.ntmps126
    go_wp2_with (at_builtin; refine wpList_append2_eq rfl _ _ _ _ rfl _ _ rfl rfl h3 ?_)
    go_ret
    exact ⟨_, rfl, HOWN.out, ((Below.refl _ _).drew).alloc (Nat.le_refl _) _⟩
  · obtain rfl : n = 0 := by omega
    go_enter Tryz.func126, Tryz.ntmps126
    go_wp2_with fail
    go_ret
    exact ⟨_, rfl, World.ownsRow_nil _ _ _ _, Below.refl _ _⟩
set_option maxRecDepth 100000 in
set_option maxHeartbeats 4000000 in
theorem concat_words {w : World} {b : Nat} {a1 a2 : Option Addr} {n1 n2 k1 k2 : Nat} {xs1 xs2 : List Value} (h1 : Seg w (.slice a1 n1 k1) 1 n1 xs1) (h2 : Seg w (.slice a2 n2 k2) 1 n2 xs2) (o1 : ∀ u ∈ xs1, u.oneCell' = true) (o2 : ∀ u ∈ xs2, u.oneCell' = true)
    (c1 : w.cell? ⟨b, 0, none⟩ = some (.slice a1 n1 k1)) (c2 : w.cell? ⟨b, 1, none⟩ = some (.slice a2 n2 k2)) (hl1 : n1 ≤ 1099511627776) (hl2 : n2 ≤ 1099511627776) :
    Calls Tryz.prog 88 #[.slice (some ⟨b, 0, none⟩) 2 2] w fun e w' => ∃ a c, e = .returned (.slice a (n1 + n2) c) ∧ w'.ownsRow w.heap.size 63 1 (.slice a (n1 + n2) c) (n1 + n2) (xs1 ++ xs2) ∧ Below w.heap.size w w' := by
  have HS1 := hid h1
  have HS2 := hid h2
  have HO1 := hid o1
  have HO2 := hid o2
  have C1 := hid c1
  have C2 := hid c2
  clear h1 h2 o1 o2
  have hi0 : ∀ W, (Instr.indexAt 179 (.slice (some ⟨b, 0, none⟩) 2 2) (.int .i64 0)).run Tryz.prog W = .ok (.pointer (some ⟨b, 0, none⟩)) W := fun W => by kernel_rfl
  have hi1 : ∀ W, (Instr.indexAt 179 (.slice (some ⟨b, 0, none⟩) 2 2) (.int .i64 1)).run Tryz.prog W = .ok (.pointer (some ⟨b, 1, none⟩)) W := fun W => by kernel_rfl
  have HGR := grow_words w (n1 + n2) (by omega)
  rw [show ((n1 + n2 : Nat) : Int) = (n1 : Int) + (n2 : Int) by omega] at HGR
  have HG := hid HGR
  clear HGR
  go_enter Tryz.func88, Tryz.ntmps88
  go_wp2_with fail
  refine wp_loop_rounds 3 ?_
  rw [rounds_succ]
  go_wp2_with fail
  rw [rounds_succ]
  go_wp2_with fail
  rw [rounds_succ]
  go_wp2_with fail
  refine HG.out.mono ?_
  rintro e w1 ⟨v3, rfl, hO, hB⟩
  obtain ⟨v4, w2, hr4, hO4, hg4, -⟩ := seg_append (P := Tryz.prog) w1 w.heap.size 64 64 63 (.int .u64 0) 1 8 under_words info_u64 rfl (by decide) _ _ 0 n1 _ _ hO (HS1.out.keep (below_keeps hB)) HO1.out (by omega) (by omega) hB.size
  have hB2 : Below w.heap.size w w2 := hB.grown hg4 hB.size (fun q e => (World.ownsRow.lt hO q e).1)
  obtain ⟨v5, w3, hr5, hO5, hg5, -⟩ := seg_append (P := Tryz.prog) w2 w.heap.size 64 64 63 (.int .u64 0) 1 8 under_words info_u64 rfl (by decide) _ _ _ n2 _ _ hO4 (HS2.out.keep (below_keeps hB2)) HO2.out (by omega) (by omega) hB2.size
  have hB3 : Below w.heap.size w w3 := hB2.grown hg5 hB2.size (fun q e => (World.ownsRow.lt hO4 q e).1)
  rw [Nat.zero_add, List.nil_append] at hO5
  have k1' := below_keeps hB _ _ C1.out
  have k2' := below_keeps hB2 _ _ C2.out
  obtain ⟨a3, m3, k3, rfl⟩ : ∃ a n c, v3 = .slice a n c := by obtain ⟨-, -, a, c, e, -⟩ := row_seg hO (by omega); exact ⟨_, _, _, e⟩
  obtain ⟨a4, m4, k4, rfl⟩ : ∃ a n c, v4 = .slice a n c := by obtain ⟨-, -, a, c, e, -⟩ := row_seg hO4 (by omega); exact ⟨_, _, _, e⟩
  obtain ⟨a5, k5, rfl⟩ : ∃ a c, v5 = .slice a (n1 + n2) c := by obtain ⟨-, -, a, c, e, -⟩ := row_seg hO5 (by omega); exact ⟨_, _, e⟩
  have HFIN := hid hO5
  have HB3 := hid hB3
  clear hO hB hO4 hg4 hB2 hO5 hg5 hB3
  go_wp2_with fail
  refine wp_loop_rounds 3 ?_
  rw [rounds_succ]
  go_wp2_with (at_builtin; refine wpList_append_eq rfl _ _ _ rfl _ _ rfl rfl hr4 ?_)
  rw [rounds_succ]
  go_wp2_with (at_builtin; refine wpList_append_eq rfl _ _ _ rfl _ _ rfl rfl hr5 ?_)
  rw [rounds_succ]
  go_wp2_with fail
  go_ret
  exact ⟨_, _, rfl, HFIN.out, HB3.out⟩
theorem grow_zeros_strs (w : World) (n : Nat) (h0 : 0 < n) (hn : n ≤ 2199023255552) (ty : TypeId) :
    ∃ G, n ≤ G ∧ G ≤ 9223372036854775807 ∧ (Builtin.append_ #[25, 3] ty #[.slice none 0 0, .int .i64 (n : Int)]).run Tryz.prog w = .ok (.slice (some ⟨w.heap.size, 0, none⟩) n G) (w.drew.alloc (.cells (Builtin.zeroCells #[.string ⟨#[]⟩] n ++ Builtin.zeroCells #[.string ⟨#[]⟩] (G - n)) 9)) ∧ G ≤ maxLen := by
  obtain ⟨i, hi, hz, hsize, hby⟩ := info_parts info_string
  have h := Lib.run_append_grow_zeros w 25 3 ty 9 i (.string ⟨#[]⟩) .i64 .i64 under_strl Tryz.underlying3 hi hz none 0 0 [] (run_firstCells_none w.drew i.size 0 0 0) n h0 (by omega) (by omega) (by omega) (by rw [hby]; omega)
    (by rw [Nat.zero_add]; exact growslice_fits (by omega) (by rw [hby]; omega))
  rw [Nat.zero_add] at h
  have hm := grownCap_le_maxLen w n 0 9 (by unfold maxLen; omega)
  refine ⟨_, grownCap_ge w n 0 _, by have := hm; unfold maxLen at this; omega, ?_, hm⟩
  simp at h
  exact h
set_option maxRecDepth 100000 in
set_option maxHeartbeats 4000000 in
theorem grow_strs (w : World) (n : Nat) (hn : n ≤ 2199023255552) :
    Calls Tryz.prog 92 #[.slice none 0 0, .int .i64 (n : Int)] w fun e w' => ∃ v', e = .returned v' ∧ w'.ownsRow w.heap.size 9 1 v' 0 [] ∧ Below w.heap.size w w' := by
  by_cases h0 : 0 < n
  · obtain ⟨G, h1, h2, h3, h4⟩ := grow_zeros_strs w n h0 hn 25
    have hcut : ∀ W, (Instr.slice 25 (.slice (some ⟨w.heap.size, 0, none⟩) n G) none (some (.int .i64 0)) none).run Tryz.prog W = .ok (.slice (some ⟨w.heap.size, 0, none⟩) 0 G) W := by
      intro W
      have := slice_h_run (P := Tryz.prog) under_strl size_str (some ⟨w.heap.size, 0, none⟩) n G 0 (by omega) W
      rw [show ((0 : Nat) : Int) = 0 from rfl] at this
      rw [this]
      unfold sliced
      by_cases hG : G = 0
      · omega
      · rw [if_neg hG]; rfl
    have HOWN : Hid (World.ownsRow (w.drew.alloc (.cells (Builtin.zeroCells #[.string ⟨#[]⟩] n ++ Builtin.zeroCells #[.string ⟨#[]⟩] (G - n)) 9)) w.heap.size 9 1 (.slice (some ⟨w.heap.size, 0, none⟩) 0 G) 0 []) := by
      refine ⟨rfl, .inr ⟨w.heap.size, G, _, rfl, Nat.le_refl _, heap_alloc_new w.drew _, Nat.zero_le _, h4, ?_, by simp⟩⟩
      have e1 := size_zeroCells #[.string ⟨#[]⟩] n
      have e2 := size_zeroCells #[.string ⟨#[]⟩] (G - n)
      rw [Array.size_append, e1, e2]
      simp
      omega
    clear h4
    go_enter Tryz.func92, Tryz.ntmps92
    go_wp2_with (at_builtin; refine wpList_append2_eq rfl _ _ _ _ rfl _ _ rfl rfl h3 ?_)
    go_ret
    exact ⟨_, rfl, HOWN.out, ((Below.refl _ _).drew).alloc (Nat.le_refl _) _⟩
  · obtain rfl : n = 0 := by omega
    go_enter Tryz.func92, Tryz.ntmps92
    go_wp2_with fail
    go_ret
    exact ⟨_, rfl, World.ownsRow_nil _ _ _ _, Below.refl _ _⟩
set_option maxRecDepth 100000 in
set_option maxHeartbeats 4000000 in
theorem concat_strs {w : World} {b : Nat} {a1 a2 : Option Addr} {n1 n2 k1 k2 : Nat} {xs1 xs2 : List Value} (h1 : Seg w (.slice a1 n1 k1) 1 n1 xs1) (h2 : Seg w (.slice a2 n2 k2) 1 n2 xs2) (o1 : ∀ u ∈ xs1, u.oneCell' = true) (o2 : ∀ u ∈ xs2, u.oneCell' = true)
    (c1 : w.cell? ⟨b, 0, none⟩ = some (.slice a1 n1 k1)) (c2 : w.cell? ⟨b, 1, none⟩ = some (.slice a2 n2 k2)) (hl1 : n1 ≤ 1099511627776) (hl2 : n2 ≤ 1099511627776) :
    Calls Tryz.prog 64 #[.slice (some ⟨b, 0, none⟩) 2 2] w fun e w' => ∃ a c, e = .returned (.slice a (n1 + n2) c) ∧ w'.ownsRow w.heap.size 9 1 (.slice a (n1 + n2) c) (n1 + n2) (xs1 ++ xs2) ∧ Below w.heap.size w w' := by
  have HS1 := hid h1
  have HS2 := hid h2
  have HO1 := hid o1
  have HO2 := hid o2
  have C1 := hid c1
  have C2 := hid c2
  clear h1 h2 o1 o2
  have hi0 : ∀ W, (Instr.indexAt 144 (.slice (some ⟨b, 0, none⟩) 2 2) (.int .i64 0)).run Tryz.prog W = .ok (.pointer (some ⟨b, 0, none⟩)) W := fun W => by kernel_rfl
  have hi1 : ∀ W, (Instr.indexAt 144 (.slice (some ⟨b, 0, none⟩) 2 2) (.int .i64 1)).run Tryz.prog W = .ok (.pointer (some ⟨b, 1, none⟩)) W := fun W => by kernel_rfl
  have HGR := grow_strs w (n1 + n2) (by omega)
  rw [show ((n1 + n2 : Nat) : Int) = (n1 : Int) + (n2 : Int) by omega] at HGR
  have HG := hid HGR
  clear HGR
  go_enter Tryz.func64, Tryz.ntmps64
  go_wp2_with fail
  refine wp_loop_rounds 3 ?_
  rw [rounds_succ]
  go_wp2_with fail
  rw [rounds_succ]
  go_wp2_with fail
  rw [rounds_succ]
  go_wp2_with fail
  refine HG.out.mono ?_
  rintro e w1 ⟨v3, rfl, hO, hB⟩
  obtain ⟨v4, w2, hr4, hO4, hg4, -⟩ := seg_append (P := Tryz.prog) w1 w.heap.size 25 25 9 (.string ⟨#[]⟩) 1 16 under_strl info_string rfl (by decide) _ _ 0 n1 _ _ hO (HS1.out.keep (below_keeps hB)) HO1.out (by omega) (by omega) hB.size
  have hB2 : Below w.heap.size w w2 := hB.grown hg4 hB.size (fun q e => (World.ownsRow.lt hO q e).1)
  obtain ⟨v5, w3, hr5, hO5, hg5, -⟩ := seg_append (P := Tryz.prog) w2 w.heap.size 25 25 9 (.string ⟨#[]⟩) 1 16 under_strl info_string rfl (by decide) _ _ _ n2 _ _ hO4 (HS2.out.keep (below_keeps hB2)) HO2.out (by omega) (by omega) hB2.size
  have hB3 : Below w.heap.size w w3 := hB2.grown hg5 hB2.size (fun q e => (World.ownsRow.lt hO4 q e).1)
  rw [Nat.zero_add, List.nil_append] at hO5
  have k1' := below_keeps hB _ _ C1.out
  have k2' := below_keeps hB2 _ _ C2.out
  obtain ⟨a3, m3, k3, rfl⟩ : ∃ a n c, v3 = .slice a n c := by obtain ⟨-, -, a, c, e, -⟩ := row_seg hO (by omega); exact ⟨_, _, _, e⟩
  obtain ⟨a4, m4, k4, rfl⟩ : ∃ a n c, v4 = .slice a n c := by obtain ⟨-, -, a, c, e, -⟩ := row_seg hO4 (by omega); exact ⟨_, _, _, e⟩
  obtain ⟨a5, k5, rfl⟩ : ∃ a c, v5 = .slice a (n1 + n2) c := by obtain ⟨-, -, a, c, e, -⟩ := row_seg hO5 (by omega); exact ⟨_, _, e⟩
  have HFIN := hid hO5
  have HB3 := hid hB3
  clear hO hB hO4 hg4 hB2 hO5 hg5 hB3
  go_wp2_with fail
  refine wp_loop_rounds 3 ?_
  rw [rounds_succ]
  go_wp2_with (at_builtin; refine wpList_append_eq rfl _ _ _ rfl _ _ rfl rfl hr4 ?_)
  rw [rounds_succ]
  go_wp2_with (at_builtin; refine wpList_append_eq rfl _ _ _ rfl _ _ rfl rfl hr5 ?_)
  rw [rounds_succ]
  go_wp2_with fail
  go_ret
  exact ⟨_, _, rfl, HFIN.out, HB3.out⟩
theorem info_kmsg : (Tryz.prog.info? 27).map (fun i => (i.zero, i.size, i.bytes)) = some (some (.agg #[.slice none 0 0, .slice none 0 0]), 2, 48) := by kernel_rfl
theorem under_kmsgs : Tryz.prog.underlying 65 = some (.slice 27) := Tryz.underlying65
theorem grow_zeros_msgs (w : World) (n : Nat) (h0 : 0 < n) (hn : n ≤ 2199023255552) (ty : TypeId) :
    ∃ G, n ≤ G ∧ G ≤ 9223372036854775807 ∧ (Builtin.append_ #[65, 3] ty #[.slice none 0 0, .int .i64 (n : Int)]).run Tryz.prog w = .ok (.slice (some ⟨w.heap.size, 0, none⟩) n G) (w.drew.alloc (.cells (Builtin.zeroCells #[.slice none 0 0, .slice none 0 0] n ++ Builtin.zeroCells #[.slice none 0 0, .slice none 0 0] (G - n)) 27)) ∧ G ≤ maxLen := by
  obtain ⟨i, hi, hz, hsize, hby⟩ := info_parts info_kmsg
  have h := Lib.run_append_grow_zeros w 65 3 ty 27 i (.agg #[.slice none 0 0, .slice none 0 0]) .i64 .i64 under_kmsgs Tryz.underlying3 hi hz none 0 0 [] (run_firstCells_none w.drew i.size 0 0 0) n h0 (by omega) (by omega) (by omega) (by rw [hby]; omega)
    (by rw [Nat.zero_add]; exact growslice_fits (by omega) (by rw [hby]; omega))
  rw [Nat.zero_add] at h
  have hm := grownCap_le_maxLen w n 0 27 (by unfold maxLen; omega)
  refine ⟨_, grownCap_ge w n 0 _, by have := hm; unfold maxLen at this; omega, ?_, hm⟩
  simp at h
  exact h
set_option maxRecDepth 100000 in
set_option maxHeartbeats 4000000 in
theorem grow_msgs (w : World) (n : Nat) (hn : n ≤ 2199023255552) :
    Calls Tryz.prog 127 #[.slice none 0 0, .int .i64 (n : Int)] w fun e w' => ∃ v', e = .returned v' ∧ w'.ownsRow w.heap.size 27 2 v' 0 [] ∧ Below w.heap.size w w' := by
  by_cases h0 : 0 < n
  · obtain ⟨G, h1, h2, h3, h4⟩ := grow_zeros_msgs w n h0 hn 65
    have hcut : ∀ W, (Instr.slice 65 (.slice (some ⟨w.heap.size, 0, none⟩) n G) none (some (.int .i64 0)) none).run Tryz.prog W = .ok (.slice (some ⟨w.heap.size, 0, none⟩) 0 G) W := by
      intro W
      have := slice_h_run (P := Tryz.prog) under_kmsgs size_msg (some ⟨w.heap.size, 0, none⟩) n G 0 (by omega) W
      rw [show ((0 : Nat) : Int) = 0 from rfl] at this
      rw [this]
      unfold sliced
      by_cases hG : G = 0
      · omega
      · rw [if_neg hG]; rfl
    have HOWN : Hid (World.ownsRow (w.drew.alloc (.cells (Builtin.zeroCells #[.slice none 0 0, .slice none 0 0] n ++ Builtin.zeroCells #[.slice none 0 0, .slice none 0 0] (G - n)) 27)) w.heap.size 27 2 (.slice (some ⟨w.heap.size, 0, none⟩) 0 G) 0 []) := by
      refine ⟨rfl, .inr ⟨w.heap.size, G, _, rfl, Nat.le_refl _, heap_alloc_new w.drew _, Nat.zero_le _, h4, ?_, by simp⟩⟩
      have e1 := size_zeroCells #[.slice none 0 0, .slice none 0 0] n
      have e2 := size_zeroCells #[.slice none 0 0, .slice none 0 0] (G - n)
      rw [Array.size_append, e1, e2]
      simp
      omega
    clear h4
    go_enter Tryz.func127, Tryz.ntmps127
    go_wp2_with (at_builtin; refine wpList_append2_eq rfl _ _ _ _ rfl _ _ rfl rfl h3 ?_)
    go_ret
    exact ⟨_, rfl, HOWN.out, ((Below.refl _ _).drew).alloc (Nat.le_refl _) _⟩
  · obtain rfl : n = 0 := by omega
    go_enter Tryz.func127, Tryz.ntmps127
    go_wp2_with fail
    go_ret
    exact ⟨_, rfl, World.ownsRow_nil _ _ _ _, Below.refl _ _⟩
set_option maxRecDepth 100000 in
set_option maxHeartbeats 4000000 in
theorem concat_msgs {w : World} {b : Nat} {a1 a2 : Option Addr} {n1 n2 k1 k2 : Nat} {xs1 xs2 : List Value} (h1 : Seg w (.slice a1 n1 k1) 2 n1 xs1) (h2 : Seg w (.slice a2 n2 k2) 2 n2 xs2) (o1 : ∀ u ∈ xs1, u.oneCell' = true) (o2 : ∀ u ∈ xs2, u.oneCell' = true)
    (c1 : w.cell? ⟨b, 0, none⟩ = some (.slice a1 n1 k1)) (c2 : w.cell? ⟨b, 1, none⟩ = some (.slice a2 n2 k2)) (hl1 : n1 ≤ 1099511627776) (hl2 : n2 ≤ 1099511627776) :
    Calls Tryz.prog 89 #[.slice (some ⟨b, 0, none⟩) 2 2] w fun e w' => ∃ a c, e = .returned (.slice a (n1 + n2) c) ∧ w'.ownsRow w.heap.size 27 2 (.slice a (n1 + n2) c) (n1 + n2) (xs1 ++ xs2) ∧ Below w.heap.size w w' := by
  have HS1 := hid h1
  have HS2 := hid h2
  have HO1 := hid o1
  have HO2 := hid o2
  have C1 := hid c1
  have C2 := hid c2
  clear h1 h2 o1 o2
  have hi0 : ∀ W, (Instr.indexAt 181 (.slice (some ⟨b, 0, none⟩) 2 2) (.int .i64 0)).run Tryz.prog W = .ok (.pointer (some ⟨b, 0, none⟩)) W := fun W => by kernel_rfl
  have hi1 : ∀ W, (Instr.indexAt 181 (.slice (some ⟨b, 0, none⟩) 2 2) (.int .i64 1)).run Tryz.prog W = .ok (.pointer (some ⟨b, 1, none⟩)) W := fun W => by kernel_rfl
  have HGR := grow_msgs w (n1 + n2) (by omega)
  rw [show ((n1 + n2 : Nat) : Int) = (n1 : Int) + (n2 : Int) by omega] at HGR
  have HG := hid HGR
  clear HGR
  go_enter Tryz.func89, Tryz.ntmps89
  go_wp2_with fail
  refine wp_loop_rounds 3 ?_
  rw [rounds_succ]
  go_wp2_with fail
  rw [rounds_succ]
  go_wp2_with fail
  rw [rounds_succ]
  go_wp2_with fail
  refine HG.out.mono ?_
  rintro e w1 ⟨v3, rfl, hO, hB⟩
  obtain ⟨v4, w2, hr4, hO4, hg4, -⟩ := seg_append (P := Tryz.prog) w1 w.heap.size 65 65 27 (.agg #[.slice none 0 0, .slice none 0 0]) 2 48 under_kmsgs info_kmsg rfl (by decide) _ _ 0 n1 _ _ hO (HS1.out.keep (below_keeps hB)) HO1.out (by omega) (by omega) hB.size
  have hB2 : Below w.heap.size w w2 := hB.grown hg4 hB.size (fun q e => (World.ownsRow.lt hO q e).1)
  obtain ⟨v5, w3, hr5, hO5, hg5, -⟩ := seg_append (P := Tryz.prog) w2 w.heap.size 65 65 27 (.agg #[.slice none 0 0, .slice none 0 0]) 2 48 under_kmsgs info_kmsg rfl (by decide) _ _ _ n2 _ _ hO4 (HS2.out.keep (below_keeps hB2)) HO2.out (by omega) (by omega) hB2.size
  have hB3 : Below w.heap.size w w3 := hB2.grown hg5 hB2.size (fun q e => (World.ownsRow.lt hO4 q e).1)
  rw [Nat.zero_add, List.nil_append] at hO5
  have k1' := below_keeps hB _ _ C1.out
  have k2' := below_keeps hB2 _ _ C2.out
  obtain ⟨a3, m3, k3, rfl⟩ : ∃ a n c, v3 = .slice a n c := by obtain ⟨-, -, a, c, e, -⟩ := row_seg hO (by omega); exact ⟨_, _, _, e⟩
  obtain ⟨a4, m4, k4, rfl⟩ : ∃ a n c, v4 = .slice a n c := by obtain ⟨-, -, a, c, e, -⟩ := row_seg hO4 (by omega); exact ⟨_, _, _, e⟩
  obtain ⟨a5, k5, rfl⟩ : ∃ a c, v5 = .slice a (n1 + n2) c := by obtain ⟨-, -, a, c, e, -⟩ := row_seg hO5 (by omega); exact ⟨_, _, e⟩
  have HFIN := hid hO5
  have HB3 := hid hB3
  clear hO hB hO4 hg4 hB2 hO5 hg5 hB3
  go_wp2_with fail
  refine wp_loop_rounds 3 ?_
  rw [rounds_succ]
  go_wp2_with (at_builtin; refine wpList_append_eq rfl _ _ _ rfl _ _ rfl rfl hr4 ?_)
  rw [rounds_succ]
  go_wp2_with (at_builtin; refine wpList_append_eq rfl _ _ _ rfl _ _ rfl rfl hr5 ?_)
  rw [rounds_succ]
  go_wp2_with fail
  go_ret
  exact ⟨_, _, rfl, HFIN.out, HB3.out⟩
end Go.Proofs.YtaefpjecalnbcaaGreat
