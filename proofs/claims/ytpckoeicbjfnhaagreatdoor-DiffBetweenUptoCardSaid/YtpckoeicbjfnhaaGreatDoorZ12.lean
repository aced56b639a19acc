/- What darningref11.First returns: vfrom; darningref11.Check. Bytes of at most 2 to the 40 (darningref09.Ends appends). The frames of a stream: plain law; the iterator frames.frames$1, whose rounds are these frames. darninglaw07.Few returns a bool, whatever the schema. Slices of slices of bytes: read (BytesL), and of the call's own (Rows). Canonical words and their bytes: kind.Canon, darningref06.Canon (kcanon), bits.Little, darningref01.Little (little), scalar.Put, darningref08.Put (kput), run.Pack, darningref09.Pack (kpack). The kind is a number's; words are below 2^64; a list's length is at most 2^36. -/
import Derived.Test.YtpckoeicbjfnhaaGreatDoorZ05
import Derived.Test.YtpckoeicbjfnhaaGreatDoorZ10
import Derived.Test.YtpckoeicbjfnhaaGreatDoorZ11
namespace Go.Proofs.YtpckoeicbjfnhaaGreatDoor
open Go.RowKit
end Go.Proofs.YtpckoeicbjfnhaaGreatDoor
namespace Go.Proofs.YtpckoeicbjfnhaaGreatDoor
open Go.RowKit Go.Shelf
attribute [local go_sem] Oper.semAt_some
/-- A frame: its number, its place, where its bytes begin and end, the code -/
structure Ev where
  i : Nat
  at' : Nat
  ff : Nat
  tt : Nat
  c : Nat
/-- what yield is handed -/
def Ev.val (a : Option Addr) (ln cap : Nat) (e : Ev) : Value := .agg #[if e.c = 0 then sliced a (min e.ff (min e.tt ln)) (min e.tt ln) cap 1 else .slice none 0 0, .int .i64 e.at', .int .u8 e.c]
def Ev.enc (a : Option Addr) (ln cap : Nat) (e : Ev) : Array Value := #[.int .i64 e.i, e.val a ln cap]
end Go.Proofs.YtpckoeicbjfnhaaGreatDoor
namespace Go.Proofs.YtpckoeicbjfnhaaGreatDoor
open Go.RowKit
set_option maxRecDepth 100000 in
set_option maxHeartbeats 4000000 in
theorem law07_Few {w : World} {v : Value} {s : List Mes} (hS : SchemaAt w v s) :
    Calls Tryz.prog 8 #[v] w fun e w' => (∃ b, e = .returned (.bool b)) ∧ Below w.heap.size w w' := by
  obtain ⟨hlen, a, cap, rfl, hat⟩ := hS.open
  obtain ⟨n, HN⟩ : ∃ n, Hid (n = s.length) := ⟨_, rfl⟩
  rw [← HN.out] at hat hlen ⊢
  have HAT := hid hat
  clear hat hS
  go_enter Tryz.func8, Tryz.ntmps8
  go_wp2_with fail
  go_loopw [3, 4, 5] (fun v3 v4 _ wr => ∃ (z : Int) (i : Nat), v3 = .int .i64 z ∧ i ≤ n ∧ v4 = .int .i64 i ∧ Hid (Below w.heap.size w wr)) (fun _ v4 _ _ => n - (intOf v4).toNat)
  case atStart => exact ⟨0, 0, rfl, by omega, rfl, Below.refl _ _⟩
  case round =>
    obtain ⟨z, i, rfl, hi, rfl, HB⟩ := hrel
    by_cases hlt : i < n
    · have hat := HAT.out
      obtain ⟨b, o, fv, ha, hnm, c0, c1, hfs⟩ := hat i hlt
      obtain ⟨fl, fa, fcap, rfl, hft⟩ := hfs.open
      clear hat hfs
      obtain ⟨fn, HFN⟩ : ∃ fn, Hid (fn = (s.getD i .zero).fields.length) := ⟨_, rfl⟩
      obtain ⟨nm, HNM⟩ : ∃ nm, Hid (nm = (s.getD i .zero).name) := ⟨_, rfl⟩
      rw [← HFN.out] at fl c1 hft
      rw [← HNM.out] at hnm c0
      have HFT := hid hft
      clear hft
      have hkr := below_keeps HB.out
      replace c0 := hkr _ _ c0
      replace c1 := hkr _ _ c1
      clear hkr
      have hix := index_run Tryz.underlying23 size_mes ha i hlt (cap := cap)
      have hbl : b < wr.heap.size := World.block_lt_of_cell? wr _ c0
      clear ha
      go_wp2_with fail
      go_quiet (fail)
      go_wp2_with fail
      obtain ⟨wo, HWO⟩ : ∃ wo, Hid (wo = wr.drewN nq) := ⟨_, rfl⟩
      rw [← HWO.out]
      have HBO : Hid (Below w.heap.size w wo) := by rw [HWO.out]; exact below_drewN HB.out _
      replace c1 : wo.cell? ⟨b, o + i * 2 + 1, none⟩ = some (.slice fa fn fcap) := by rw [HWO.out]; exact c1
      clear c0 hbl
      have HC1 := hid c1
      clear c1
      go_loopw [3, 5] (fun v3 v5 wq => ∃ (z : Int) (k : Nat), v3 = .int .i64 z ∧ k ≤ fn ∧ v5 = .int .i64 k ∧ Hid (Below wo.heap.size wo wq)) (fun _ v5 _ => fn - (intOf v5).toNat)
      case atStart => exact ⟨_, 0, rfl, by omega, rfl, Below.refl _ _⟩
      case round =>
        obtain ⟨z2, k, rfl, hk, rfl, HBQ⟩ := hrel
        have c1 := below_keeps HBQ.out _ _ HC1.out
        have hbl : b < wr.heap.size := World.block_lt_of_cell? wr _ c1
        by_cases hlk : k < fn
        · have hft := HFT.out
          obtain ⟨b2, o2, ha2, hok, g0, -⟩ := hft k hlk
          clear hft
          have hkr := below_keeps (HBO.out.trans (HBQ.out.mono HBO.out.size))
          replace g0 := hkr _ _ g0
          clear hkr
          obtain ⟨fx, HFX⟩ : ∃ fx, Hid (fx = (s.getD i .zero).fields.getD k .zero) := ⟨_, rfl⟩
          rw [← HFX.out] at hok g0
          have hsz := hok.name
          have hix2 := index_run Tryz.underlying74 size_fld ha2 k hlk (cap := fcap)
          have hbl2 : b2 < wr.heap.size := World.block_lt_of_cell? wr _ g0
          clear ha2 hok
          go_wp2_with fail
          go_roundw
          case rel => exact ⟨_, k + 1, rfl, hlk, by go_num, HBQ⟩
          case measure => simp [intOf]; omega
        · go_wp2_with fail
          go_roundw
          case rel => exact ⟨_, i + 1, rfl, hlt, by go_num, HBO.out.trans (HBQ.out.mono HBO.out.size)⟩
          case measure => simp [intOf]; omega
    · go_wp2_with fail
      go_ret
      exact ⟨⟨_, rfl⟩, HB.out⟩
end Go.Proofs.YtpckoeicbjfnhaaGreatDoor
namespace Go.Proofs.YtpckoeicbjfnhaaGreatDoor
open Go.RowKit Go.Shelf
/-- A [][]byte reads as ls. -/
def BytesL (w : World) (v : Value) (ls : List (List UInt8)) : Prop :=
  ∃ vs : List Value, vs.length = ls.length ∧ Seg w v 1 ls.length vs ∧ ∀ j, j < ls.length → Bytes w (vs.getD j undef) (ls.getD j [])
theorem BytesL.keep {w w' : World} {v : Value} {ls : List (List UInt8)} (h : BytesL w v ls) (hk : ∀ p u, w.cell? p = some u → w'.cell? p = some u) : BytesL w' v ls :=
  let ⟨vs, h1, h2, h3⟩ := h
  ⟨vs, h1, h2.keep hk, fun j hj => (h3 j hj).keep hk⟩
/-- What a walk wants. -/
theorem BytesL.open {w : World} {v : Value} {ls : List (List UInt8)} (h : BytesL w v ls) :
    ls.length ≤ 140737488355328 ∧ ∃ a cap, v = .slice a ls.length cap ∧ (a = none → cap = 0) ∧
      ∀ k, k < ls.length → ∃ b o x, a = some ⟨b, o, none⟩ ∧ w.cell? ⟨b, o + k, none⟩ = some x ∧ Bytes w x (ls.getD k []) := by
  obtain ⟨vs, h1, ⟨_, h2, a, cap, hv, h3, h4, h5, h6⟩, hb⟩ := h
  refine ⟨h2, a, cap, hv, h5, fun k hk => ?_⟩
  have hx : vs[k]? = some (vs.getD k undef) := by simp [List.getD, h1, hk]
  obtain ⟨b, o, ha, hc⟩ := h6 k _ hx
  exact ⟨b, o, _, ha, hc, hb k hk⟩
/-- A [][]byte of the call's own, whose elements are the call's own. -/
def Rows (W : World) (base : Nat) (lv : Value) (ls : List (List UInt8)) : Prop :=
  ∃ vs : List Value, W.ownsRow base 47 1 lv ls.length vs ∧ vs.length = ls.length ∧ ∀ j, j < ls.length → Own W base (vs.getD j undef) (ls.getD j [])
theorem Rows.keep {W W' : World} {base : Nat} {lv : Value} {ls : List (List UInt8)} (h : Rows W base lv ls)
    (hk : ∀ b cur e, base ≤ b → W.heap[b]? = some (.cells cur e (0, 0)) → e = 47 ∨ e = 5 → W'.heap[b]? = W.heap[b]?) : Rows W' base lv ls :=
  let ⟨vs, h1, h2, h3⟩ := h
  ⟨vs, row_keep h1 (fun b cur hb he => hk b cur _ hb he (.inl rfl)), h2, fun j hj => row_keep (h3 j hj) (fun b cur hb he => hk b cur _ hb he (.inr rfl))⟩
theorem Rows.later {W W' : World} {base : Nat} {lv : Value} {ls : List (List UInt8)} (h : Rows W base lv ls) (hb : Below W.heap.size W W') : Rows W' base lv ls :=
  h.keep fun b _cur _e _ he _ => hb.block b (Array.getElem?_eq_some_iff.1 he).1
theorem blk_ne {W : World} {b b' : Nat} {cs : List Value} {T T' : TypeId} {cur : Array Value} (h : Blk W b cs T) (h' : W.heap[b']? = some (.cells cur T' (0, 0))) (hne : T ≠ T') : b' ≠ b := by
  rintro rfl
  unfold Blk at h
  rw [h] at h'
  injection h' with h'
  injection h' with _ ht
  exact hne ht
/-- A store into a box of another type. -/
theorem Rows.set {W : World} {base B : Nat} {lv x : Value} {ls : List (List UInt8)} {cs : List Value} {T : TypeId} (h : Rows W base lv ls) (hB : Blk W B cs T) (h1 : T ≠ 47) (h2 : T ≠ 5) (j : Nat) :
    Rows (W.setCell ⟨B, j, none⟩ x) base lv ls :=
  h.keep fun b cur e _ he hee => Below.heap_setCell W _ _ b (by
    show b ≠ B
    rcases hee with rfl | rfl
    · exact blk_ne hB he h1
    · exact blk_ne hB he h2)
theorem Own.mono {W : World} {b b' : Nat} {v : Value} {l : List UInt8} (h : Own W b v l) (hb : b' ≤ b) : Own W b' v l :=
  ⟨h.1, h.2.imp id (fun ⟨g, cap, cur, hv, hg, r⟩ => ⟨g, cap, cur, hv, Nat.le_trans hb hg, r⟩)⟩
theorem Rows.mono {W : World} {b b' : Nat} {v : Value} {ls : List (List UInt8)} (h : Rows W b v ls) (hb : b' ≤ b) : Rows W b' v ls :=
  let ⟨vs, h1, h2, h3⟩ := h
  ⟨vs, ⟨h1.1, h1.2.imp id (fun ⟨g, cap, cur, hv, hg, r⟩ => ⟨g, cap, cur, hv, Nat.le_trans hb hg, r⟩)⟩, h2, fun j hj => (h3 j hj).mono hb⟩
theorem Own.form {w : World} {base : Nat} {v : Value} {l : List UInt8} (h : Own w base v l) : ∃ a c, v = .slice a l.length c := by
  rcases h.2 with ⟨rfl, h0⟩ | ⟨g, cap, cur, rfl, _⟩
  · exact ⟨none, 0, by rw [h0]⟩
  · exact ⟨_, _, rfl⟩
theorem Rows.form {w : World} {base : Nat} {v : Value} {ls : List (List UInt8)} (h : Rows w base v ls) : ∃ a c, v = .slice a ls.length c := by
  obtain ⟨vs, h1, -, -⟩ := h
  rcases h1.2 with ⟨rfl, h0⟩ | ⟨g, cap, cur, rfl, _⟩
  · exact ⟨none, 0, by rw [h0]⟩
  · exact ⟨_, _, rfl⟩
end Go.Proofs.YtpckoeicbjfnhaaGreatDoor
namespace Go.Proofs.YtpckoeicbjfnhaaGreatDoor
open Go.RowKit
theorem knum_cases {k : Int} (h : knumber k = true) : k = 1 ∨ k = 2 ∨ k = 3 ∨ k = 4 ∨ k = 5 ∨ k = 6 ∨ k = 7 ∨ k = 8 ∨ k = 9 ∨ k = 10 ∨ k = 11 ∨ k = 12 ∨ k = 13 ∨ k = 14 := by
  have h' : 1 ≤ k ∧ k ≤ 14 := of_decide_eq_true h
  omega
set_option maxRecDepth 100000 in
set_option maxHeartbeats 4000000 in
theorem kind_Canon_32 (k : Int) (hk : k = 1 ∨ k = 8) (x : Nat) (w : World) :
    Calls Tryz.prog 138 #[.int .i64 k, .int .u64 x] w fun e w' => e = .returned (.tuple #[.int .u64 (kcanon k x), .int .u8 0]) ∧ Below w.heap.size w w' := by
  have HC : Hid (kcanon k x = w32 x) := by rw [Hid, kcanon, if_pos hk]
  have HK : Hid (knumber k = true) := by rcases hk with rfl | rfl <;> rfl
  rcases hk with rfl | rfl
  all_goals
    go_enter Tryz.func138, Tryz.ntmps138
    go_wp2_with (first | (go_at_call 129; refine (kind_Number _ _).mono ?_; rintro e w1 ⟨rfl, hb⟩; rw [HK.out]) | (go_at_call 190; refine (bits_Sign32 x _).mono ?_; rintro e w2 ⟨rfl, rfl⟩) | (go_at_call 189; refine (bits_Wide32 x _).mono ?_; rintro e w3 ⟨rfl, rfl⟩))
    go_ret2
    exact ⟨by rw [HC.out]; rfl, hb⟩
set_option maxRecDepth 100000 in
set_option maxHeartbeats 4000000 in
theorem kind_Canon_7 (x : Nat) (w : World) :
    Calls Tryz.prog 138 #[.int .i64 7, .int .u64 x] w fun e w' => e = .returned (.tuple #[.int .u64 (kcanon 7 x), .int .u8 0]) ∧ Below w.heap.size w w' := by
  have HK : Hid (knumber 7 = true) := rfl
  by_cases h : 0 < x
  · have HC : Hid (kcanon 7 x = 1) := by simp [Hid, kcanon, h]
    go_enter Tryz.func138, Tryz.ntmps138
    go_wp2_with (go_at_call 129; refine (kind_Number _ _).mono ?_; rintro e w1 ⟨rfl, hb⟩; rw [HK.out])
    go_ret2
    exact ⟨by rw [HC.out]; rfl, hb⟩
  · have HC : Hid (kcanon 7 x = 0) := by simp [Hid, kcanon, h]
    obtain rfl : x = 0 := by omega
    go_enter Tryz.func138, Tryz.ntmps138
    go_wp2_with (go_at_call 129; refine (kind_Number _ _).mono ?_; rintro e w1 ⟨rfl, hb⟩; rw [HK.out])
    go_ret2
    exact ⟨by rw [HC.out]; rfl, hb⟩
theorem field_form (s : ByteArray) (a b : Int) (w : World) : (Instr.field 277 (.agg #[.string s, .int .i64 a, .int .i64 b]) 2).run Tryz.prog w = .ok (.int .i64 b) w := by kernel_rfl
theorem forms_at {k : Int} {n : Nat} (h : kright k = true) (hn : kbits k = n) : ∀ (W : World) (r : Nat), MapIs W r intK formsL →
    (Instr.lookup 279 (.map (some r)) (.int .i64 k) false).run Tryz.prog W = .ok (.agg #[.string (kname k), .int .i64 (kwire k), .int .i64 n]) W := by
  intro W r hm
  have hl := map_lookup (P := Tryz.prog) intK_ok Tryz.underlying279 form_zero hm k false
  rw [getOf_forms, if_pos h, hn] at hl
  exact hl
set_option maxRecDepth 100000 in
set_option maxHeartbeats 4000000 in
theorem kind_Canon_low (k : Int) (hk : k = 3 ∨ k = 5 ∨ k = 9 ∨ k = 10 ∨ k = 11) (x : Nat) (w : World) :
    Calls Tryz.prog 138 #[.int .i64 k, .int .u64 x] w fun e w' => e = .returned (.tuple #[.int .u64 (kcanon k x), .int .u8 0]) ∧ Below w.heap.size w w' := by
  have HC : Hid (kcanon k x = x % 4294967296) := by rw [Hid, kcanon, if_neg (by omega), if_neg (by omega), if_pos hk]
  have HK : Hid (knumber k = true) := by rcases hk with rfl | rfl | rfl | rfl | rfl <;> rfl
  have HL := hid (forms_at (k := k) (n := 32) (by rcases hk with rfl | rfl | rfl | rfl | rfl <;> rfl) (by rcases hk with rfl | rfl | rfl | rfl | rfl <;> rfl))
  rcases hk with rfl | rfl | rfl | rfl | rfl
  all_goals
    go_enter Tryz.func138, Tryz.ntmps138
    go_wp2_with (go_at_call 129; refine (kind_Number _ _).mono ?_; rintro e w1 ⟨rfl, hb⟩; rw [HK.out])
    refine (kind_forms _).mono ?_
    rintro e w2 ⟨r, hm, hr, hb2, rfl⟩
    have hl := HL.out w2 r hm
    have hfd := field_form
    have HB : Hid (Below w.heap.size w w2) := hb.trans (hb2.mono hb.size)
    clear hb hb2
    go_wp2_with (go_at_call 191; refine (bits_Low32 x _).mono ?_; rintro e w3 ⟨rfl, rfl⟩)
    go_ret2
    exact ⟨by rw [HC.out]; first | rfl | go_num | (simp [go_sem]; omega), HB.out⟩
set_option maxRecDepth 100000 in
set_option maxHeartbeats 4000000 in
theorem kind_Canon_whole (k : Int) (hk : k = 2 ∨ k = 4 ∨ k = 6 ∨ k = 12 ∨ k = 13 ∨ k = 14) (x : Nat) (w : World) :
    Calls Tryz.prog 138 #[.int .i64 k, .int .u64 x] w fun e w' => e = .returned (.tuple #[.int .u64 (kcanon k x), .int .u8 0]) ∧ Below w.heap.size w w' := by
  have HC : Hid (kcanon k x = x) := by rw [Hid, kcanon, if_neg (by omega), if_neg (by omega), if_neg (by omega)]
  have HK : Hid (knumber k = true) := by rcases hk with rfl | rfl | rfl | rfl | rfl | rfl <;> rfl
  have HL := hid (forms_at (k := k) (n := 64) (by rcases hk with rfl | rfl | rfl | rfl | rfl | rfl <;> rfl) (by rcases hk with rfl | rfl | rfl | rfl | rfl | rfl <;> rfl))
  rcases hk with rfl | rfl | rfl | rfl | rfl | rfl
  all_goals
    go_enter Tryz.func138, Tryz.ntmps138
    go_wp2_with (go_at_call 129; refine (kind_Number _ _).mono ?_; rintro e w1 ⟨rfl, hb⟩; rw [HK.out])
    refine (kind_forms _).mono ?_
    rintro e w2 ⟨r, hm, hr, hb2, rfl⟩
    have hl := HL.out w2 r hm
    have hfd := field_form
    have HB : Hid (Below w.heap.size w w2) := hb.trans (hb2.mono hb.size)
    clear hb hb2
    go_wp2_with fail
    go_ret2
    exact ⟨by rw [HC.out]; rfl, HB.out⟩
theorem kind_Canon {k : Int} (hk : knumber k = true) (x : Nat) (w : World) :
    Calls Tryz.prog 138 #[.int .i64 k, .int .u64 x] w fun e w' => e = .returned (.tuple #[.int .u64 (kcanon k x), .int .u8 0]) ∧ Below w.heap.size w w' := by
  rcases knum_cases hk with h | h | h | h | h | h | h | h | h | h | h | h | h | h
  case inr.inr.inr.inr.inr.inr.inl => subst h; exact kind_Canon_7 x w
  all_goals first
    | exact kind_Canon_32 k (by omega) x w
    | exact kind_Canon_low k (by omega) x w
    | exact kind_Canon_whole k (by omega) x w
end Go.Proofs.YtpckoeicbjfnhaaGreatDoor
