/- Literals: a block of the call's own, read as words, fields, a schema, values. No condition. darninglaw16.CanonEncodes, CanonValues return true. The meaning's weight is at most 2^40. darninglaw16.CanonIs returns true, of contracts of tree.of and darningref14.Of. view.All: all views of bytes (vall). At most 2^40 bytes. darningref10.All: all views of bytes (vall). At most 2^40 bytes. -/
import Derived.Test.YtbhiddafbpingaaGreatZ05
import Derived.Test.YtbhiddafbpingaaGreatZ09
import Derived.Test.YtbhiddafbpingaaGreatZ11
import Derived.Test.YtbhiddafbpingaaGreatZ17
import Derived.Test.YtbhiddafbpingaaGreatZ23
import Derived.Test.YtbhiddafbpingaaGreatZ31
import Derived.Test.YtbhiddafbpingaaGreatZ32
import Derived.Deep.DeepCutAuto
namespace Go.Proofs.YtbhiddafbpingaaGreat
open Go.RowKit

/-! Literals: a block as a slice. -/
theorem words_blk {w : World} {g : Nat} {l : List Nat} {T : TypeId} (h : Blk w g (l.map wordV) T) (n : Nat) (hl : n = l.length) (hn : n ≤ 140737488355328) (h64 : ∀ x ∈ l, x < 2 ^ 64) : WordsAt w (.slice (some ⟨g, 0, none⟩) n n) l := by
  subst hl
  exact ⟨seg_blk h 1 _ (by simp) hn, h64⟩
theorem words_nil (w : World) : WordsAt w (.slice none 0 0) [] := ⟨⟨rfl, by simp, _, _, rfl, Nat.le_refl _, by omega, fun _ => rfl, fun j u hu => by simp at hu⟩, by simp⟩
theorem strs_nil (w : World) : StrsAt w (.slice none 0 0) [] := ⟨⟨rfl, by simp, _, _, rfl, Nat.le_refl _, by omega, fun _ => rfl, fun j u hu => by simp at hu⟩, by simp⟩
theorem rowsAt_nil {α : Type} (P : World → List Value → α → Prop) (k : Nat) (w : World) : RowsAt P k w (.slice none 0 0) [] := ⟨[], rfl, by simp, ⟨by simp, by simp, _, _, rfl, Nat.le_refl _, by omega, fun _ => rfl, fun j u hu => by simp at hu⟩, by simp⟩
theorem fields_blk {w : World} {g : Nat} {fs : List Fld} {T : TypeId} (h : Blk w g (fs.flatMap Fld.cells) T) (n : Nat) (hl : n = fs.length) (hn : n ≤ 140737488355328) (hok : ∀ f ∈ fs, f.Ok) : FieldsAt w (.slice (some ⟨g, 0, none⟩) n n) fs := by
  subst hl
  refine ⟨seg_blk h 6 _ ?_ hn, hok⟩
  clear h hok hn
  induction fs with
  | nil => rfl
  | cons f r ih => rw [List.flatMap_cons, List.length_append, ih, List.length_cons, Nat.succ_mul]; show 6 + _ = _; omega
theorem schema_one {w : World} {g : Nat} {name : ByteArray} {fs : List Fld} {fv : Value} {T : TypeId} (h : Blk w g [.string name, fv] T) (hn : name.size ≤ 140737488355328) (hf : FieldsAt w fv fs) : SchemaAt w (.slice (some ⟨g, 0, none⟩) 1 1) [⟨name, fs⟩] := by
  refine ⟨[fv], rfl, seg_blk h 2 1 rfl (by omega), by simpa using hn, fun i hi => ?_⟩
  have : i = 0 := by simp at hi; omega
  subst this
  exact hf
theorem vals_one {d : Nat} {w : World} {g : Nat} {wv tv sv : Value} {x : Val (M d)} {T : TypeId} (h : Blk w g [.int .i64 x.num, wv, tv, sv] T) (hv : ValAt (MsgAt d) w (.agg #[.int .i64 x.num, wv, tv, sv]) x) : ValsAt (MsgAt d) w (.slice (some ⟨g, 0, none⟩) 1 1) [x] := by
  refine ⟨[[.int .i64 x.num, wv, tv, sv]], rfl, by simp, by simpa using seg_blk h 4 1 rfl (by omega), fun i r y hr hy => ?_⟩
  match i with
  | 0 =>
    simp at hr hy
    subst hr
    subst hy
    exact hv
  | i + 1 => simp at hr


end Go.Proofs.YtbhiddafbpingaaGreat

namespace Go.Proofs.YtbhiddafbpingaaGreat
open Go.RowKit

def s16 : List Mes := [⟨⟨#[109]⟩, [⟨⟨#[97]⟩, 1, 3, true, false, 0⟩]⟩]
def v16 : Val (M 0) := ⟨1, [1, 300], [], []⟩
def x16 : M 1 := (⟨[v16], []⟩ : Msgd (M 0))

set_option maxRecDepth 100000 in
set_option maxHeartbeats 4000000 in
theorem law16_alive (w : World) : Calls Tryz.prog 19 #[] w fun e w' => e = .returned (.bool true) ∧ Below w.heap.size w w' := by
  have HC : Hid (mayCode s16 0 1 x16 = 0 ∧ encOut s16 0 1 x16 = [10, 3, 1, 172, 2] ∧ mwt 1 x16 ≤ 100) := by
    refine ⟨by decide +kernel, by decide +kernel, by decide +kernel⟩
  have HW : Hid (∀ W, W = ((((w.alloc (.cells #[.string ⟨#[97]⟩, .int .i64 1, .int .i64 3, .bool true, .bool false, .int .i64 0] 74)).alloc (.cells #[.string ⟨#[109]⟩, .slice (some ⟨w.heap.size, 0, none⟩) 1 1] 69)).alloc (.cells #[.int .u64 1, .int .u64 300] 27)).alloc
      (.cells #[.int .i64 1, .slice (some ⟨w.heap.size + 1 + 1, 0, none⟩) 2 2, .slice none 0 0, .slice none 0 0] 109)) →
      SchemaAt W (.slice (some ⟨w.heap.size + 1, 0, none⟩) 1 1) s16 ∧ MsgAt 1 W (.agg #[.slice (some ⟨w.heap.size + 1 + 1 + 1, 0, none⟩) 1 1, .slice none 0 0]) x16 ∧ Below w.heap.size w W) := by
    rintro W rfl
    have b0 := (((Blk.new w [.string ⟨#[97]⟩, .int .i64 1, .int .i64 3, .bool true, .bool false, .int .i64 0] 74).alloc (.cells #[.string ⟨#[109]⟩, .slice (some ⟨w.heap.size, 0, none⟩) 1 1] 69)).alloc (.cells #[.int .u64 1, .int .u64 300] 27)).alloc
      (.cells #[.int .i64 1, .slice (some ⟨w.heap.size + 1 + 1, 0, none⟩) 2 2, .slice none 0 0, .slice none 0 0] 109)
    have b1 := ((Blk.new' (w.alloc (.cells #[.string ⟨#[97]⟩, .int .i64 1, .int .i64 3, .bool true, .bool false, .int .i64 0] 74)) [.string ⟨#[109]⟩, .slice (some ⟨w.heap.size, 0, none⟩) 1 1] 69 (w.heap.size + 1) (by simp)).alloc (.cells #[.int .u64 1, .int .u64 300] 27)).alloc
      (.cells #[.int .i64 1, .slice (some ⟨w.heap.size + 1 + 1, 0, none⟩) 2 2, .slice none 0 0, .slice none 0 0] 109)
    have b2 := (Blk.new' ((w.alloc (.cells #[.string ⟨#[97]⟩, .int .i64 1, .int .i64 3, .bool true, .bool false, .int .i64 0] 74)).alloc (.cells #[.string ⟨#[109]⟩, .slice (some ⟨w.heap.size, 0, none⟩) 1 1] 69)) [.int .u64 1, .int .u64 300] 27 (w.heap.size + 1 + 1) (by simp)).alloc
      (.cells #[.int .i64 1, .slice (some ⟨w.heap.size + 1 + 1, 0, none⟩) 2 2, .slice none 0 0, .slice none 0 0] 109)
    have b3 := Blk.new' (((w.alloc (.cells #[.string ⟨#[97]⟩, .int .i64 1, .int .i64 3, .bool true, .bool false, .int .i64 0] 74)).alloc (.cells #[.string ⟨#[109]⟩, .slice (some ⟨w.heap.size, 0, none⟩) 1 1] 69)).alloc (.cells #[.int .u64 1, .int .u64 300] 27))
      [.int .i64 1, .slice (some ⟨w.heap.size + 1 + 1, 0, none⟩) 2 2, .slice none 0 0, .slice none 0 0] 109 (w.heap.size + 1 + 1 + 1) (by simp)
    refine ⟨?_, ?_, (((((Below.refl w.heap.size w).alloc (Nat.le_refl _) _).alloc (by simp) _).alloc (by simp; omega) _).alloc (by simp; omega) _)⟩
    · exact schema_one b1 (by decide) (fields_blk (fs := [⟨⟨#[97]⟩, 1, 3, true, false, 0⟩]) b0 1 rfl (by omega) (by simp; exact ⟨by decide, by decide, by decide, by decide⟩))
    · exact ⟨_, _, rfl, vals_one (d := 0) (x := v16) b3 ⟨_, _, _, rfl, by decide, words_blk (l := [1, 300]) b2 2 rfl (by omega) (by simp), strs_nil _, rowsAt_nil _ _ _⟩, strs_nil _⟩
  go_enter Tryz.func19, Tryz.ntmps19
  go_wp2_with fail
  obtain ⟨hS, hM, hb⟩ := HW.out _ rfl
  obtain ⟨W, HWW⟩ : ∃ W, Hid (W = ((((w.alloc (.cells #[.string ⟨#[97]⟩, .int .i64 1, .int .i64 3, .bool true, .bool false, .int .i64 0] 74)).alloc (.cells #[.string ⟨#[109]⟩, .slice (some ⟨w.heap.size, 0, none⟩) 1 1] 69)).alloc (.cells #[.int .u64 1, .int .u64 300] 27)).alloc
      (.cells #[.int .i64 1, .slice (some ⟨w.heap.size + 1 + 1, 0, none⟩) 2 2, .slice none 0 0, .slice none 0 0] 109))) := ⟨_, rfl⟩
  rw [← HWW.out] at hS hM hb ⊢
  have HCE := hid (canon_Encode hS 0 hM (by have := HC.out.2.2; omega))
  rw [HC.out.1, HC.out.2.1] at HCE
  have HB := hid hb
  clear hS hM hb HW HWW HC
  refine HCE.out.mono ?_
  rintro e w1 ⟨v1, rfl, hO, hb1⟩
  obtain ⟨a, q, e1⟩ := hO.form
  simp only [List.length_cons, List.length_nil, Nat.zero_add] at e1
  subst e1
  have HB1 := hid (HB.out.trans (hb1.mono HB.out.size))
  have HBY := hid (hO.bytes (by simp))
  clear hO hb1
  go_wp2_with fail
  have hb5 := (Below.refl w1.heap.size w1).alloc (Nat.le_refl _) (.cells #[.int .u8 10, .int .u8 3, .int .u8 1, .int .u8 172, .int .u8 2] 5)
  have HSM := hid (ref01_Same (HBY.out.below hb5) (bytes_new w1 5 #[.int .u8 10, .int .u8 3, .int .u8 1, .int .u8 172, .int .u8 2] [10, 3, 1, 172, 2] rfl (by simp)))
  have HB5 := hid (HB1.out.trans (hb5.mono HB1.out.size))
  clear hb5
  refine HSM.out.mono ?_
  rintro e w2 ⟨rfl, rfl⟩
  go_wp2_with fail
  go_ret
  exact ⟨by simp, HB5.out⟩

theorem size_rmsg1 (w : World) : ∀ (g n : Nat), n = 1 → (Instr.indexAt 86 (.slice (some ⟨g, 0, none⟩) n n) (.int .i64 0)).run Tryz.prog w = .ok (.pointer (some ⟨g, 0, none⟩)) w := by
  rintro g n rfl
  have := index_run Tryz.underlying86 size_rmsg (a := some ⟨g, 0, none⟩) rfl 0 (len := 1) (by decide) (cap := 1) w
  simpa using this
theorem may_cases (s : List Mes) (root : Int) (d : Nat) (x : M d) : mayCode s root d x = 0 ∧ sright s = true ∧ rightB s d root x = true ∨ mayCode s root d x = 9 ∨ mayCode s root d x = 2 ∨ mayCode s root d x = 12 := by
  unfold mayCode
  by_cases h1 : sright s = false
  · rw [if_pos h1]; omega
  · rw [if_neg h1]
    by_cases h2 : root < 0 ∨ (s.length : Int) ≤ root
    · rw [if_pos h2]; omega
    · rw [if_neg h2]
      by_cases h3 : rightB s d root x = false
      · rw [if_pos h3]; omega
      · rw [if_neg h3]; exact .inl ⟨rfl, by simpa using h1, by simpa using h3⟩

end Go.Proofs.YtbhiddafbpingaaGreat

namespace Go.Proofs.YtbhiddafbpingaaGreat
open Go.RowKit

theorem TOfOk.later {w0 w1 : World} {sv : Value} {s : List Mes} {d : Nat} (h : TOfOk w0 sv s d) (hb : Below w0.heap.size w0 w1) : TOfOk w1 sv s d :=
  fun m w v l hm hw => h m w v l hm (hb.trans (hw.mono hb.size))
set_option maxRecDepth 100000 in
set_option maxHeartbeats 4000000 in
theorem law16_CanonIs {w : World} {vs vb : Value} {s : List Mes} {l : List UInt8} (hof : sright s = true → ∀ d', TOfOk w vs s d') (hrf : sright s = true → ∀ d', ROfOk w vs s d') (hS : SchemaAt w vs s) (hb : Bytes w vb l) (root : Int) :
    Calls Tryz.prog 4 #[vs, .int .i64 root, vb] w fun e w' => e = .returned (.bool true) ∧ Below w.heap.size w w' := by
  have HOF := hid hof
  have HRF := hid hrf
  have HS := hid hS
  have HB := hid hb
  obtain ⟨-, sa, sc, rfl, -⟩ := hS.open
  obtain ⟨-, a, c, rfl, -⟩ := hb.open
  obtain ⟨n, HN⟩ : ∃ n, Hid (n = s.length) := ⟨_, rfl⟩
  obtain ⟨m, HM⟩ : ∃ n, Hid (n = l.length) := ⟨_, rfl⟩
  rw [← HN.out] at HS HOF HRF ⊢
  rw [← HM.out] at HB ⊢
  clear hS hb hof hrf
  go_enter Tryz.func4, Tryz.ntmps4
  go_wp2_with fail
  refine (law16_alive _).mono ?_
  rintro e w1 ⟨rfl, hb1⟩
  have HB1 := hid hb1
  go_wp2_with fail
  refine (law07_Few (HS.out.keep (below_keeps HB1.out))).mono ?_
  rintro e w2 ⟨⟨fw, rfl⟩, hb2⟩
  have HB2 := hid (HB1.out.trans (hb2.mono HB1.out.size))
  clear hb1 hb2
  cases fw with
  | false =>
    go_wp2_with fail
    go_ret
    exact ⟨rfl, HB2.out⟩
  | true =>
    by_cases hlong : (m : Int) > 1500
    · go_wp2_with fail
      go_ret
      exact ⟨rfl, HB2.out⟩
    · have hl : l.length ≤ 1500 := by have := HM.out; omega
      have HL := hid hl
      obtain ⟨z, HZ⟩ : ∃ z, Hid (z = decide ((vcheck s root l 64).2 = 0)) := ⟨_, rfl⟩
      have HI := hid (ref11_Is (HS.out.below HB2.out) (HB.out.below HB2.out) (by omega) root 64)
      rw [← HZ.out] at HI
      have HCI : Hid (∀ W, Below w.heap.size w W → Calls Tryz.prog 23 #[.slice sa n sc, .int .i64 root, .slice a m c] W fun e w' => e = .returned (.bool (canonB s root l)) ∧ Below W.heap.size W w') :=
        fun W hb => canon_Is (fun hs d' => (HOF.out hs d').later hb) (HS.out.below hb) (HB.out.below hb) (by have := HL.out; omega) root
      obtain ⟨r, HR⟩ : ∃ r, Hid (r = canonB s root l) := ⟨_, rfl⟩
      rw [← HR.out] at HCI
      cases z with
      | false =>
        have hr : r = false := by rw [HR.out, canonB, ← HZ.out]; rfl
        subst hr
        go_wp2_with fail
        refine HI.out.mono ?_
        rintro e w3 ⟨rfl, hb3⟩
        have HB3 := hid (HB2.out.trans (hb3.mono HB2.out.size))
        go_wp2_with fail
        refine (HCI.out _ HB3.out).mono ?_
        rintro e w4 ⟨rfl, hb4⟩
        go_wp2_with fail
        go_ret
        exact ⟨rfl, HB3.out.trans (hb4.mono HB3.out.size)⟩
      | true =>
        obtain ⟨g1, ⟨g2, g3⟩, -, g6⟩ := vcheck_ok (of_decide_eq_true HZ.out.symm)
        obtain ⟨q, rfl⟩ : ∃ q : Nat, root = q := ⟨root.toNat, by omega⟩
        have g6' : (vmsg s 64 q l).2 = 0 := g6
        obtain ⟨E, HE⟩ : ∃ E, Hid (E = encM s 65 (q : Int) (tof s 64 q l)) := ⟨_, rfl⟩
        have hr : r = decide (l = E) := by rw [HR.out, canonB, ← HZ.out, HE.out]; rfl
        go_wp2_with fail
        refine HI.out.mono ?_
        rintro e w3 ⟨rfl, hb3⟩
        have HB3 := hid (HB2.out.trans (hb3.mono HB2.out.size))
        go_wp2_with fail
        refine (HRF.out g1 64 q _ _ l (by omega) HB3.out (HB.out.below HB3.out) (by have := HL.out; omega) g6').mono ?_
        rintro e w4 ⟨v4, rfl, hb4, hap⟩
        have hM : MsgAt 65 w4 v4 (tof s 64 q l) := hap.here
        have HB4 := hid (HB3.out.trans (hb4.mono HB3.out.size))
        have hwt : mwt 65 (tof s 64 q l) ≤ 1 + 4 * l.length := tof_weight s 64 q l
        have hel : E.length ≤ 140737488355328 := by
          have := enc_len g1 65 (q : Int) _ _ hM (by have := HL.out; omega)
          rw [HE.out]
          have := HL.out
          omega
        have hrt := tof_right g1 64 q l (by omega) g6'
        obtain ⟨a1, n1, c1, a2, n2, c2, rfl⟩ := hM.form
        have HEN := hid (ref16_EncOk g1 65 w4 (q : Int) _ _ _ (HS.out.below HB4.out) hM hrt (by have := HL.out; show mwt 65 _ ≤ _; omega))
        rw [← HE.out] at HEN
        go_wp2_with fail
        refine HEN.out.mono ?_
        rintro e w5 ⟨v5, rfl, hO, hb5⟩
        have HB5 := hid (HB4.out.trans (hb5.mono HB4.out.size))
        have hE2 := hO.bytes hel
        obtain ⟨-, a5, c5, rfl, -⟩ := hE2.open
        have HSM := hid (ref01_Same hE2 (HB.out.below HB5.out))
        go_wp2_with fail
        refine HSM.out.mono ?_
        rintro e w6 ⟨rfl, rfl⟩
        have hz6 : decide (E = l) = r := by rw [hr, decide_eq_decide]; exact eq_comm
        rw [hz6]
        go_wp2_with fail
        refine (HCI.out _ HB5.out).mono ?_
        rintro e w7 ⟨rfl, hb7⟩
        have HB7 := hid (HB5.out.trans (hb7.mono HB5.out.size))
        go_wp2_with fail
        go_ret
        exact ⟨by simp, HB7.out⟩

end Go.Proofs.YtbhiddafbpingaaGreat

namespace Go.Proofs.YtbhiddafbpingaaGreat
open Go.RowKit

def viewP (_ : World) (r : List Value) (x : VW) : Prop := r = x.cells
def AllPost (w : World) (T : TypeId) (k : Nat → Value) (x : List VW × Nat × Nat) (e : Ending) (w' : World) : Prop :=
  ∃ v' base, e = .returned (.tuple #[v', .int .i64 (x.2.1 : Nat), k x.2.2]) ∧ w.heap.size ≤ base ∧ RowsOwn viewP T 7 0 base w' v' x.1 ∧ Below w.heap.size w w'
theorem info_view : (Tryz.prog.info? 158).map (fun i => (i.zero, i.size, i.bytes)) = some (some (.agg #[.int .i64 0, .int .i64 0, .int .i64 0, .int .i64 0, .int .i64 0, .int .i64 0, .bool false]), 7, 56) := by kernel_rfl

set_option maxRecDepth 100000 in
set_option maxHeartbeats 8000000 in
theorem view_All {w : World} {v vf : Value} {l : List UInt8} {fs : List Fld} (h : Bytes w v l) (hl : l.length ≤ 1099511627776) (hf : FieldsAt w vf fs) (nm : ByteArray) :
    Calls Tryz.prog 81 #[.agg #[.string nm, vf], v] w (AllPost w 158 (fun c => .int .u8 (c : Int)) (vall fs l)) := by
  have HLL := hid hl
  obtain ⟨hlen, a, cap, rfl, -, -, -, -⟩ := h.open
  obtain ⟨-, fa, fc, rfl, -⟩ := hf.open
  obtain ⟨n, HN⟩ : ∃ n, Hid (n = l.length) := ⟨_, rfl⟩
  obtain ⟨fn, HFN⟩ : ∃ n, Hid (n = fs.length) := ⟨_, rfl⟩
  rw [← HN.out] at hlen HLL hl h ⊢
  rw [← HFN.out] at hf ⊢
  obtain ⟨w1, HW1⟩ : ∃ w1, Hid (w1 = w.alloc (.cells #[.string nm, .slice fa fn fc] 69)) := ⟨_, rfl⟩
  have hb1 : Below w.heap.size w w1 := by rw [HW1.out]; (repeat (first | with_reducible exact Below.refl _ _ | with_reducible refine Below.setCell ?_ (by first | omega | (simp; omega) | (simp; done)) _ | with_reducible refine Below.alloc ?_ (by first | omega | (simp; omega) | (simp; done)) _ | with_reducible refine below_drewN ?_ _ | with_reducible refine Below.drew ?_))
  have hbx : Blk w1 w.heap.size [.string nm, .slice fa fn fc] 69 := by rw [HW1.out]; exact Blk.new w [.string nm, .slice fa fn fc] _
  have HB1 := hid hb1
  have HBX := hid hbx
  have HV := hid (h.below hb1)
  have HF := hid (hf.below hb1)
  obtain ⟨Q, HQ⟩ : ∃ Q : Ending → World → Prop, Hid (Q = AllPost w 158 (fun c => .int .u8 (c : Int)) (vall fs l)) := ⟨_, rfl⟩
  rw [← HQ.out]
  clear h hf hb1 hbx
  go_enter Tryz.func81, Tryz.ntmps81
  go_wp2_with fail
  rw [← HW1.out]
  go_loopw [7, 8, 9, 10] (fun v7 v8 _ _ wr => ∃ (pre : List VW) (oa : Option Addr) (m oc at' : Nat), v7 = .slice oa m oc ∧ v8 = .int .i64 at' ∧ at' ≤ n ∧ m ≤ at' ∧ Hid (m = pre.length ∧ (∃ fuel, n - at' ≤ fuel ∧ vall fs l = glueV pre (vallGo fs l fuel at')) ∧ Below w1.heap.size w1 wr ∧ RowsOwn viewP 158 7 0 w1.heap.size wr (.slice oa m oc) pre)) (fun _ v8 _ _ _ => n - (intOf v8).toNat)
  case atStart => exact ⟨[], none, 0, 0, 0, rfl, rfl, by omega, by omega, rfl, ⟨l.length, by have := HN.out; omega, by rw [glueV_nil]; rfl⟩, Below.refl _ _, RowsOwn.nil _ _ _ _ _ _⟩
  case round =>
    obtain ⟨pre, oa, m, oc, at', rfl, rfl, hat, hmat, HI⟩ := hrel
    have hbx := HBX.out.below HI.out.2.2.1
    have c0 := hbx.cell 0 _ rfl
    have c1 := hbx.cell 1 _ rfl
    have hsz := hbx.lt
    have HBW : Hid (Below w.heap.size w wr) := HB1.out.trans (HI.out.2.2.1.mono HB1.out.size)
    clear hbx
    by_cases hlt : at' < n
    · obtain ⟨r, k, run, c, HR⟩ : ∃ r k run c, Hid (vlook fs l at' = (r, k, run, c)) := ⟨_, _, _, _, rfl⟩
      have hlk := view_Look (HV.out.below HI.out.2.2.1) (HF.out.below HI.out.2.2.1) nm at' (by omega)
      rw [HR.out] at hlk
      have HLK := hid hlk
      obtain ⟨rn, rw', rs, ra, rt⟩ := r
      simp only [viewV] at HLK
      clear hlk
      by_cases hc : c = 0
      · subst hc
        have hok : at' < rt ∧ rt ≤ n := by
          have := vlook_ok (fs := fs) (l := l) (i := at') (by rw [HR.out])
          rw [HR.out, ← HN.out] at this
          exact ⟨this.2.1, this.2.2.1⟩
        have HST : Hid (∃ fuel, n - rt ≤ fuel ∧ vall fs l = glueV (pre ++ [⟨⟨rn, rw', rs, ra, rt⟩, k, run⟩]) (vallGo fs l fuel rt)) := by
          obtain ⟨fuel, h1, h2⟩ := HI.out.2.1
          obtain ⟨f', rfl⟩ : ∃ f', fuel = f' + 1 := ⟨fuel - 1, by omega⟩
          exact ⟨f', by omega, by rw [h2, glueV_step (by rw [← HN.out]; exact hlt) HR.out]⟩
        go_wp2_with fail
        refine HLK.out.mono ?_
        rintro e w2 ⟨rfl, hb1⟩
        have hb2 := hb1.alloc hb1.size (.cells #[.int .i64 rn, .int .i64 rw', .int .i64 rs, .int .i64 ra, .int .i64 rt, .int .i64 k, .bool run] 158)
        have hk2 := Blk.new w2 [.int .i64 rn, .int .i64 rw', .int .i64 rs, .int .i64 ra, .int .i64 rt, .int .i64 k, .bool run] 158
        have hX : wr.heap.size ≤ w2.heap.size := hb1.size
        go_wp2_with fail
        generalize hW2 : w2.alloc (.cells #[.int .i64 rn, .int .i64 rw', .int .i64 rs, .int .i64 ra, .int .i64 rt, .int .i64 k, .bool run] 158) = W2 at *
        clear hW2
        generalize w2.heap.size = X at *
        clear hb1 c0 c1 hsz
        obtain ⟨a5, c5, w5, hr5, hO5, hB4, hB5, hk5⟩ := RowsOwn.step2 HI.out.2.2.2 hb2.drew (by decide) (by omega) HI.out.2.2.1.size HI.out.1.symm 152 _ 56 Tryz.underlying152 info_view rfl #[.int .i64 rn, .int .i64 rw', .int .i64 rs, .int .i64 ra, .int .i64 rt, .int .i64 k, .bool run] rfl (by intro u hu; simp at hu; rcases hu with rfl | rfl | rfl | rfl | rfl | rfl | rfl <;> rfl) ⟨⟨rn, rw', rs, ra, rt⟩, k, run⟩ (fun _ _ => rfl) (by have := HLL.out; omega) (by decide)
        have hkd : Blk W2.drew X [.int .i64 rn, .int .i64 rw', .int .i64 rs, .int .i64 ra, .int .i64 rt, .int .i64 k, .bool run] 158 := hk2
        have hke : Blk (W2.alloc (.cells #[.int .i64 rn, .int .i64 rw', .int .i64 rs, .int .i64 ra, .int .i64 rt, .int .i64 k, .bool run] 158)).drew X [.int .i64 rn, .int .i64 rw', .int .i64 rs, .int .i64 ra, .int .i64 rt, .int .i64 k, .bool run] 158 := hkd.alloc (.cells #[.int .i64 rn, .int .i64 rw', .int .i64 rs, .int .i64 ra, .int .i64 rt, .int .i64 k, .bool run] 158)
        have hkf : Blk w5 X [.int .i64 rn, .int .i64 rw', .int .i64 rs, .int .i64 ra, .int .i64 rt, .int .i64 k, .bool run] 158 := (hk5 X hX hk2.lt).trans hkd
        have k0 := And.intro (hkd.cell 0 _ rfl) (And.intro (hkd.cell 1 _ rfl) (And.intro (hkd.cell 2 _ rfl) (And.intro (hkd.cell 3 _ rfl) (And.intro (hkd.cell 4 _ rfl) (And.intro (hkd.cell 5 _ rfl) (hkd.cell 6 _ rfl))))))
        have k1 := And.intro (hke.cell 0 _ rfl) (And.intro (hke.cell 1 _ rfl) (And.intro (hke.cell 2 _ rfl) (And.intro (hke.cell 3 _ rfl) (And.intro (hke.cell 4 _ rfl) (And.intro (hke.cell 5 _ rfl) (hke.cell 6 _ rfl))))))
        have k3 := And.intro (hkf.cell 0 _ rfl) (And.intro (hkf.cell 1 _ rfl) (And.intro (hkf.cell 2 _ rfl) (And.intro (hkf.cell 3 _ rfl) (And.intro (hkf.cell 4 _ rfl) (And.intro (hkf.cell 5 _ rfl) (hkf.cell 6 _ rfl))))))
        have hXl := hk2.lt
        have HR5 : Hid ((Builtin.append_ #[152, 152] 152 #[.slice oa m oc, .slice (some ⟨W2.heap.size, 0, none⟩) 1 1]).run Tryz.prog (W2.alloc (.cells #[.int .i64 rn, .int .i64 rw', .int .i64 rs, .int .i64 ra, .int .i64 rt, .int .i64 k, .bool run] 158)).drew = .ok (.slice a5 (m + 1) c5) w5) := hr5
        have HO5 := hid hO5
        have HB5 : Hid (Below w1.heap.size wr w5) := hB5
        clear hkd hke hkf hr5 hO5 hB4 hB5 hk5 hb2 hk2
        go_region_held3 (fun w' => w'.cell? ⟨X, 0, none⟩ = some (.int .i64 rn) ∧ w'.cell? ⟨X, 1, none⟩ = some (.int .i64 rw') ∧ w'.cell? ⟨X, 2, none⟩ = some (.int .i64 rs) ∧ w'.cell? ⟨X, 3, none⟩ = some (.int .i64 ra) ∧ w'.cell? ⟨X, 4, none⟩ = some (.int .i64 rt) ∧ w'.cell? ⟨X, 5, none⟩ = some (.int .i64 k) ∧ w'.cell? ⟨X, 6, none⟩ = some (.bool run)) (first | (with_reducible exact k0) | (with_reducible exact k1) | (with_reducible exact k3) | go_keep) (first | (refine step_append_eq rfl (.tmp 26) (.tmp 28) _ rfl _ _ rfl rfl HR5.out ?_))
        go_wp2_with fail
        go_roundw
        case rel => exact ⟨pre ++ [⟨⟨rn, rw', rs, ra, rt⟩, k, run⟩], _, _, _, rt, rfl, rfl, hok.2, by have := hok.1; omega, by rw [List.length_append, ← HI.out.1]; rfl, HST.out, HI.out.2.2.1.trans HB5.out, HO5.out⟩
        case measure => simp [intOf]; have := hok.1; omega
      · have HE : Hid (vall fs l = ([], at', c)) := by
          obtain ⟨fuel, h1, h2⟩ := HI.out.2.1
          obtain ⟨f', rfl⟩ : ∃ f', fuel = f' + 1 := ⟨fuel - 1, by omega⟩
          rw [Hid, h2, glueV_bad (by rw [← HN.out]; exact hlt) (by rw [HR.out]) hc]
        have hc1 : ((c : Int) != 0) = true := by simp; exact hc
        have hc2 : ((c : Int) == 0) = false := by simp; exact hc
        clear hc
        go_wp2_with fail
        refine HLK.out.mono ?_
        rintro e w2 ⟨rfl, hb1⟩
        have HB2 : Hid (Below w.heap.size w w2) := below_step HBW.out hb1 HBW.out.size
        clear hb1
        go_wp2_with fail
        rw [HQ.out, HE.out]
        go_ret3
        exact ⟨_, w.heap.size, rfl, Nat.le_refl _, RowsOwn.nil _ _ _ _ _ _, HB2.out.alloc HB2.out.size _⟩
    · obtain rfl : at' = n := by omega
      have HE : Hid (vall fs l = (pre, 0, 0)) := by
        obtain ⟨fuel, h1, h2⟩ := HI.out.2.1
        rw [Hid, h2, glueV_end (by rw [← HN.out]; omega)]
      go_wp2_with fail
      rw [HQ.out, HE.out]
      go_ret3
      exact ⟨_, w1.heap.size, rfl, HB1.out.size, HI.out.2.2.2, HBW.out⟩

end Go.Proofs.YtbhiddafbpingaaGreat

namespace Go.Proofs.YtbhiddafbpingaaGreat
open Go.RowKit

theorem info_rview : (Tryz.prog.info? 92).map (fun i => (i.zero, i.size, i.bytes)) = some (some (.agg #[.int .i64 0, .int .i64 0, .int .i64 0, .int .i64 0, .int .i64 0, .int .i64 0, .bool false]), 7, 56) := by kernel_rfl

set_option maxRecDepth 100000 in
set_option maxHeartbeats 8000000 in
theorem ref10_All {w : World} {v vf : Value} {l : List UInt8} {fs : List Fld} (h : Bytes w v l) (hl : l.length ≤ 1099511627776) (hf : FieldsAt w vf fs) (nm : ByteArray) :
    Calls Tryz.prog 35 #[.agg #[.string nm, vf], v] w (AllPost w 92 (fun c => .int .i64 (c : Int)) (vall fs l)) := by
  have HLL := hid hl
  obtain ⟨hlen, a, cap, rfl, -, -, -, -⟩ := h.open
  obtain ⟨-, fa, fc, rfl, -⟩ := hf.open
  obtain ⟨n, HN⟩ : ∃ n, Hid (n = l.length) := ⟨_, rfl⟩
  obtain ⟨fn, HFN⟩ : ∃ n, Hid (n = fs.length) := ⟨_, rfl⟩
  rw [← HN.out] at hlen HLL hl h ⊢
  rw [← HFN.out] at hf ⊢
  obtain ⟨w1, HW1⟩ : ∃ w1, Hid (w1 = w.alloc (.cells #[.string nm, .slice fa fn fc] 69)) := ⟨_, rfl⟩
  have hb1 : Below w.heap.size w w1 := by rw [HW1.out]; (repeat (first | with_reducible exact Below.refl _ _ | with_reducible refine Below.setCell ?_ (by first | omega | (simp; omega) | (simp; done)) _ | with_reducible refine Below.alloc ?_ (by first | omega | (simp; omega) | (simp; done)) _ | with_reducible refine below_drewN ?_ _ | with_reducible refine Below.drew ?_))
  have hbx : Blk w1 w.heap.size [.string nm, .slice fa fn fc] 69 := by rw [HW1.out]; exact Blk.new w [.string nm, .slice fa fn fc] _
  have HB1 := hid hb1
  have HBX := hid hbx
  have HV := hid (h.below hb1)
  have HF := hid (hf.below hb1)
  obtain ⟨Q, HQ⟩ : ∃ Q : Ending → World → Prop, Hid (Q = AllPost w 92 (fun c => .int .i64 (c : Int)) (vall fs l)) := ⟨_, rfl⟩
  rw [← HQ.out]
  clear h hf hb1 hbx
  go_enter Tryz.func35, Tryz.ntmps35
  go_wp2_with fail
  rw [← HW1.out]
  go_loopw [7, 8, 9, 10] (fun v7 v8 _ _ wr => ∃ (pre : List VW) (oa : Option Addr) (m oc at' : Nat), v7 = .slice oa m oc ∧ v8 = .int .i64 at' ∧ at' ≤ n ∧ m ≤ at' ∧ Hid (m = pre.length ∧ (∃ fuel, n - at' ≤ fuel ∧ vall fs l = glueV pre (vallGo fs l fuel at')) ∧ Below w1.heap.size w1 wr ∧ RowsOwn viewP 92 7 0 w1.heap.size wr (.slice oa m oc) pre)) (fun _ v8 _ _ _ => n - (intOf v8).toNat)
  case atStart => exact ⟨[], none, 0, 0, 0, rfl, rfl, by omega, by omega, rfl, ⟨l.length, by have := HN.out; omega, by rw [glueV_nil]; rfl⟩, Below.refl _ _, RowsOwn.nil _ _ _ _ _ _⟩
  case round =>
    obtain ⟨pre, oa, m, oc, at', rfl, rfl, hat, hmat, HI⟩ := hrel
    have hbx := HBX.out.below HI.out.2.2.1
    have c0 := hbx.cell 0 _ rfl
    have c1 := hbx.cell 1 _ rfl
    have hsz := hbx.lt
    have HBW : Hid (Below w.heap.size w wr) := HB1.out.trans (HI.out.2.2.1.mono HB1.out.size)
    clear hbx
    by_cases hlt : at' < n
    · obtain ⟨r, k, run, c, HR⟩ : ∃ r k run c, Hid (vlook fs l at' = (r, k, run, c)) := ⟨_, _, _, _, rfl⟩
      have hlk := ref10_Look (HV.out.below HI.out.2.2.1) (HF.out.below HI.out.2.2.1) nm at'
      rw [HR.out] at hlk
      have HLK := hid hlk
      obtain ⟨rn, rw', rs, ra, rt⟩ := r
      simp only [viewV] at HLK
      clear hlk
      by_cases hc : c = 0
      · subst hc
        have hok : at' < rt ∧ rt ≤ n := by
          have := vlook_ok (fs := fs) (l := l) (i := at') (by rw [HR.out])
          rw [HR.out, ← HN.out] at this
          exact ⟨this.2.1, this.2.2.1⟩
        have HST : Hid (∃ fuel, n - rt ≤ fuel ∧ vall fs l = glueV (pre ++ [⟨⟨rn, rw', rs, ra, rt⟩, k, run⟩]) (vallGo fs l fuel rt)) := by
          obtain ⟨fuel, h1, h2⟩ := HI.out.2.1
          obtain ⟨f', rfl⟩ : ∃ f', fuel = f' + 1 := ⟨fuel - 1, by omega⟩
          exact ⟨f', by omega, by rw [h2, glueV_step (by rw [← HN.out]; exact hlt) HR.out]⟩
        go_wp2_with fail
        refine HLK.out.mono ?_
        rintro e w2 ⟨rfl, hb1⟩
        have hb2 := hb1.alloc hb1.size (.cells #[.int .i64 rn, .int .i64 rw', .int .i64 rs, .int .i64 ra, .int .i64 rt, .int .i64 k, .bool run] 92)
        have hk2 := Blk.new w2 [.int .i64 rn, .int .i64 rw', .int .i64 rs, .int .i64 ra, .int .i64 rt, .int .i64 k, .bool run] 92
        have hX : wr.heap.size ≤ w2.heap.size := hb1.size
        generalize hW2 : w2.alloc (.cells #[.int .i64 rn, .int .i64 rw', .int .i64 rs, .int .i64 ra, .int .i64 rt, .int .i64 k, .bool run] 92) = W2 at *
        obtain ⟨X, HX⟩ : ∃ X, Hid (X = w2.heap.size) := ⟨_, rfl⟩
        rw [← HX.out] at hk2 hX
        obtain ⟨a5, c5, w5, hr5, hO5, hB4, hB5, hk5⟩ := RowsOwn.step2 HI.out.2.2.2 hb2 (by decide) (by omega) HI.out.2.2.1.size HI.out.1.symm 82 _ 56 Tryz.underlying82 info_rview rfl #[.int .i64 rn, .int .i64 rw', .int .i64 rs, .int .i64 ra, .int .i64 rt, .int .i64 k, .bool run] rfl (by intro u hu; simp at hu; rcases hu with rfl | rfl | rfl | rfl | rfl | rfl | rfl <;> rfl) ⟨⟨rn, rw', rs, ra, rt⟩, k, run⟩ (fun _ _ => rfl) (by have := HLL.out; omega) (by decide)
        have hkf : Blk w5 X [.int .i64 rn, .int .i64 rw', .int .i64 rs, .int .i64 ra, .int .i64 rt, .int .i64 k, .bool run] 92 := (hk5 X hX hk2.lt).trans hk2
        have HK := hid (And.intro hk2 hkf)
        have HR5 := hid hr5
        have HO5 := hid hO5
        have HB5 : Hid (Below w1.heap.size wr w5) := hB5
        have HWW := hid hW2
        clear hkf hr5 hO5 hB4 hB5 hk5 hb2 hk2 hb1 c0 c1 hsz hW2
        go_upto_region 7 with fail
        rw [HWW.out, ← HX.out]
        have h0 := HK.out.1.cell 0 _ rfl
        have h1 := HK.out.1.cell 1 _ rfl
        have h2 := HK.out.1.cell 2 _ rfl
        have h3 := HK.out.1.cell 3 _ rfl
        have h4 := HK.out.1.cell 4 _ rfl
        have h5 := HK.out.1.cell 5 _ rfl
        have h6 := HK.out.1.cell 6 _ rfl
        have g4 := HK.out.2.cell 4 _ rfl
        go_wp2_with (at_builtin; refine wpList_append_eq rfl _ _ _ rfl _ _ rfl rfl HR5.out ?_)
        go_roundw
        case rel => exact ⟨pre ++ [⟨⟨rn, rw', rs, ra, rt⟩, k, run⟩], _, _, _, rt, rfl, rfl, hok.2, by have := hok.1; omega, by rw [List.length_append, ← HI.out.1]; rfl, HST.out, HI.out.2.2.1.trans HB5.out, HO5.out⟩
        case measure => simp [intOf]; have := hok.1; omega
      · have HE : Hid (vall fs l = ([], at', c)) := by
          obtain ⟨fuel, h1, h2⟩ := HI.out.2.1
          obtain ⟨f', rfl⟩ : ∃ f', fuel = f' + 1 := ⟨fuel - 1, by omega⟩
          rw [Hid, h2, glueV_bad (by rw [← HN.out]; exact hlt) (by rw [HR.out]) hc]
        have hc1 : ((c : Int) != 0) = true := by simp; exact hc
        have hc2 : ((c : Int) == 0) = false := by simp; exact hc
        clear hc
        go_wp2_with fail
        refine HLK.out.mono ?_
        rintro e w2 ⟨rfl, hb1⟩
        have HB2 : Hid (Below w.heap.size w w2) := below_step HBW.out hb1 HBW.out.size
        clear hb1
        go_wp2_with fail
        rw [HQ.out, HE.out]
        go_ret3
        exact ⟨_, w.heap.size, rfl, Nat.le_refl _, RowsOwn.nil _ _ _ _ _ _, HB2.out.alloc HB2.out.size _⟩
    · obtain rfl : at' = n := by omega
      have HE : Hid (vall fs l = (pre, 0, 0)) := by
        obtain ⟨fuel, h1, h2⟩ := HI.out.2.1
        rw [Hid, h2, glueV_end (by rw [← HN.out]; omega)]
      go_wp2_with fail
      rw [HQ.out, HE.out]
      go_ret3
      exact ⟨_, w1.heap.size, rfl, HB1.out.size, HI.out.2.2.2, HBW.out⟩

end Go.Proofs.YtbhiddafbpingaaGreat
