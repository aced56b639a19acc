/- What the document's functions on code points return on any bytes: uput, unext, ufirst. No condition beyond that the argument reads as bytes and the place is no more than their number. What the document's First and Right of texts return on any bytes: ufirst. No condition beyond that the argument reads as bytes. What the checker's value and message return: vval, vfrom. The schema is right; bytes and places within reach. What the checker's message returns, by induction on the depth that is left; valid.check, valid.Check. What valid.Check returns: vcheck. Bytes of at most 2 to the 47. What darningref09.Ends returns as its code: runCount's. Bytes of at most 2 to the 40 (the slice of the ends must fit). What darningref11.First returns: vfrom; darningref11.Check. Bytes of at most 2 to the 40 (darningref09.Ends appends). varint.Put and darningref02.Put: vput. The frames of a stream: plain law; the iterator frames.frames$1, whose rounds are these frames. darninglaw07.Few returns a bool, whatever the schema. Slices of slices of bytes: read (BytesL), and of the call's own (Rows). -/
import Derived.Test.YtaefpjecalnbcaaGreatZ01
import Derived.Test.YtaefpjecalnbcaaGreatZ05
import Derived.Test.YtaefpjecalnbcaaGreatZ06
import Derived.Test.YtaefpjecalnbcaaGreatZ07
import Derived.Test.YtaefpjecalnbcaaGreatZ08
import Derived.Test.YtaefpjecalnbcaaGreatZ10
import Derived.Deep.RegionWith
import Derived.BigRegion
import Derived.StillTailTactics
import Derived.Deep.RegionHeld3
import Derived.IntWalk
import Derived.Laws.AppendOwn
import Derived.OwnWalk
import Derived.Maps.AppendAt
namespace Go.Proofs.YtaefpjecalnbcaaGreat
open Go.RowKit
end Go.Proofs.YtaefpjecalnbcaaGreat
namespace Go.Proofs.YtaefpjecalnbcaaGreat
open Go.RowKit
end Go.Proofs.YtaefpjecalnbcaaGreat
namespace Go.Proofs.YtaefpjecalnbcaaGreat
open Go.RowKit
end Go.Proofs.YtaefpjecalnbcaaGreat
namespace Go.Proofs.YtaefpjecalnbcaaGreat
open Go.RowKit
end Go.Proofs.YtaefpjecalnbcaaGreat
namespace Go.Proofs.YtaefpjecalnbcaaGreat
open Go.RowKit
end Go.Proofs.YtaefpjecalnbcaaGreat
namespace Go.Proofs.YtaefpjecalnbcaaGreat
open Go.RowKit
end Go.Proofs.YtaefpjecalnbcaaGreat
namespace Go.Proofs.YtaefpjecalnbcaaGreat
open Go.RowKit
end Go.Proofs.YtaefpjecalnbcaaGreat
namespace Go.Proofs.YtaefpjecalnbcaaGreat
open Go.RowKit
end Go.Proofs.YtaefpjecalnbcaaGreat
namespace Go.Proofs.YtaefpjecalnbcaaGreat
open Go.RowKit Go.Shelf
attribute [local go_sem] Oper.semAt_some
/-- A frame: its number, its place, where its bytes begin and end, the code -/
structure Ev where
  i : Nat
  at' : Nat
  ff : Nat
  tt : Nat
  c : Nat
/-- what yield is handed -/
def Ev.val (a : Option Addr) (ln cap : Nat) (e : Ev) : Value := .agg #[if e.c = 0 then sliced a (min e.ff (min e.tt ln)) (min e.tt ln) cap 1 else .slice none 0 0, .int .i64 e.at', .int .u8 e.c]
def Ev.enc (a : Option Addr) (ln cap : Nat) (e : Ev) : Array Value := #[.int .i64 e.i, e.val a ln cap]
end Go.Proofs.YtaefpjecalnbcaaGreat
namespace Go.Proofs.YtaefpjecalnbcaaGreat
open Go.RowKit
set_option maxRecDepth 100000 in
set_option maxHeartbeats 4000000 in
theorem law07_Few {w : World} {v : Value} {s : List Mes} (hS : SchemaAt w v s) :
    Calls Tryz.prog 7 #[v] w fun e w' => (∃ b, e = .returned (.bool b)) ∧ Below w.heap.size w w' := by
  obtain ⟨hlen, a, cap, rfl, hat⟩ := hS.open
  obtain ⟨n, HN⟩ : ∃ n, Hid (n = s.length) := ⟨_, rfl⟩
  rw [← HN.out] at hat hlen ⊢
  have HAT := hid hat
  clear hat hS
  go_enter Tryz.func7, Tryz.ntmps7
  go_wp2_with fail
  go_loopw [3, 4, 5] (fun v3 v4 _ wr => ∃ (z : Int) (i : Nat), v3 = .int .i64 z ∧ i ≤ n ∧ v4 = .int .i64 i ∧ Hid (Below w.heap.size w wr)) (fun _ v4 _ _ => n - (intOf v4).toNat)
  case atStart => exact ⟨0, 0, rfl, by omega, rfl, Below.refl _ _⟩
  case round =>
    obtain ⟨z, i, rfl, hi, rfl, HB⟩ := hrel
    by_cases hlt : i < n
    · have hat := HAT.out
      obtain ⟨b, o, fv, ha, hnm, c0, c1, hfs⟩ := hat i hlt
      obtain ⟨fl, fa, fcap, rfl, hft⟩ := hfs.open
      clear hat hfs
      obtain ⟨fn, HFN⟩ : ∃ fn, Hid (fn = (s.getD i .zero).fields.length) := ⟨_, rfl⟩
      obtain ⟨nm, HNM⟩ : ∃ nm, Hid (nm = (s.getD i .zero).name) := ⟨_, rfl⟩
      rw [← HFN.out] at fl c1 hft
      rw [← HNM.out] at hnm c0
      have HFT := hid hft
      clear hft
      have hkr := below_keeps HB.out
      replace c0 := hkr _ _ c0
      replace c1 := hkr _ _ c1
      clear hkr
      have hix := index_run Tryz.underlying23 size_mes ha i hlt (cap := cap)
      have hbl : b < wr.heap.size := World.block_lt_of_cell? wr _ c0
      clear ha
      go_wp2_with fail
      go_quiet (fail)
      go_wp2_with fail
      obtain ⟨wo, HWO⟩ : ∃ wo, Hid (wo = wr.drewN nq) := ⟨_, rfl⟩
      rw [← HWO.out]
      have HBO : Hid (Below w.heap.size w wo) := by rw [HWO.out]; exact below_drewN HB.out _
      replace c1 : wo.cell? ⟨b, o + i * 2 + 1, none⟩ = some (.slice fa fn fcap) := by rw [HWO.out]; exact c1
      clear c0 hbl
      have HC1 := hid c1
      clear c1
      go_loopw [3, 5] (fun v3 v5 wq => ∃ (z : Int) (k : Nat), v3 = .int .i64 z ∧ k ≤ fn ∧ v5 = .int .i64 k ∧ Hid (Below wo.heap.size wo wq)) (fun _ v5 _ => fn - (intOf v5).toNat)
      case atStart => exact ⟨_, 0, rfl, by omega, rfl, Below.refl _ _⟩
      case round =>
        obtain ⟨z2, k, rfl, hk, rfl, HBQ⟩ := hrel
        have c1 := below_keeps HBQ.out _ _ HC1.out
        have hbl : b < wr.heap.size := World.block_lt_of_cell? wr _ c1
        by_cases hlk : k < fn
        · have hft := HFT.out
          obtain ⟨b2, o2, ha2, hok, g0, -⟩ := hft k hlk
          clear hft
          have hkr := below_keeps (HBO.out.trans (HBQ.out.mono HBO.out.size))
          replace g0 := hkr _ _ g0
          clear hkr
          obtain ⟨fx, HFX⟩ : ∃ fx, Hid (fx = (s.getD i .zero).fields.getD k .zero) := ⟨_, rfl⟩
          rw [← HFX.out] at hok g0
          have hsz := hok.name
          have hix2 := index_run Tryz.underlying60 size_fld ha2 k hlk (cap := fcap)
          have hbl2 : b2 < wr.heap.size := World.block_lt_of_cell? wr _ g0
          clear ha2 hok
          go_wp2_with fail
          go_roundw
          case rel => exact ⟨_, k + 1, rfl, hlk, by go_num, HBQ⟩
          case measure => simp [intOf]; omega
        · go_wp2_with fail
          go_roundw
          case rel => exact ⟨_, i + 1, rfl, hlt, by go_num, HBO.out.trans (HBQ.out.mono HBO.out.size)⟩
          case measure => simp [intOf]; omega
    · go_wp2_with fail
      go_ret
      exact ⟨⟨_, rfl⟩, HB.out⟩
end Go.Proofs.YtaefpjecalnbcaaGreat
namespace Go.Proofs.YtaefpjecalnbcaaGreat
open Go.RowKit Go.Shelf
/-- A [][]byte reads as ls. -/
def BytesL (w : World) (v : Value) (ls : List (List UInt8)) : Prop :=
  ∃ vs : List Value, vs.length = ls.length ∧ Seg w v 1 ls.length vs ∧ ∀ j, j < ls.length → Bytes w (vs.getD j undef) (ls.getD j [])
theorem BytesL.keep {w w' : World} {v : Value} {ls : List (List UInt8)} (h : BytesL w v ls) (hk : ∀ p u, w.cell? p = some u → w'.cell? p = some u) : BytesL w' v ls :=
  let ⟨vs, h1, h2, h3⟩ := h
  ⟨vs, h1, h2.keep hk, fun j hj => (h3 j hj).keep hk⟩
/-- What a walk wants. -/
theorem BytesL.open {w : World} {v : Value} {ls : List (List UInt8)} (h : BytesL w v ls) :
    ls.length ≤ 140737488355328 ∧ ∃ a cap, v = .slice a ls.length cap ∧ (a = none → cap = 0) ∧
      ∀ k, k < ls.length → ∃ b o x, a = some ⟨b, o, none⟩ ∧ w.cell? ⟨b, o + k, none⟩ = some x ∧ Bytes w x (ls.getD k []) := by
  obtain ⟨vs, h1, ⟨_, h2, a, cap, hv, h3, h4, h5, h6⟩, hb⟩ := h
  refine ⟨h2, a, cap, hv, h5, fun k hk => ?_⟩
  have hx : vs[k]? = some (vs.getD k undef) := by simp [List.getD, h1, hk]
  obtain ⟨b, o, ha, hc⟩ := h6 k _ hx
  exact ⟨b, o, _, ha, hc, hb k hk⟩
/-- A [][]byte of the call's own, whose elements are the call's own. -/
def Rows (W : World) (base : Nat) (lv : Value) (ls : List (List UInt8)) : Prop :=
  ∃ vs : List Value, W.ownsRow base 99 1 lv ls.length vs ∧ vs.length = ls.length ∧ ∀ j, j < ls.length → Own W base (vs.getD j undef) (ls.getD j [])
theorem Rows.keep {W W' : World} {base : Nat} {lv : Value} {ls : List (List UInt8)} (h : Rows W base lv ls)
    (hk : ∀ b cur e, base ≤ b → W.heap[b]? = some (.cells cur e (0, 0)) → e = 99 ∨ e = 5 → W'.heap[b]? = W.heap[b]?) : Rows W' base lv ls :=
  let ⟨vs, h1, h2, h3⟩ := h
  ⟨vs, row_keep h1 (fun b cur hb he => hk b cur _ hb he (.inl rfl)), h2, fun j hj => row_keep (h3 j hj) (fun b cur hb he => hk b cur _ hb he (.inr rfl))⟩
theorem Rows.later {W W' : World} {base : Nat} {lv : Value} {ls : List (List UInt8)} (h : Rows W base lv ls) (hb : Below W.heap.size W W') : Rows W' base lv ls :=
  h.keep fun b _cur _e _ he _ => hb.block b (Array.getElem?_eq_some_iff.1 he).1
theorem blk_ne {W : World} {b b' : Nat} {cs : List Value} {T T' : TypeId} {cur : Array Value} (h : Blk W b cs T) (h' : W.heap[b']? = some (.cells cur T' (0, 0))) (hne : T ≠ T') : b' ≠ b := by
  rintro rfl
  unfold Blk at h
  rw [h] at h'
  injection h' with h'
  injection h' with _ ht
  exact hne ht
/-- A store into a box of another type. -/
theorem Rows.set {W : World} {base B : Nat} {lv x : Value} {ls : List (List UInt8)} {cs : List Value} {T : TypeId} (h : Rows W base lv ls) (hB : Blk W B cs T) (h1 : T ≠ 99) (h2 : T ≠ 5) (j : Nat) :
    Rows (W.setCell ⟨B, j, none⟩ x) base lv ls :=
  h.keep fun b cur e _ he hee => Below.heap_setCell W _ _ b (by
    show b ≠ B
    rcases hee with rfl | rfl
    · exact blk_ne hB he h1
    · exact blk_ne hB he h2)
theorem Own.mono {W : World} {b b' : Nat} {v : Value} {l : List UInt8} (h : Own W b v l) (hb : b' ≤ b) : Own W b' v l :=
  ⟨h.1, h.2.imp id (fun ⟨g, cap, cur, hv, hg, r⟩ => ⟨g, cap, cur, hv, Nat.le_trans hb hg, r⟩)⟩
theorem Rows.mono {W : World} {b b' : Nat} {v : Value} {ls : List (List UInt8)} (h : Rows W b v ls) (hb : b' ≤ b) : Rows W b' v ls :=
  let ⟨vs, h1, h2, h3⟩ := h
  ⟨vs, ⟨h1.1, h1.2.imp id (fun ⟨g, cap, cur, hv, hg, r⟩ => ⟨g, cap, cur, hv, Nat.le_trans hb hg, r⟩)⟩, h2, fun j hj => (h3 j hj).mono hb⟩
theorem Own.form {w : World} {base : Nat} {v : Value} {l : List UInt8} (h : Own w base v l) : ∃ a c, v = .slice a l.length c := by
  rcases h.2 with ⟨rfl, h0⟩ | ⟨g, cap, cur, rfl, _⟩
  · exact ⟨none, 0, by rw [h0]⟩
  · exact ⟨_, _, rfl⟩
theorem Rows.form {w : World} {base : Nat} {v : Value} {ls : List (List UInt8)} (h : Rows w base v ls) : ∃ a c, v = .slice a ls.length c := by
  obtain ⟨vs, h1, -, -⟩ := h
  rcases h1.2 with ⟨rfl, h0⟩ | ⟨g, cap, cur, rfl, _⟩
  · exact ⟨none, 0, by rw [h0]⟩
  · exact ⟨_, _, rfl⟩
end Go.Proofs.YtaefpjecalnbcaaGreat
