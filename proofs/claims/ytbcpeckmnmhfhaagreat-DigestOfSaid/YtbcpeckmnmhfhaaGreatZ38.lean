/- A block of the call's own in which a list is built: 'out.F = append(out.F, x)'. No condition. A world that differs from another one in one block alone, and in what is new. No condition. Plain laws: digests (fnv, dMsg, dUnk). No condition. digest.sum's bytes, word, text; digest.Sum, darningref27.Sum: the sum of bytes (fnv). At most 2^40 bytes. Plain laws: two meanings alike (sameB), a meaning's depth (depthM); as lists are gone through. No condition. -/
import Derived.Test.YtbcpeckmnmhfhaaGreatZ09
import Derived.Test.YtbcpeckmnmhfhaaGreatZ17
import Derived.Test.YtbcpeckmnmhfhaaGreatZ20
import Derived.Test.YtbcpeckmnmhfhaaGreatZ21
import Derived.Laws.Bits64
namespace Go.Proofs.YtbcpeckmnmhfhaaGreat
open Go.RowKit
/-- the block O, laid behind all that w3 holds below it, holds the cells pre, a list under way, the cells post -/
structure OutB {α : Type} (P : World → List Value → α → Prop) (T : TypeId) (k n0 : Nat) (TO : TypeId) (O : Nat) (pre post : List Value) (w3 w : World) (v : Value) (l : List α) : Prop where
  below : Below O w3 w
  blk : Blk w O (pre ++ v :: post) TO
  rows : RowsOwn P T k n0 (O + 1) w v l
variable {α : Type} {P : World → List Value → α → Prop} {T : TypeId} {k n0 : Nat} {TO : TypeId} {O : Nat} {pre post : List Value} {w3 w w1 : World} {v : Value} {l : List α}
theorem OutB.start (hb : Blk w O (pre ++ .slice none 0 0 :: post) TO) : OutB P T k n0 TO O pre post w w (.slice none 0 0) [] :=
  ⟨Below.refl _ _, hb, RowsOwn.nil _ _ _ _ _ _⟩
theorem OutB.lt (h : OutB P T k n0 TO O pre post w3 w v l) : O < w.heap.size := h.blk.lt
theorem OutB.cell (h : OutB P T k n0 TO O pre post w3 w v l) (j : Nat) (u : Value) (hu : (pre ++ v :: post)[j]? = some u) : w.cell? ⟨O, j, none⟩ = some u := h.blk.cell j u hu
theorem OutB.free (h : OutB P T k n0 TO O pre post w3 w v l) (j : Nat) : w.frozen? ⟨O, j, none⟩ = false := h.blk.free j
theorem OutB.form (h : OutB P T k n0 TO O pre post w3 w v l) : ∃ a c, v = .slice a l.length c := h.rows.form
/-- what else is laid or drawn -/
theorem OutB.later (h : OutB P T k n0 TO O pre post w3 w v l) (hb : Below w.heap.size w w1) : OutB P T k n0 TO O pre post w3 w1 v l :=
  ⟨h.below.trans (hb.mono (Nat.le_of_lt h.lt)), h.blk.below hb, h.rows.below hb⟩
/-- the element's block, the append, the store -/
theorem OutB.step {i : Nat} {oa : Option Addr} {oc : Nat} (h : OutB P T k n0 TO O pre post w3 w (.slice oa i oc) l) (hb : Below w.heap.size w w1) (hk : 0 < k) (hn0 : n0 ≤ O) (hil : l.length = i)
    {G : Program} (t : TypeId) (z : Value) (bytes : Nat) (ht : G.underlying t = some (.slice T)) (hinfo : (G.info? T).map (fun i => (i.zero, i.size, i.bytes)) = some (some z, k, bytes)) (hzs : z.cells.size = k)
    (cells : Array Value) (hr : cells.size = k) (h1 : ∀ u ∈ cells.toList, u.oneCell' = true) (x : α) (hP : Apart n0 w.heap.size w1 fun w' => P w' cells.toList x) (hlen : i ≤ 1099511627776) (hby : bytes ≤ 120) (j : Nat) (hj : j = pre.length) :
    ∃ a' c' w5, (Builtin.append_ #[t, t] t #[.slice oa i oc, .slice (some ⟨w1.heap.size, 0, none⟩) 1 1]).run G (w1.alloc (.cells cells T)) = .ok (.slice a' (i + 1) c') w5 ∧
      Below (O + 1) w (w1.alloc (.cells cells T)) ∧ Below (O + 1) w w5 ∧
      (w5.cell? ⟨O, j, none⟩ = some (.slice oa i oc) ∧ w5.frozen? ⟨O, j, none⟩ = false ∧ O < w5.heap.size ∧ ∀ b, b < (w1.alloc (.cells cells T)).heap.size → (b < O + 1 ∨ w.heap.size ≤ b) → w5.heap[b]? = (w1.alloc (.cells cells T)).heap[b]?) ∧
      OutB P T k n0 TO O pre post w3 (w5.setCell ⟨O, j, none⟩ (.slice a' (i + 1) c')) (.slice a' (i + 1) c') (l ++ [x]) := by
  subst hj
  have hs := hb.size
  have hlt := h.lt
  have hB1 : Below (O + 1) w (w1.alloc (.cells cells T)) := (hb.mono hlt).alloc (by omega) _
  obtain ⟨v', w5, hrun, hR, hg, -⟩ := (h.rows.below hb).append hk (by omega) t z bytes ht hinfo hzs cells hr h1 x w.heap.size (fun b e => (h.rows.own b e).2) hlt hP (by omega) hby (by omega)
  obtain ⟨a', c', rfl⟩ := hR.form
  rw [List.length_append, List.length_singleton, hil] at *
  have hB5 : Below (O + 1) w w5 := hB1.grown hg (by have := hB1.size; omega) fun q e => (h.rows.own q e).1
  have hkp : ∀ b, b < (w1.alloc (.cells cells T)).heap.size → (b < O + 1 ∨ w.heap.size ≤ b) → w5.heap[b]? = (w1.alloc (.cells cells T)).heap[b]? := fun b hb' hc => hg.block b hb' fun e => by
    have h1 := h.rows.own b e.symm
    omega
  have hO5 : Blk w5 O (pre ++ .slice oa i oc :: post) TO := (hB5.block O (by omega)).trans h.blk
  refine ⟨a', c', w5, hrun, hB1, hB5, ⟨hO5.cell _ _ (by simp), hO5.free _, hO5.lt, hkp⟩, (h.below.trans (hB5.mono (by omega))).setCell (Nat.le_refl _) _, ?_, ?_⟩
  · have := hO5.set pre.length (.slice a' (i + 1) c')
    rwa [List.set_append_right _ _ (Nat.le_refl _), Nat.sub_self, List.set_cons_zero] at this
  · refine hR.later (fun b' _ hc => Below.heap_setCell w5 _ _ b' ?_) (by simp)
    show b' ≠ O
    omega
/-- what is behind the walk: a result that is the list alone -/
theorem OutB.at (h : OutB P T k n0 TO O pre post w3 w v l) (hl : l.length ≤ 140737488355328) {w' : World} (hw : ∀ b, b < w.heap.size → (b < n0 ∨ O + 1 ≤ b) → w'.heap[b]? = w.heap[b]?) : RowsAt P k w' v l := h.rows.at hl hw
theorem Blk.of {w w' : World} {b B : Nat} {cs : List Value} {T : TypeId} (h : Blk w b cs T) (hb : Below B w w') (hlt : b < B) : Blk w' b cs T := (hb.block b hlt).trans h
end Go.Proofs.YtbcpeckmnmhfhaaGreat
namespace Go.Proofs.YtbcpeckmnmhfhaaGreat
open Go.RowKit
/-- all that was is as it was, but for the block b -/
structure But (b : Nat) (w w' : World) : Prop where
  os : w'.os = w.os
  tape : w'.tape = w.tape
  output : w'.output = w.output
  size : w.heap.size ≤ w'.heap.size
  block : ∀ c, c < w.heap.size → c ≠ b → w'.heap[c]? = w.heap[c]?
theorem But.refl (b : Nat) (w : World) : But b w w := ⟨rfl, rfl, rfl, Nat.le_refl _, fun _ _ _ => rfl⟩
theorem But.trans {b : Nat} {w w1 w2 : World} (h : But b w w1) (g : But b w1 w2) : But b w w2 :=
  ⟨g.os.trans h.os, g.tape.trans h.tape, g.output.trans h.output, Nat.le_trans h.size g.size, fun c hc hn => (g.block c (Nat.lt_of_lt_of_le hc h.size) hn).trans (h.block c hc hn)⟩
theorem But.of_below {b : Nat} {w w' : World} (h : Below w.heap.size w w') : But b w w' := ⟨h.os, h.tape, h.output, h.size, fun c hc _ => h.block c hc⟩
theorem But.below {b : Nat} {w w1 w2 : World} (h : But b w w1) (g : Below w1.heap.size w1 w2) : But b w w2 := h.trans (But.of_below g)
theorem But.to_below {b n : Nat} {w w' : World} (h : But b w w') (hb : n ≤ b) (hn : n ≤ w.heap.size) : Below n w w' := ⟨h.os, h.tape, h.output, h.size, fun c hc => h.block c (by omega) (by omega)⟩
theorem But.blk {b c : Nat} {w w' : World} {cs : List Value} {T : TypeId} (h : But b w w') (hc : Blk w c cs T) (hn : c ≠ b) : Blk w' c cs T := (h.block c hc.lt hn).trans hc
theorem But.cell {b : Nat} {w w' : World} (h : But b w w') {p : Addr} {u : Value} (hp : p.block ≠ b) (hu : w.cell? p = some u) : w'.cell? p = some u := by
  rw [World.cell?_of_block (h.block p.block (World.block_lt_of_cell? w _ hu) hp)]; exact hu
theorem But.set {w : World} {b : Nat} {cs : List Value} {T : TypeId} (_h : Blk w b cs T) (j : Nat) (v : Value) : But b w (w.setCell ⟨b, j, none⟩ v) :=
  ⟨rfl, rfl, rfl, by show w.heap.size ≤ (w.heap.modify b _).size; rw [Array.size_modify]; exact Nat.le_refl _, fun c _ hn => Below.heap_setCell w ⟨b, j, none⟩ v c hn⟩
/-- a block's cell is one of its cells -/
theorem Blk.mem {w : World} {b : Nat} {cs : List Value} {T : TypeId} (h : Blk w b cs T) {j : Nat} {u : Value} (hu : w.cell? ⟨b, j, none⟩ = some u) : cs[j]? = some u := by
  rw [cell_of_row _ _ _ _ T (0, 0) h] at hu; simpa using hu
end Go.Proofs.YtbcpeckmnmhfhaaGreat
namespace Go.Proofs.YtbcpeckmnmhfhaaGreat
open Go.RowKit
def fnv1 (h : Nat) (c : UInt8) : Nat := ((h ^^^ c.toNat) * 1099511628211) % 18446744073709551616
/-- the sum of bytes, put to a sum -/
def fnv (h : Nat) (l : List UInt8) : Nat := l.foldl fnv1 h
def fnv0 : Nat := 14695981039346656037
theorem fnv1_lt (h : Nat) (c : UInt8) : fnv1 h c < 18446744073709551616 := Nat.mod_lt _ (by decide)
theorem fnv_lt : ∀ (l : List UInt8) (h : Nat), h < 18446744073709551616 → fnv h l < 18446744073709551616
  | [], _, hh => hh
  | c :: r, h, _ => fnv_lt r (fnv1 h c) (fnv1_lt h c)
theorem foldl_step {α β : Type} (f : β → α → β) (h : β) {l : List α} {k : Nat} {c : α} (hc : l[k]? = some c) : (l.take (k + 1)).foldl f h = f ((l.take k).foldl f h) c := by
  rw [List.take_add_one, hc, List.foldl_append, Option.toList, List.foldl_cons, List.foldl_nil]
theorem fnv_append (h : Nat) (l m : List UInt8) : fnv h (l ++ m) = fnv (fnv h l) m := List.foldl_append
theorem fnv_take {h : Nat} {l : List UInt8} {k : Nat} {c : UInt8} (hc : l[k]? = some c) : fnv h (l.take (k + 1)) = fnv1 (fnv h (l.take k)) c := foldl_step fnv1 h hc
theorem fnv_xor {h : Nat} (hh : h < 18446744073709551616) (c : UInt8) : bits .xor .u64 (h : Int) (c.toNat : Int) = ((h ^^^ c.toNat : Nat) : Int) :=
  bits_xor_u64_nat h c.toNat hh (by have := c.toNat_lt; omega)
def dWord (x : Nat) : List UInt8 := little 8 x
def dText (t : List UInt8) : List UInt8 := dWord t.length ++ t
def u64n (n : Int) : Nat := (n % 18446744073709551616).toNat
def dValL {α : Type} (D : α → Nat) (v : Val α) : List UInt8 := v.words.flatMap dWord ++ (v.texts.flatMap dText ++ v.subs.flatMap fun y => dWord (D y))
def dUnk (l : List (List UInt8)) : Nat := fnv fnv0 (l.flatMap dText)
def dMsg : (d : Nat) → M d → Nat
  | 0, x => Empty.elim x
  | d + 1, x => fnv fnv0 (((M.vals x).flatMap fun v => dWord (u64n v.num) ++ dWord (fnv fnv0 (dValL (dMsg d) v))) ++ (M.unk x).flatMap fun t => dWord 0 ++ dText t)
def dVal (d : Nat) (v : Val (M d)) : Nat := fnv fnv0 (dValL (dMsg d) v)
theorem dMsg_lt : ∀ (d : Nat) (x : M d), dMsg d x < 18446744073709551616
  | 0, x => Empty.elim x
  | _ + 1, _ => fnv_lt _ _ (by decide)
theorem dVal_lt (d : Nat) (v : Val (M d)) : dVal d v < 18446744073709551616 := fnv_lt _ _ (by decide)
end Go.Proofs.YtbcpeckmnmhfhaaGreat
namespace Go.Proofs.YtbcpeckmnmhfhaaGreat
open Go.RowKit
/-- what putting bytes to a sum does -/
def SumPost (b h : Nat) (w : World) (l : List UInt8) (e : Ending) (w' : World) : Prop := e = .returned (.tuple #[]) ∧ Blk w' b [.int .u64 (fnv h l)] 68 ∧ But b w w'
set_option maxRecDepth 100000 in
set_option maxHeartbeats 4000000 in
theorem sum_bytes {w : World} {b h : Nat} {v : Value} {l : List UInt8} (hh : h < 18446744073709551616) (hb : Blk w b [.int .u64 h] 68) (hv : Bytes w v l) :
    Calls Tryz.prog 20 #[.pointer (some ⟨b, 0, none⟩), v] w (SumPost b h w l) := by
  obtain ⟨hlen, a, cap, rfl, -, -, -, hat⟩ := hv.open
  obtain ⟨n, HN⟩ : ∃ n, Hid (n = l.length) := ⟨_, rfl⟩
  rw [← HN.out] at hlen ⊢
  have HAT := hid hat
  have HB := hid hb
  have HH := hid hh
  obtain ⟨Q, HQ⟩ : ∃ Q : Ending → World → Prop, Hid (Q = SumPost b h w l) := ⟨_, rfl⟩
  rw [← HQ.out]
  have HRES : Hid (∀ (x : Nat) (wr : World), x = fnv h l → Blk wr b [.int .u64 x] 68 → But b w wr → Q (.returned (.tuple #[])) wr) := by
    rintro x wr rfl h1 h2
    rw [HQ.out]
    exact ⟨rfl, h1, h2⟩
  clear hv hat hb hh HQ
  go_enter Tryz.func20, Tryz.ntmps20
  go_wp2_with fail
  go_loopw [8] (fun v8 wr => ∃ (i x : Nat), v8 = .int .i64 (i : Int) ∧ i ≤ n ∧ Hid (x = fnv h (l.take i) ∧ x < 18446744073709551616) ∧ Hid (Blk wr b [.int .u64 (x : Int)] 68 ∧ But b w wr)) (fun v8 _ => n - (intOf v8).toNat)
  case atStart => exact ⟨0, h, rfl, by omega, ⟨rfl, HH.out⟩, HB.out, But.refl _ _⟩
  case round =>
    obtain ⟨i, x, rfl, hi, HX, HW⟩ := hrel
    by_cases hlt : i < n
    · obtain ⟨g, o, ha, g0⟩ := HAT.out i (by rw [← HN.out]; exact hlt)
      have hgb : g ≠ b := by
        rintro rfl
        have := HB.out.mem g0
        have e0 : o + i = 0 := by
          cases hoi : o + i with
          | zero => rfl
          | succ z => rw [hoi] at this; simp at this
        rw [e0] at this
        simp at this
      replace g0 := HW.out.2.cell (p := ⟨g, o + i, none⟩) hgb g0
      have hix := index_run1 under_bytes size_u8 ha i hlt (cap := cap)
      obtain ⟨c, HC⟩ : ∃ c, Hid (c = l.getD i 0) := ⟨_, rfl⟩
      rw [← HC.out] at g0
      have hci : l[i]? = some c := by rw [HC.out, List.getD, List.getElem?_eq_getElem (by rw [← HN.out]; exact hlt)]; rfl
      have HSTEP : Hid (fnv1 x c = fnv h (l.take (i + 1)) ∧ fnv1 x c < 18446744073709551616) := ⟨by rw [fnv_take hci, ← HX.out.1], fnv1_lt _ _⟩
      have k0 := HW.out.1.cell 0 _ rfl
      have kf := HW.out.1.free 0
      have kl := HW.out.1.lt
      have e3 : IntKind.u64.wrap (c.toNat : Int) = (c.toNat : Int) := by
        have := c.toNat_lt
        rw [IntKind.wrap_u64]; omega
      have e4 := fnv_xor HX.out.2 c
      clear ha hgb hci
      have e5 : IntKind.u64.wrap (((x ^^^ c.toNat : Nat) : Int) * 1099511628211) = ((fnv1 x c : Nat) : Int) := by
        rw [IntKind.wrap_u64]; unfold fnv1; omega
      have hset := HW.out.1.set 0 (.int .u64 ((fnv1 x c : Nat) : Int))
      have HSET := hid (And.intro hset (HW.out.2.trans (But.set HW.out.1 0 (.int .u64 ((fnv1 x c : Nat) : Int)))))
      clear hset
      go_wp2_with fail
      go_roundw
      case rel =>
        exact ⟨i + 1, fnv1 x c, by go_num, hlt, HSTEP.out, HSET.out⟩
      case measure => simp [intOf]; omega
    · obtain rfl : i = n := by omega
      have HE := hid (HRES.out x wr (by rw [HX.out.1, HN.out, List.take_length]) HW.out.1 HW.out.2)
      go_wp2_with fail
      go_end0
      exact HE.out
set_option maxRecDepth 100000 in
set_option maxHeartbeats 4000000 in
theorem sum_word {w : World} {b h x : Nat} (hh : h < 18446744073709551616) (hb : Blk w b [.int .u64 h] 68) :
    Calls Tryz.prog 37 #[.pointer (some ⟨b, 0, none⟩), .int .u64 x] w (SumPost b h w (dWord x)) := by
  have HB := hid hb
  have HH := hid hh
  obtain ⟨Q, HQ⟩ : ∃ Q : Ending → World → Prop, Hid (Q = SumPost b h w (dWord x)) := ⟨_, rfl⟩
  rw [← HQ.out]
  clear hb hh
  go_enter Tryz.func37, Tryz.ntmps37
  go_wp2_with fail
  refine (bits_Little_8 x w).mono ?_
  rintro e w1 ⟨v, rfl, hO, hb1⟩
  have hby := hO.bytes (by rw [little_len]; omega)
  have HC := hid (sum_bytes HH.out (HB.out.below hb1) hby)
  have HB1 := hid hb1
  clear hO hb1 hby
  go_wp2_with fail
  refine HC.out.mono ?_
  rintro e w2 ⟨rfl, h1, h2⟩
  have HE : Hid (Q (.returned (.tuple #[])) w2) := by rw [HQ.out]; exact ⟨rfl, h1, (But.of_below HB1.out).trans h2⟩
  clear h1 h2
  go_wp2_with fail
  go_end0
  exact HE.out
set_option maxRecDepth 100000 in
set_option maxHeartbeats 4000000 in
theorem sum_text {w : World} {b h : Nat} {t : List UInt8} (hh : h < 18446744073709551616) (hb : Blk w b [.int .u64 h] 68) (ht : t.length ≤ 1099511627776) :
    Calls Tryz.prog 39 #[.pointer (some ⟨b, 0, none⟩), strV t] w (SumPost b h w (dText t)) := by
  have HB := hid hb
  have HH := hid hh
  have HT := hid ht
  have hsb : (⟨t.toArray⟩ : ByteArray).size = t.length := by simp [ByteArray.size]
  obtain ⟨Q, HQ⟩ : ∃ Q : Ending → World → Prop, Hid (Q = SumPost b h w (dText t)) := ⟨_, rfl⟩
  rw [← HQ.out]
  unfold strV
  have e1 : IntKind.u64.wrap (t.length : Int) = (t.length : Int) := by rw [IntKind.wrap_u64]; omega
  have HW := hid (sum_word (x := t.length) HH.out HB.out)
  have HCV := hid fun W => str_bytes W t (by have := HT.out; omega)
  obtain ⟨n, HN⟩ : ∃ n, Hid (n = t.length) := ⟨_, rfl⟩
  rw [← HN.out] at HW hsb e1 HCV
  obtain ⟨T, HTT⟩ : ∃ T, Hid (T = (⟨t.toArray⟩ : ByteArray)) := ⟨_, rfl⟩
  rw [← HTT.out] at hsb HCV ⊢
  clear hb hh ht
  go_enter Tryz.func39, Tryz.ntmps39
  go_wp2_with fail
  refine HW.out.mono ?_
  rintro e w1 ⟨rfl, h1, h2⟩
  obtain ⟨g, c, w2, hr, hb2, hby⟩ := HCV.out w1
  have h1' := h1.below hb2
  have HC := hid (sum_bytes (fnv_lt (dWord n) h HH.out) h1' hby)
  have HB2 := hid (h2.below hb2)
  clear h1 h2 hb2 hby h1'
  go_wp2_with fail
  refine HC.out.mono ?_
  rintro e w3 ⟨rfl, h1, h2⟩
  have HE : Hid (Q (.returned (.tuple #[])) w3) := by
    rw [HQ.out]
    refine ⟨rfl, ?_, HB2.out.trans h2⟩
    unfold dText
    rw [fnv_append, ← HN.out]
    exact h1
  clear h1 h2
  go_wp2_with fail
  go_end0
  exact HE.out
set_option maxRecDepth 100000 in
set_option maxHeartbeats 4000000 in
theorem digest_Sum {w : World} {v : Value} {l : List UInt8} (hv : Bytes w v l) :
    Calls Tryz.prog 8 #[v] w fun e w' => e = .returned (.int .u64 (fnv fnv0 l : Nat)) ∧ Below w.heap.size w w' := by
  obtain ⟨R, HR⟩ : ∃ R, Hid (R = fnv fnv0 l) := ⟨_, rfl⟩
  rw [← HR.out]
  have HV := hid hv
  obtain ⟨hlen, a, cap, rfl, -, -, -, -⟩ := hv.open
  obtain ⟨n, HN⟩ : ∃ n, Hid (n = l.length) := ⟨_, rfl⟩
  rw [← HN.out] at HV ⊢
  clear hv hlen
  obtain ⟨W0, HW0⟩ : ∃ W0, Hid (W0 = w.alloc (.cells #[.int .u64 14695981039346656037] 68)) := ⟨_, rfl⟩
  have hb0 : Below w.heap.size w W0 := by rw [HW0.out]; (repeat (first | with_reducible exact Below.refl _ _ | with_reducible refine Below.setCell ?_ (by first | omega | (simp; omega) | (simp; done)) _ | with_reducible refine Below.alloc ?_ (by first | omega | (simp; omega) | (simp; done)) _ | with_reducible refine below_drewN ?_ _ | with_reducible refine Below.drew ?_))
  have hk0 : Blk W0 w.heap.size [.int .u64 (fnv0 : Nat)] 68 := by rw [HW0.out]; exact Blk.new w [.int .u64 14695981039346656037] _
  have HC := hid (sum_bytes (by decide) hk0 (HV.out.below hb0))
  have HB0 := hid hb0
  clear hb0 hk0
  go_enter Tryz.func8, Tryz.ntmps8
  go_wp2_with fail
  rw [← HW0.out]
  obtain ⟨b, HBB⟩ : ∃ b, Hid (b = w.heap.size) := ⟨_, rfl⟩
  rw [← HBB.out] at HC ⊢
  refine HC.out.mono ?_
  rintro e w3 ⟨rfl, h1, h2⟩
  rw [← HR.out] at h1
  have k0 := h1.cell 0 _ rfl
  have kl := h1.lt
  have HE : Hid (Below w.heap.size w w3) := HB0.out.trans (h2.to_below (by rw [HBB.out]; exact Nat.le_refl _) HB0.out.size)
  clear h1 h2
  go_wp2_with fail
  go_ret
  exact ⟨rfl, HE.out⟩
set_option maxRecDepth 100000 in
set_option maxHeartbeats 4000000 in
theorem ref27_Sum {w : World} {v : Value} {l : List UInt8} (hv : Bytes w v l) :
    Calls Tryz.prog 9 #[v] w fun e w' => e = .returned (.int .u64 (fnv fnv0 l : Nat)) ∧ w = w' := by
  obtain ⟨hlen, a, cap, rfl, -, -, -, hat⟩ := hv.open
  obtain ⟨n, HN⟩ : ∃ n, Hid (n = l.length) := ⟨_, rfl⟩
  rw [← HN.out] at hlen ⊢
  have HAT := hid hat
  obtain ⟨R, HR⟩ : ∃ R, Hid (R = fnv fnv0 l) := ⟨_, rfl⟩
  rw [← HR.out]
  clear hv hat
  go_enter Tryz.func9, Tryz.ntmps9
  go_wp2_with fail
  go_loopw [3, 4] (fun v3 v4 wr => ∃ (i x : Nat), v3 = .int .u64 (x : Int) ∧ v4 = .int .i64 (i : Int) ∧ i ≤ n ∧ Hid (x = fnv fnv0 (l.take i) ∧ x < 18446744073709551616) ∧ w = wr) (fun _ v4 _ => n - (intOf v4).toNat)
  case atStart => exact ⟨0, fnv0, rfl, rfl, by omega, ⟨rfl, by decide⟩, rfl⟩
  case round =>
    obtain ⟨i, x, rfl, rfl, hi, HX, rfl⟩ := hrel
    by_cases hlt : i < n
    · obtain ⟨g, o, ha, g0⟩ := HAT.out i (by rw [← HN.out]; exact hlt)
      have hix := index_run1 under_bytes size_u8 ha i hlt (cap := cap)
      obtain ⟨c, HC⟩ : ∃ c, Hid (c = l.getD i 0) := ⟨_, rfl⟩
      rw [← HC.out] at g0
      have hci : l[i]? = some c := by rw [HC.out, List.getD, List.getElem?_eq_getElem (by rw [← HN.out]; exact hlt)]; rfl
      have HSTEP : Hid (fnv1 x c = fnv fnv0 (l.take (i + 1)) ∧ fnv1 x c < 18446744073709551616) := ⟨by rw [fnv_take hci, ← HX.out.1], fnv1_lt _ _⟩
      have e3 : IntKind.u64.wrap (c.toNat : Int) = (c.toNat : Int) := by
        have := c.toNat_lt
        rw [IntKind.wrap_u64]; omega
      have e4 := fnv_xor HX.out.2 c
      obtain ⟨z, HZ⟩ : ∃ z, Hid (z = x ^^^ c.toNat) := ⟨_, rfl⟩
      rw [← HZ.out] at e4
      have HF : Hid (fnv1 x c = z * 1099511628211 % 18446744073709551616) := by rw [Hid, HZ.out]; rfl
      clear ha hci
      go_wp2_with fail
      go_roundw
      case rel => exact ⟨i + 1, fnv1 x c, congrArg (Value.int .u64) (by rw [HF.out]; simp only [IntKind.wrap_u64]; omega), by go_num, hlt, HSTEP.out, by first | rfl | trivial⟩
      case measure => simp [intOf]; omega
    · obtain rfl : i = n := by omega
      have HE : Hid (x = R) := by rw [Hid, HR.out, HX.out.1, HN.out, List.take_length]
      go_wp2_with fail
      go_ret
      exact ⟨by rw [HE.out]; rfl, rfl⟩
end Go.Proofs.YtbcpeckmnmhfhaaGreat
namespace Go.Proofs.YtbcpeckmnmhfhaaGreat
open Go.RowKit
theorem formM : ∀ {d : Nat} {w : World} {v : Value} {x : M d}, MsgAt d w v x → ∃ a1 n1 c1 a2 n2 c2, v = .agg #[.slice a1 n1 c1, .slice a2 n2 c2]
  | 0, _, _, _, h => h.elim
  | d + 1, _, _, _, h => by
    obtain ⟨vv, uv, rfl, hV, hU⟩ := h
    obtain ⟨-, va, vc, rfl, -, -⟩ := hV.open
    obtain ⟨-, ua, uc, rfl, -, -⟩ := hU.open
    exact ⟨_, _, _, _, _, _, rfl⟩
theorem formV {d : Nat} {w : World} {m : Int} {v1 v2 v3 : Value} {x : Val (M d)} (h : ValAt (MsgAt d) w (.agg #[.int .i64 m, v1, v2, v3]) x) : ∃ a1 n1 c1 a2 n2 c2 a3 n3 c3, v1 = .slice a1 n1 c1 ∧ v2 = .slice a2 n2 c2 ∧ v3 = .slice a3 n3 c3 := by
  obtain ⟨wv, tv, sv, e, -, hW, hT, hS⟩ := h
  cases e
  obtain ⟨-, wa, wc, rfl, -, -⟩ := hW.open
  obtain ⟨-, ta, tc, rfl, -, -⟩ := hT.open
  obtain ⟨-, sa, sc, rfl, -, -⟩ := hS.open
  exact ⟨_, _, _, _, _, _, _, _, _, rfl, rfl, rfl⟩
end Go.Proofs.YtbcpeckmnmhfhaaGreat
