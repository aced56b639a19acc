/- strings.SplitSeq at a point: the iterator strings.splitSeq$1, whose rounds are the names of the text. The text is at most 2^47 bytes. Literals: a block of the call's own, read as words, fields, a schema, values. No condition. A []string of the call's own (StrsOwn): one more string appended. At most 2^40 strings. path.named, path.Split: pathOk, sdot. The text is at most 2^46 bytes. path.Right; darningref12: Split, Join, Names, Shared, Same. Texts are at most 2^40 bytes. mask.args, lead: maskCode, wayP. Names are at most 2^47 bytes. -/
import Derived.Test.YtmngpfnjomhhcaaDoorShelf
import Derived.Test.YtmngpfnjomhhcaaDoorZ02
import Derived.Test.YtmngpfnjomhhcaaDoorZ04
import Derived.Test.YtmngpfnjomhhcaaDoorZ05
import Derived.Test.YtmngpfnjomhhcaaDoorZ06
import Derived.Test.YtmngpfnjomhhcaaDoorZ07
import Derived.Test.YtmngpfnjomhhcaaDoorZ08
import Derived.RangeFuncFrom
import Derived.OwnWalkIn
import Derived.TacticsInMore
import Derived.RegionIn
import Derived.LoopNIn
import Derived.LoopIn
import Derived.Shelf.Abstract
import Derived.RangeFuncNested
import Derived.RangeFuncCalls
namespace Go.Proofs.YtmngpfnjomhhcaaDoor
open Go.RowKit Go.Shelf
attribute [local go_sem] Oper.semAt_some
theorem str_take (l : List UInt8) (i : Nat) : (⟨l.toArray⟩ : ByteArray).extract 0 i = ⟨(l.take i).toArray⟩ := by
  apply ByteArray.ext
  simp
theorem str_drop (l : List UInt8) (i : Nat) : (⟨l.toArray⟩ : ByteArray).extract i (⟨l.toArray⟩ : ByteArray).size = ⟨(l.drop i).toArray⟩ := by
  apply ByteArray.ext
  apply Array.ext'
  simp [ByteArray.size]
  exact List.take_of_length_le (by simp)
theorem str_size (l : List UInt8) : (⟨l.toArray⟩ : ByteArray).size = l.length := by simp [ByteArray.size]
theorem slice_str_h (l : List UInt8) (i : Nat) (hi : i ≤ l.length) (W : World) :
    (Instr.slice 9 (strV l) none (some (.int .i64 (i : Int))) none).run Tryd.prog W = .ok (strV (l.take i)) W := by
  unfold strV
  rw [run_slice_string_h (ht := Tryd.underlying9) (h0 := by omega) (h2 := by rw [str_size]; omega), Int.toNat_natCast, str_take]
theorem slice_str_l (l : List UInt8) (i : Nat) (hi : i ≤ l.length) (W : World) :
    (Instr.slice 9 (strV l) (some (.int .i64 (i : Int))) none none).run Tryd.prog W = .ok (strV (l.drop i)) W := by
  unfold strV
  rw [run_slice_string_l (ht := Tryd.underlying9) (h0 := by omega) (h1 := by rw [str_size]; omega), Int.toNat_natCast, str_drop]
def strLen : Option Value → Nat
  | some (.string s) => s.size
  | _ => 0
set_option maxRecDepth 100000 in
set_option maxHeartbeats 4000000 in
theorem split_1 (n : Nat) (hn : 1 ≤ n) (l bp bs bq : Nat) (p : List UInt8) (hp : p.length ≤ 140737488355328)
    (J : List (List UInt8) → List UInt8 → World → Prop) (Jx : List (List UInt8) → World → Prop)
    (h1 : ∀ pre rest W, J pre rest W → W.cell? ⟨bp, 0, none⟩ = some (.string ⟨#[46]⟩) ∧ W.cell? ⟨bs, 0, none⟩ = some (strV rest) ∧ W.frozen? ⟨bs, 0, none⟩ = false ∧ W.cell? ⟨bq, 0, none⟩ = some (.int .i64 0))
    (h3 : ∀ pre rest rest' W, J pre rest W → J pre rest' (W.setCell ⟨bs, 0, none⟩ (strV rest')))
    (hY : ∀ pre rest W x, pre.length < (sdot p).length → J pre rest W → x.length ≤ p.length → YieldAt Fence.wide (n - 1) Tryd.prog l #[strV x] W fun e' W' =>
      (e' = .returned (.bool true) ∧ J (pre ++ [x]) rest W') ∨ (e' = .returned (.bool false) ∧ Jx (pre ++ [x]) W'))
    (W : World) (h0 : J [] p W) :
    CallsIn Fence.wide n Tryd.prog 62 #[.func (.yield l) #[] #[], .pointer (some ⟨bp, 0, none⟩), .pointer (some ⟨bs, 0, none⟩), .pointer (some ⟨bq, 0, none⟩)] W fun e W' => (∃ v, e = .returned v) ∧
      ((∃ rest, J (sdot p) rest W') ∨ ∃ pre, pre <+: sdot p ∧ Jx pre W') := by
  refine callsIn_of_wp Tryd.func62 rfl trivial ?_ rfl
  simp only [Tryd.ntmps62, List.size_toArray, List.length_cons, List.length_nil, Nat.reduceAdd, Nat.reduceSub, Array.replicate_succ, Array.replicate_zero, List.push_toArray, List.append_toArray, List.nil_append, List.cons_append]
  have HP := hid hp
  obtain ⟨c0, -, -, -⟩ := h1 _ _ _ h0
  clear hp
  gi_wp2
  clear c0
  gi_loopw [] (fun wr => ∃ pre rest, J pre rest wr ∧ Hid (sdot p = pre ++ sdot rest ∧ rest.length ≤ p.length)) (fun wr => strLen (wr.cell? ⟨bs, 0, none⟩))
  case atStart => exact ⟨[], p, h0, rfl, Nat.le_refl _⟩
  case round =>
    obtain ⟨pre, rest, hJ, HR⟩ := hrel
    obtain ⟨cp, cs, fs, cq⟩ := h1 _ _ _ hJ
    have hrl := HR.out.2
    have hpl : pre.length < (sdot p).length := by
      obtain ⟨h, t, e⟩ := sdot_cons rest
      rw [HR.out.1, e, List.length_append]
      simp
    rcases (by omega : Lib.indexByte rest 46 < 0 ∨ 0 ≤ Lib.indexByte rest 46) with hneg | hpos
    · have hi : Lib.indexByte rest 46 = -1 := by have := Lib.indexByte_ge rest 46; omega
      have HI := hid hi
      have HE := hid (sdot_index_none hi)
      obtain ⟨fn, tmps, assign, body, hy, hRd⟩ := hY pre rest wr rest hpl hJ hrl
      have hix := Tryd.strings_Index_one ⟨rest.toArray⟩ 46 wr
      rw [show (⟨rest.toArray⟩ : ByteArray).data.toList = rest by simp, HI.out] at hix
      have HX := hid hix
      clear hix hi hneg
      unfold strV at cs hy
      gi_wp2_with (refine ⟨trivial, ?_⟩; gi_at_call 64; refine (callsIn_wide.2 HX.out).mono ?_; rintro e w' ⟨rfl, rfl⟩)
      refine hRd.mono ?_
      rintro e' W' (⟨rfl, hJ'⟩ | ⟨rfl, hX⟩)
      · gi_wp2
        go_end0
        exact ⟨⟨_, rfl⟩, .inl ⟨rest, by rw [HR.out.1, HE.out]; exact hJ'⟩⟩
      · have HXX := hid hX
        clear hX
        gi_wp2
        go_end0
        exact ⟨⟨_, rfl⟩, .inr ⟨_, by rw [HR.out.1, HE.out]; exact List.prefix_refl _, HXX.out⟩⟩
    · obtain ⟨i, hi⟩ : ∃ i : Nat, Lib.indexByte rest 46 = i := ⟨(Lib.indexByte rest 46).toNat, by omega⟩
      have HI := hid hi
      obtain ⟨hil, he⟩ := sdot_index_some hi
      have HE := hid he
      obtain ⟨fn, tmps, assign, body, hy, hRd⟩ := hY pre rest wr (rest.take i) hpl hJ (by rw [List.length_take]; omega)
      have hix := Tryd.strings_Index_one ⟨rest.toArray⟩ 46 wr
      rw [show (⟨rest.toArray⟩ : ByteArray).data.toList = rest by simp, HI.out] at hix
      have HX := hid hix
      have hsh := slice_str_h rest i (by omega)
      have hsl := slice_str_l rest (i + 1) (by omega)
      rw [show ((i + 1 : Nat) : Int) = (i : Int) + 1 by omega] at hsl
      have hib : i ≤ 140737488355328 := by have := HP.out; omega
      have HIL := hid hil
      have HCS := hid cs
      clear hix hi hpos he hil hrl hpl
      unfold strV at cs hy hsh hsl
      gi_wp2_with (refine ⟨trivial, ?_⟩; gi_at_call 64; refine (callsIn_wide.2 HX.out).mono ?_; rintro e w' ⟨rfl, rfl⟩)
      refine hRd.mono ?_
      rintro e' W' (⟨rfl, hJ'⟩ | ⟨rfl, hX⟩)
      · obtain ⟨cp', cs', fs', cq'⟩ := h1 _ _ _ hJ'
        have hJ2 := h3 _ _ (rest.drop (i + 1)) _ hJ'
        have HJ2 := hid hJ2
        have HCS' := hid cs'
        unfold strV at cs'
        clear cp cs fs cq hy hRd hJ2
        gi_wp2
        go_roundw
        case rel =>
          refine ⟨_, _, HJ2.out, ?_, ?_⟩
          · rw [HR.out.1, HE.out]; simp
          · have := HR.out.2
            rw [List.length_drop]; omega
        case measure =>
          rw [World.cell?_setCell_same' _ _ _ (by rw [HCS'.out]; rfl), HCS.out]
          have := HIL.out
          simp only [strLen, strV, str_size, List.length_drop]
          omega
      · have HXX := hid hX
        clear hX
        gi_wp2
        refine bodyPost_ret (results_none rfl _ _ _) rfl ?_
        exact ⟨⟨_, rfl⟩, .inr ⟨_, by rw [HR.out.1, HE.out]; exact ⟨sdot (rest.drop (i + 1)), by simp⟩, HXX.out⟩⟩
/-- the iterator: the boxes of the text, of the point and of 0 -/
def dotFn (B : Nat) : Value := .func (.func 62) #[] #[.pointer (some ⟨B + 1, 0, none⟩), .pointer (some ⟨B, 0, none⟩), .pointer (some ⟨B + 1 + 1, 0, none⟩)]
set_option maxRecDepth 100000 in
set_option maxHeartbeats 4000000 in
theorem strings_splitSeq {w : World} (n : Nat) (s : ByteArray) :
    CallsIn Fence.wide n Tryd.prog 54 #[.string s, .string ⟨#[46]⟩, .int .i64 0] w fun e w' => e = .returned (dotFn w.heap.size) ∧
      w' = ((w.alloc (.cells #[.string s] 9)).alloc (.cells #[.string ⟨#[46]⟩] 9)).alloc (.cells #[.int .i64 0] 3) := by
  refine callsIn_of_wp Tryd.func54 rfl trivial ?_ rfl
  simp only [Tryd.ntmps54, List.size_toArray, List.length_cons, List.length_nil, Nat.reduceAdd, Nat.reduceSub, Array.replicate_succ, Array.replicate_zero, List.push_toArray, List.append_toArray, List.nil_append, List.cons_append]
  gi_wp2
  go_ret
  exact ⟨rfl, rfl⟩
set_option maxRecDepth 100000 in
set_option maxHeartbeats 4000000 in
theorem strings_SplitSeq {w : World} (n : Nat) (hn : 1 ≤ n) (s : ByteArray) :
    CallsIn Fence.wide n Tryd.prog 44 #[.string s, .string ⟨#[46]⟩] w fun e w' => e = .returned (dotFn w.heap.size) ∧
      w' = ((w.alloc (.cells #[.string s] 9)).alloc (.cells #[.string ⟨#[46]⟩] 9)).alloc (.cells #[.int .i64 0] 3) := by
  refine callsIn_of_wp Tryd.func44 rfl trivial ?_ rfl
  simp only [Tryd.ntmps44, List.size_toArray, List.length_cons, List.length_nil, Nat.reduceAdd, Nat.reduceSub, Array.replicate_succ, Array.replicate_zero, List.push_toArray, List.append_toArray, List.nil_append, List.cons_append]
  gi_wp2_with (refine ⟨trivial, ?_⟩; gi_at_call 54; refine (strings_splitSeq _ s).mono ?_; rintro e w' ⟨rfl, rfl⟩)
  go_ret
  exact ⟨rfl, rfl⟩
end Go.Proofs.YtmngpfnjomhhcaaDoor
namespace Go.Proofs.YtmngpfnjomhhcaaDoor
open Go.RowKit
/-! Literals: a block as a slice. -/
theorem fields_blk {w : World} {g : Nat} {fs : List Fld} {T : TypeId} (h : Blk w g (fs.flatMap Fld.cells) T) (n : Nat) (hl : n = fs.length) (hn : n ≤ 140737488355328) (hok : ∀ f ∈ fs, f.Ok) : FieldsAt w (.slice (some ⟨g, 0, none⟩) n n) fs := by
  subst hl
  refine ⟨seg_blk h 6 _ ?_ hn, hok⟩
  clear h hok hn
  induction fs with
  | nil => rfl
  | cons f r ih => rw [List.flatMap_cons, List.length_append, ih, List.length_cons, Nat.succ_mul]; show 6 + _ = _; omega
theorem schema_one {w : World} {g : Nat} {name : ByteArray} {fs : List Fld} {fv : Value} {T : TypeId} (h : Blk w g [.string name, fv] T) (hn : name.size ≤ 140737488355328) (hf : FieldsAt w fv fs) : SchemaAt w (.slice (some ⟨g, 0, none⟩) 1 1) [⟨name, fs⟩] := by
  refine ⟨[fv], rfl, seg_blk h 2 1 rfl (by omega), by simpa using hn, fun i hi => ?_⟩
  have : i = 0 := by simp at hi; omega
  subst this
  exact hf
end Go.Proofs.YtmngpfnjomhhcaaDoor
namespace Go.Proofs.YtmngpfnjomhhcaaDoor
open Go.RowKit
/-- A []string of the call's own. -/
def StrsOwn (w : World) (base : Nat) (v : Value) (l : List (List UInt8)) : Prop := w.ownsRow base 9 1 v l.length (l.map strV)
theorem info_string : (Tryd.prog.info? 9).map (fun i => (i.zero, i.size, i.bytes)) = some (some (.string ⟨#[]⟩), 1, 16) := by kernel_rfl
theorem under_strl : Tryd.prog.underlying 43 = some (.slice 9) := Tryd.underlying43
theorem StrsOwn.form {w : World} {base : Nat} {v : Value} {l : List (List UInt8)} (h : StrsOwn w base v l) : ∃ a c, v = .slice a l.length c := by
  rcases h.2 with ⟨h1, h2⟩ | ⟨g, cap, cur, hv, -⟩
  · exact ⟨none, 0, by rw [h1, h2]⟩
  · exact ⟨_, _, hv⟩
theorem StrsOwn.strs {w : World} {base : Nat} {v : Value} {l : List (List UInt8)} (h : StrsOwn w base v l) (hn : l.length ≤ 140737488355328) (hl : ∀ t ∈ l, t.length ≤ 140737488355328) : StrsAt w v l :=
  ⟨row_seg h hn, hl⟩
/-- one more string, laid in a block of its own ahead of the append -/
theorem StrsOwn.one {W : World} {base : Nat} {v : Value} {l : List (List UInt8)} (h : StrsOwn W base v l) (t : List UInt8) (hn : l.length + 1 ≤ 1099511627777) (hB : base ≤ W.heap.size) :
    ∃ v' w', (Builtin.append_ #[43, 43] 43 #[v, .slice (some ⟨W.heap.size, 0, none⟩) 1 1]).run Tryd.prog (W.alloc (.cells #[strV t] 9)) = .ok v' w' ∧ StrsOwn w' base v' (l ++ [t]) ∧ W.grownBy w' v.ownBlock := by
  have hA : Below W.heap.size W (W.alloc (.cells #[strV t] 9)) := (Below.refl _ _).alloc (Nat.le_refl _) _
  have hx : Seg (W.alloc (.cells #[strV t] 9)) (.slice (some ⟨W.heap.size, 0, none⟩) 1 1) 1 1 [strV t] := seg_blk (Blk.new W [strV t] _) 1 1 rfl (by omega)
  have h' : (W.alloc (.cells #[strV t] 9)).ownsRow base 9 1 v l.length (l.map strV) := row_keep h fun b _ _ he => hA.block b (Array.getElem?_eq_some_iff.1 he).1
  obtain ⟨v', w', h1, h2, h3, -⟩ := seg_append (P := Tryd.prog) _ base 43 43 9 (.string ⟨#[]⟩) 1 16 under_strl info_string rfl (by decide) v _ l.length 1 _ _ h' hx (by intro u hu; simp at hu; subst hu; rfl) (by omega) (by omega) (by simp; omega)
  refine ⟨v', w', h1, ?_, ?_⟩
  · unfold StrsOwn
    rw [List.length_append, List.map_append]
    exact h2
  · exact ⟨h3.os, h3.tape, h3.output, Nat.le_trans (by simp) h3.size, fun k hk hr => (h3.block k (by simp; omega) hr).trans (Below.heap_alloc W _ k hk)⟩
end Go.Proofs.YtmngpfnjomhhcaaDoor
namespace Go.Proofs.YtmngpfnjomhhcaaDoor
open Go.RowKit Go.Shelf
attribute [local go_sem] Oper.semAt_some
theorem sright_one (t : ByteArray) : sright [⟨t, []⟩] = nameOk t := by
  unfold sright scheck
  rw [if_neg (by simp)]
  cases h : nameOk t with
  | false => rw [scheckGo, if_pos h]; decide
  | true =>
    rw [scheckGo, if_neg (by rw [h]; decide), if_neg (by simp [mesMet]), if_neg (by simp)]
    simp [fieldsFault, scheckGo]
set_option maxRecDepth 100000 in
set_option maxHeartbeats 4000000 in
theorem path_named (t : List UInt8) (ht : t.length ≤ 140737488355328) (w : World) :
    Calls Tryd.prog 45 #[strV t] w fun e w' => e = .returned (.bool (nameOk ⟨t.toArray⟩)) ∧ Below w.heap.size w w' := by
  have H2 : Hid (∀ W, W = (w.alloc (.cells #[.string ⟨t.toArray⟩, .slice none 0 0] 37)) → SchemaAt W (.slice (some ⟨w.heap.size, 0, none⟩) 1 1) [⟨⟨t.toArray⟩, []⟩] ∧ Below w.heap.size w W) := by
    rintro W rfl
    refine ⟨schema_one (Blk.new w [.string ⟨t.toArray⟩, .slice none 0 0] _) (by rw [str_size]; exact ht) ?_, (Below.refl _ _).alloc (Nat.le_refl _) _⟩
    exact ⟨⟨by simp, by simp, _, _, rfl, Nat.le_refl _, by omega, fun _ => rfl, fun j u hu => by simp at hu⟩, by simp⟩
  unfold strV
  clear ht
  go_enter Tryd.func45, Tryd.ntmps45
  go_wp2_with fail
  obtain ⟨hS, hb⟩ := H2.out _ rfl
  have HB := hid hb
  refine (schema_Right hS).mono ?_
  rintro e w1 ⟨rfl, hb1⟩
  have HB2 := hid (HB.out.trans (hb1.mono HB.out.size))
  rw [sright_one]
  clear hS hb hb1 H2 HB
  go_wp2_with fail
  go_ret
  exact ⟨rfl, HB2.out⟩
theorem StrsOwn.later {w w' : World} {base : Nat} {v : Value} {l : List (List UInt8)} (h : StrsOwn w base v l) (hb : Below w.heap.size w w') : StrsOwn w' base v l :=
  row_keep h fun b _ _ he => hb.block b (Array.getElem?_eq_some_iff.1 he).1
theorem StrsOwn.mono {W : World} {b b' : Nat} {v : Value} {l : List (List UInt8)} (h : StrsOwn W b v l) (hb : b' ≤ b) : StrsOwn W b' v l := by
  refine ⟨h.1, ?_⟩
  rcases h.2 with h2 | ⟨g, cap, cur, hv, hg, h3⟩
  · exact .inl h2
  · exact .inr ⟨g, cap, cur, hv, by omega, h3⟩
def namesOk (l : List (List UInt8)) : Bool := l.all fun t => nameOk ⟨t.toArray⟩
def pathOk (p : List UInt8) : Bool := decide ((sdot p).length ≤ 65) && namesOk (sdot p)
theorem rf_named' {F : Fence} {n : Nat} {P : Program} {g : Operand} {ps : Array Tmp} {assign body : Code} {Q : Exit → Act → World → Prop} {a : Act} {w : World}
    (h : ∀ ac bd, Hid (ac = assign) → Hid (bd = body) → (Code.rangeFunc g ps ac bd).wpIn F n P Q a w) : (Code.rangeFunc g ps assign body).wpIn F n P Q a w :=
  h _ _ rfl rfl
/-- The boxes of a split under way: results, the list, the text, the point, 0 (from block H on), the block of deferred calls, the loop's record. -/
structure SpA (w : World) (rec : Loop) (rv : Value) (code : Nat) (lv : Value) (ls : List (List UInt8)) (rest : List UInt8) (W : World) : Prop where
  r0 : Blk W w.heap.size [rv] 43
  r1 : Blk W (w.heap.size + 1) [.int .u8 code] 40
  lb : Blk W (w.heap.size + 1 + 1) [lv] 43
  sb : Blk W (w.heap.size + 1 + 1 + 1) [strV rest] 9
  pb : Blk W (w.heap.size + 1 + 1 + 1 + 1) [.string ⟨#[46]⟩] 9
  qb : Blk W (w.heap.size + 1 + 1 + 1 + 1 + 1) [.int .i64 0] 3
  D : W.heap[w.heap.size + 1 + 1 + 1 + 1 + 1 + 1]? = some (.deferred (some []))
  L : W.heap[w.heap.size + 1 + 1 + 1 + 1 + 1 + 1 + 1]? = some (.loop rec)
  own : StrsOwn W (w.heap.size + 1 + 1 + 1 + 1 + 1 + 1 + 1 + 1) lv ls
  B : Below w.heap.size w W
theorem get_lt {W : World} {b : Nat} {o : Obj} (h : W.heap[b]? = some o) : b < W.heap.size := (Array.getElem?_eq_some_iff.1 h).1
theorem SpA.below {w : World} {rec : Loop} {rv : Value} {code : Nat} {lv : Value} {ls : List (List UInt8)} {rest : List UInt8} {W W' : World} (h : SpA w rec rv code lv ls rest W) (hb : Below W.heap.size W W') : SpA w rec rv code lv ls rest W' :=
  ⟨h.r0.below hb, h.r1.below hb, h.lb.below hb, h.sb.below hb, h.pb.below hb, h.qb.below hb, (hb.block _ (get_lt h.D)).trans h.D, (hb.block _ (get_lt h.L)).trans h.L, h.own.later hb, h.B.trans (hb.mono h.B.size)⟩
theorem SpA.put {w : World} {rec : Loop} {rv : Value} {code : Nat} {lv : Value} {ls : List (List UInt8)} {rest : List UInt8} {W : World} (h : SpA w rec rv code lv ls rest W) (rec' : Loop) :
    SpA w rec' rv code lv ls rest (W.putObj (w.heap.size + 1 + 1 + 1 + 1 + 1 + 1 + 1) (.loop rec')) :=
  ⟨h.r0.put _ (by omega), h.r1.put _ (by omega), h.lb.put _ (by omega), h.sb.put _ (by omega), h.pb.put _ (by omega), h.qb.put _ (by omega), (World.putObj_heap_other (by omega)).trans h.D,
    World.putObj_heap_same (get_lt h.L), row_keep h.own (fun b _ hb _ => World.putObj_heap_other (by omega)), belowK_b (Nat.le_refl _) W _ _ _ (by omega) h.L rfl rfl |> fun hb => h.B.trans hb⟩
/-- another text, another list, both results: a store into one of the boxes -/
theorem SpA.store {w : World} {rec : Loop} {rv : Value} {code : Nat} {lv : Value} {ls : List (List UInt8)} {rest : List UInt8} {W W' : World} (h : SpA w rec rv code lv ls rest W) {r : Nat} (hr : w.heap.size ≤ r) (hr2 : r < w.heap.size + 1 + 1 + 1 + 1 + 1 + 1) (hg : W.grownBy W' (some r))
    {rv' : Value} {code' : Nat} {lv' : Value} {rest' : List UInt8} (h0 : Blk W' w.heap.size [rv'] 43) (h1 : Blk W' (w.heap.size + 1) [.int .u8 code'] 40) (h2 : Blk W' (w.heap.size + 1 + 1) [lv'] 43) (h3 : Blk W' (w.heap.size + 1 + 1 + 1) [strV rest'] 9)
    (h4 : Blk W' (w.heap.size + 1 + 1 + 1 + 1) [.string ⟨#[46]⟩] 9) (h5 : Blk W' (w.heap.size + 1 + 1 + 1 + 1 + 1) [.int .i64 0] 3) {ls' : List (List UInt8)} (ho : StrsOwn W' (w.heap.size + 1 + 1 + 1 + 1 + 1 + 1 + 1 + 1) lv' ls') : SpA w rec rv' code' lv' ls' rest' W' :=
  ⟨h0, h1, h2, h3, h4, h5, (hg.block _ (get_lt h.D) (fun e => by cases e; omega)).trans h.D, (hg.block _ (get_lt h.L) (fun e => by cases e; omega)).trans h.L, ho, h.B.grown hg h.B.size (fun q e => by cases e; exact hr)⟩
theorem set_grown (W : World) (a : Addr) (v : Value) : W.grownBy (W.setCell a v) (some a.block) :=
  ⟨rfl, rfl, rfl, by simp, fun k _ hr => Below.heap_setCell W _ _ k (fun e => hr (by rw [e]))⟩
theorem SpA.setS {w : World} {rec : Loop} {rv : Value} {code : Nat} {lv : Value} {ls : List (List UInt8)} {rest : List UInt8} {W : World} (h : SpA w rec rv code lv ls rest W) (rest' : List UInt8) : SpA w rec rv code lv ls rest' (W.setCell ⟨w.heap.size + 1 + 1 + 1, 0, none⟩ (strV rest')) :=
  h.store (r := w.heap.size + 1 + 1 + 1) (by omega) (by omega) (set_grown W _ _) (h.r0.set_other _ _ (by first | (simp; done) | (simp; omega))) (h.r1.set_other _ _ (by first | (simp; done) | (simp; omega))) (h.lb.set_other _ _ (by first | (simp; done) | (simp; omega))) (by simpa using h.sb.set 0 (strV rest')) (h.pb.set_other _ _ (by first | (simp; done) | (simp; omega))) (h.qb.set_other _ _ (by first | (simp; done) | (simp; omega)))
    (row_keep h.own fun b _ hb _ => Below.heap_setCell W _ _ b (by simp; omega))
theorem SpA.set0 {w : World} {rec : Loop} {rv : Value} {code : Nat} {lv : Value} {ls : List (List UInt8)} {rest : List UInt8} {W : World} (h : SpA w rec rv code lv ls rest W) (x : Value) : SpA w rec x code lv ls rest (W.setCell ⟨w.heap.size, 0, none⟩ x) :=
  h.store (r := w.heap.size) (by omega) (by omega) (set_grown W _ _) (by simpa using h.r0.set 0 x) (h.r1.set_other _ _ (by first | (simp; done) | (simp; omega))) (h.lb.set_other _ _ (by first | (simp; done) | (simp; omega))) (h.sb.set_other _ _ (by first | (simp; done) | (simp; omega))) (h.pb.set_other _ _ (by first | (simp; done) | (simp; omega))) (h.qb.set_other _ _ (by first | (simp; done) | (simp; omega)))
    (row_keep h.own fun b _ hb _ => Below.heap_setCell W _ _ b (by simp; omega))
theorem SpA.set1 {w : World} {rec : Loop} {rv : Value} {code : Nat} {lv : Value} {ls : List (List UInt8)} {rest : List UInt8} {W : World} (h : SpA w rec rv code lv ls rest W) (c : Nat) : SpA w rec rv c lv ls rest (W.setCell ⟨w.heap.size + 1, 0, none⟩ (.int .u8 c)) :=
  h.store (r := w.heap.size + 1) (by omega) (by omega) (set_grown W _ _) (h.r0.set_other _ _ (by first | (simp; done) | (simp; omega))) (by simpa using h.r1.set 0 (.int .u8 c)) (h.lb.set_other _ _ (by first | (simp; done) | (simp; omega))) (h.sb.set_other _ _ (by first | (simp; done) | (simp; omega))) (h.pb.set_other _ _ (by first | (simp; done) | (simp; omega))) (h.qb.set_other _ _ (by first | (simp; done) | (simp; omega)))
    (row_keep h.own fun b _ hb _ => Below.heap_setCell W _ _ b (by simp; omega))
theorem SpA.push {w : World} {rec : Loop} {rv : Value} {code : Nat} {lv : Value} {ls : List (List UInt8)} {rest : List UInt8} {W w' : World} (h : SpA w rec rv code lv ls rest W) (hg : W.grownBy w' lv.ownBlock) {lv' : Value} {ls' : List (List UInt8)} (ho : StrsOwn w' (w.heap.size + 1 + 1 + 1 + 1 + 1 + 1 + 1 + 1) lv' ls') :
    SpA w rec rv code lv' ls' rest (w'.setCell ⟨w.heap.size + 1 + 1, 0, none⟩ lv') ∧ Blk w' (w.heap.size + 1 + 1) [lv] 43 := by
  have hk : ∀ b o, W.heap[b]? = some o → b < w.heap.size + 1 + 1 + 1 + 1 + 1 + 1 + 1 + 1 → w'.heap[b]? = some o := fun b o hb hlt => by
    refine (hg.block b (get_lt hb) fun e => ?_).trans hb
    have := (World.ownsRow.lt h.own b e.symm).1
    omega
  have b0 : Blk w' _ _ _ := hk _ _ h.r0 (by omega)
  have b1 : Blk w' _ _ _ := hk _ _ h.r1 (by omega)
  have b2 : Blk w' _ _ _ := hk _ _ h.lb (by omega)
  have b3 : Blk w' _ _ _ := hk _ _ h.sb (by omega)
  have b4 : Blk w' _ _ _ := hk _ _ h.pb (by omega)
  have b5 : Blk w' _ _ _ := hk _ _ h.qb (by omega)
  have hB : Below w.heap.size w w' := h.B.grown hg h.B.size (fun q e => by have := (World.ownsRow.lt h.own q e).1; omega)
  refine ⟨⟨b0.set_other _ _ (by first | (simp; done) | (simp; omega)), b1.set_other _ _ (by first | (simp; done) | (simp; omega)), by simpa using b2.set 0 lv', b3.set_other _ _ (by first | (simp; done) | (simp; omega)), b4.set_other _ _ (by first | (simp; done) | (simp; omega)), b5.set_other _ _ (by first | (simp; done) | (simp; omega)),
    (Below.heap_setCell w' _ _ _ (by first | (simp; done) | (simp; omega))).trans (hk _ _ h.D (by omega)), (Below.heap_setCell w' _ _ _ (by first | (simp; done) | (simp; omega))).trans (hk _ _ h.L (by omega)), row_keep ho fun b _ hb _ => Below.heap_setCell w' _ _ b (by simp; omega), hB.setCell (by simp; omega) _⟩, b2⟩
def ListPost (w : World) (c : Nat) (l : List (List UInt8)) (e : Ending) (w' : World) : Prop := ∃ v', e = .returned (.tuple #[v', .int .u8 (c : Int)]) ∧ StrsOwn w' w.heap.size v' l ∧ Below w.heap.size w w'
def SplitPost (w : World) (p : List UInt8) (e : Ending) (w' : World) : Prop := ListPost w (if pathOk p = true then 0 else 12) (if pathOk p = true then sdot p else []) e w'
theorem pathOk_not {p : List UInt8} {pre : List (List UInt8)} {x : List UInt8} (h : pre ++ [x] <+: sdot p) (hb : pre.length = 65 ∨ nameOk ⟨x.toArray⟩ = false) : pathOk p = false := by
  obtain ⟨r, e⟩ := h
  unfold pathOk namesOk
  rw [← e]
  rcases hb with hb | hb
  · have : ¬ (pre ++ [x] ++ r).length ≤ 65 := by simp; omega
    rw [decide_eq_false this, Bool.false_and]
  · simp [hb]
def spRec (fn : FuncId) (H : Nat) (p : List UInt8) (ac bd : Code) (st : LoopState) (pend : Option Code) : Loop :=
  { state := st, pending := pend, fn, tmps := #[strV p, undef, .pointer (some ⟨H, 0, none⟩), .pointer (some ⟨H + 1, 0, none⟩), .pointer (some ⟨H + 1 + 1, 0, none⟩), undef, strV p, dotFn (H + 1 + 1 + 1), undef, undef, undef, undef, undef, undef, undef, undef, undef, undef, undef, undef, undef, undef], params := #[8], assign := ac, body := bd, defers := H + 1 + 1 + 1 + 1 + 1 + 1 }
set_option maxRecDepth 100000 in
set_option maxHeartbeats 4000000 in
theorem path_Split {w : World} (p : List UInt8) (hp : p.length ≤ 1099511627776) :
    Calls Tryd.prog 30 #[strV p] w (SplitPost w p) := by
  refine (callsIn_wide (n := 4)).1 ?_
  refine callsIn_of_wp_marks Tryd.func30 rfl trivial ?_ rfl
  simp only [Tryd.ntmps30, List.size_toArray, List.length_cons, List.length_nil, Nat.reduceAdd, Nat.reduceSub, Array.replicate_succ, Array.replicate_zero, List.push_toArray, List.append_toArray, List.nil_append, List.cons_append]
  have hn1 : 1 ≤ 4 := by omega
  have hn2 : 1 ≤ 4 - 1 := by omega
  have HVP : Hid (strV p = .string ⟨p.toArray⟩) := rfl
  rw [HVP.out]
  gi_wp2_with (refine ⟨trivial, ?_⟩; gi_at_call 44; refine (strings_SplitSeq _ hn2 _).mono ?_; rintro e w' ⟨rfl, rfl⟩)
  refine rf_named' ?_
  intro ac bd HAC HBD
  refine wpIn_rangeFunc ?_
  intro fn hfn
  obtain ⟨W0, HW0⟩ : ∃ W0, Hid (W0 = ((((((w.alloc (.cells #[.slice none 0 0] 43)).alloc (.cells #[.int .u8 0] 40)).alloc (.cells #[.slice none 0 0] 43)).alloc (.cells #[.string ⟨p.toArray⟩] 9)).alloc (.cells #[.string ⟨#[46]⟩] 9)).alloc (.cells #[.int .i64 0] 3))) := ⟨_, rfl⟩
  rw [← HW0.out]
  obtain ⟨rr, HRR⟩ : ∃ rr, Hid (rr = spRec fn w.heap.size p ac bd .ready none) := ⟨_, rfl⟩
  obtain ⟨rd, HRD⟩ : ∃ rd, Hid (rd = spRec fn w.heap.size p ac bd .done (some .ret)) := ⟨_, rfl⟩
  obtain ⟨W1, HW1⟩ : ∃ W1, Hid (W1 = (W0.alloc (.deferred (some []))).alloc (.loop rr)) := ⟨_, rfl⟩
  have hs0 : W0.heap.size = w.heap.size + 1 + 1 + 1 + 1 + 1 + 1 := by rw [HW0.out]; simp
  have hM : SpA w rr (.slice none 0 0) 0 (.slice none 0 0) [] p W1 := by
    have e0 := Blk.new w [.slice none 0 0] 43
    have e1 := Blk.new (w.alloc (.cells #[.slice none 0 0] 43)) [.int .u8 0] 40
    have e2 := Blk.new ((w.alloc (.cells #[.slice none 0 0] 43)).alloc (.cells #[.int .u8 0] 40)) [.slice none 0 0] 43
    have e3 := Blk.new (((w.alloc (.cells #[.slice none 0 0] 43)).alloc (.cells #[.int .u8 0] 40)).alloc (.cells #[.slice none 0 0] 43)) [.string ⟨p.toArray⟩] 9
    have e4 := Blk.new ((((w.alloc (.cells #[.slice none 0 0] 43)).alloc (.cells #[.int .u8 0] 40)).alloc (.cells #[.slice none 0 0] 43)).alloc (.cells #[.string ⟨p.toArray⟩] 9)) [.string ⟨#[46]⟩] 9
    have e5 := Blk.new (((((w.alloc (.cells #[.slice none 0 0] 43)).alloc (.cells #[.int .u8 0] 40)).alloc (.cells #[.slice none 0 0] 43)).alloc (.cells #[.string ⟨p.toArray⟩] 9)).alloc (.cells #[.string ⟨#[46]⟩] 9)) [.int .i64 0] 3
    have e6 := heap_alloc_new W0 (.deferred (some []))
    have e7 := heap_alloc_new (W0.alloc (.deferred (some []))) (.loop rr)
    simp only [World.size_alloc] at e1 e2 e3 e4 e5 e7
    rw [hs0] at e6 e7
    rw [HW1.out]
    refine ⟨?_, ?_, ?_, ?_, ?_, ?_, ?_, e7, World.ownsRow_nil _ _ _ _, ?_⟩
    · exact Blk.alloc (Blk.alloc (by rw [HW0.out]; exact (((((e0.alloc _).alloc _).alloc _).alloc _).alloc _)) _) _
    · exact Blk.alloc (Blk.alloc (by rw [HW0.out]; exact ((((e1.alloc _).alloc _).alloc _).alloc _)) _) _
    · exact Blk.alloc (Blk.alloc (by rw [HW0.out]; exact (((e2.alloc _).alloc _).alloc _)) _) _
    · exact Blk.alloc (Blk.alloc (by rw [HW0.out]; exact ((e3.alloc _).alloc _)) _) _
    · exact Blk.alloc (Blk.alloc (by rw [HW0.out]; exact (e4.alloc _)) _) _
    · exact Blk.alloc (Blk.alloc (by rw [HW0.out]; exact e5) _) _
    · exact (Below.heap_alloc _ _ _ (by simp; omega)).trans e6
    · have : Below w.heap.size w W0 := by
        rw [HW0.out]
        (repeat (first | with_reducible exact Below.refl _ _ | with_reducible refine Below.setCell ?_ (by first | omega | (simp; omega) | (simp; done)) _ | with_reducible refine Below.alloc ?_ (by first | omega | (simp; omega) | (simp; done)) _ | with_reducible refine below_drewN ?_ _ | with_reducible refine Below.drew ?_))
      exact (this.alloc (by omega) _).alloc (by simp; omega) _
  have hround : ∀ (pre : List (List UInt8)) (rest x : List UInt8) (lv : Value) (W : World), pre.length ≤ 65 → x.length ≤ 1099511627776 → SpA w rr (.slice none 0 0) 0 lv pre rest W →
      YieldAt Fence.wide (4 - 1 - 1) Tryd.prog (w.heap.size + 1 + 1 + 1 + 1 + 1 + 1 + 1) #[strV x] W fun e' W' =>
        (e' = .returned (.bool true) ∧ (pre.length < 65 ∧ nameOk ⟨x.toArray⟩ = true) ∧ ∃ lv', SpA w rr (.slice none 0 0) 0 lv' (pre ++ [x]) rest W') ∨
        (e' = .returned (.bool false) ∧ (pre.length = 65 ∨ nameOk ⟨x.toArray⟩ = false) ∧ ∃ lv', SpA w rd (.slice none 0 0) 12 lv' pre rest W') := by
    intro pre rest x lv W hpre hx hC
    refine ⟨fn, _, ac, bd, by simpa [HRR.out, spRec] using run_yield (P := Tryd.prog) (args := #[strV x]) hC.L (by rw [HRR.out]; rfl), roundIn_of_wpIn hfn ?_⟩
    have hlt := get_lt hC.L
    rw [HAC.out]
    have HX := hid hx
    have HVX : Hid (strV x = .string ⟨x.toArray⟩) := rfl
    rw [HVX.out]
    clear hx
    gi_wp2
    refine ⟨_, run_beginRound hC.L (by rw [HRR.out]; rfl), ?_⟩
    have hC2 := hC.put { rr with state := .busy }
    obtain ⟨W2, HW2⟩ : ∃ W2, Hid (W2 = W.putObj (w.heap.size + 1 + 1 + 1 + 1 + 1 + 1 + 1) (.loop { rr with state := .busy })) := ⟨_, rfl⟩
    rw [← HW2.out] at hC2 ⊢
    rw [HBD.out]
    obtain ⟨a, c, e⟩ := hC2.own.form
    obtain ⟨k, HK⟩ : ∃ k, Hid (k = pre.length) := ⟨_, rfl⟩
    rw [← HK.out] at e hpre
    subst e
    have n0 := hC2.lb.cell 0 _ rfl
    have nz := hC2.lb.free 0
    have z0 := hC2.r0.free 0
    have z1 := hC2.r1.free 0
    have q0 := hC2.r0.cell 0 _ rfl
    have q1 := hC2.r1.cell 0 _ rfl
    by_cases hk : k = 65
    · subst hk
      gi_wp2
      refine ⟨trivial, ?_⟩
      gi_wp2
      have hC3 : SpA w { rr with state := .busy } (.slice none 0 0) 12 _ pre rest ((W2.setCell ⟨w.heap.size, 0, none⟩ (.slice none 0 0)).setCell ⟨w.heap.size + 1, 0, none⟩ (.int .u8 12)) := (hC2.set0 _).set1 12
      have hC4 := hC3.put rd
      have hrd : ({ ({ rr with state := .busy } : Loop) with state := .done, pending := some .ret } : Loop) = rd := by rw [HRR.out, HRD.out]; rfl
      exact ⟨_, _, run_endRound (P := Tryd.prog) (some .ret) hC3.L, .inr ⟨rfl, .inl HK.out.symm, _, by simpa [hrd] using hC4⟩⟩
    · have hk1 : k < 65 := by omega
      have hke : decide ((k : Int) = 65) = false := decide_eq_false (by omega)
      have hke2 : ((k : Int) == 65) = false := by simp; omega
      clear hk
      gi_wp2
      refine ⟨trivial, ?_⟩
      have hpn := path_named x (by have := HX.out; omega) W2
      rw [HVX.out] at hpn
      refine (CallsIn.inRound (w.heap.size + 1 + 1 + 1 + 1 + 1 + 1 + 1) (callsIn_wide.2 hpn)).mono ?_
      rintro e w3 ⟨rfl, hb3⟩
      have hC3 := hC2.below hb3
      clear hpn hb3 n0 nz z0 z1 q0 q1
      have n0 := hC3.lb.cell 0 _ rfl
      have nz := hC3.lb.free 0
      have z0 := hC3.r0.free 0
      have z1 := hC3.r1.free 0
      have q0 := hC3.r0.cell 0 _ rfl
      have q1 := hC3.r1.cell 0 _ rfl
      cases hnm : nameOk ⟨x.toArray⟩ with
      | false =>
        have HNM := hid hnm
        clear hnm
        gi_wp2
        have hC3' : SpA w { rr with state := .busy } (.slice none 0 0) 12 _ pre rest ((w3.setCell ⟨w.heap.size, 0, none⟩ (.slice none 0 0)).setCell ⟨w.heap.size + 1, 0, none⟩ (.int .u8 12)) := (hC3.set0 _).set1 12
        have hC4 := hC3'.put rd
        have hrd : ({ ({ rr with state := .busy } : Loop) with state := .done, pending := some .ret } : Loop) = rd := by rw [HRR.out, HRD.out]; rfl
        exact ⟨_, _, run_endRound (P := Tryd.prog) (some .ret) hC3'.L, .inr ⟨rfl, .inr HNM.out, _, by simpa [hrd] using hC4⟩⟩
      | true =>
        have HNM := hid hnm
        clear hnm
        obtain ⟨v5, w5, hr5, hO5, hg5⟩ := hC3.own.one x (by have := HK.out; omega) (by have := get_lt hC3.L; omega)
        obtain ⟨hC5, hb5⟩ := hC3.push hg5 hO5
        obtain ⟨a5, c5, e5⟩ := hO5.form
        obtain ⟨k5, HK5⟩ : ∃ k5, Hid (k5 = (pre ++ [x]).length) := ⟨_, rfl⟩
        rw [← HK5.out] at e5
        subst e5
        rw [HVX.out] at hr5
        have HR5 := hid hr5
        have HC5 := hid hC5
        have m0 := hb5.cell 0 _ rfl
        have mz := hb5.free 0
        have ml := hb5.lt
        clear hr5 hO5 hg5 hC5 hb5
        gi_wp2_with (gi_at_builtin; refine wpListIn_append2_eq rfl (.tmp 17) (.tmp 19) 43 43 rfl _ _ rfl rfl HR5.out ?_)
        have hC6 := HC5.out.put rr
        have hrd : ({ ({ rr with state := .busy } : Loop) with state := .ready, pending := none } : Loop) = rr := by rw [HRR.out]; rfl
        exact ⟨_, _, run_endRound (P := Tryd.prog) none HC5.out.L, .inl ⟨rfl, ⟨by have := HK.out; omega, HNM.out⟩, _, by simpa [hrd] using hC6⟩⟩
  refine ⟨W0.heap.size + 1, [{ target := .collected W0.heap.size, args := #[] }], W1, { target := .fn (.func 62) #[.pointer (some ⟨w.heap.size + 1 + 1 + 1 + 1, 0, none⟩), .pointer (some ⟨w.heap.size + 1 + 1 + 1, 0, none⟩), .pointer (some ⟨w.heap.size + 1 + 1 + 1 + 1 + 1, 0, none⟩)], args := #[.func (.yield (W0.heap.size + 1)) #[] #[]] }, W1, 62,
    #[.func (.yield (W0.heap.size + 1)) #[] #[], .pointer (some ⟨w.heap.size + 1 + 1 + 1 + 1, 0, none⟩), .pointer (some ⟨w.heap.size + 1 + 1 + 1, 0, none⟩), .pointer (some ⟨w.heap.size + 1 + 1 + 1 + 1 + 1, 0, none⟩)], W1, ?_, ?_, ?_, ?_, fun _ => hn1, ?_⟩
  · rw [HW1.out, HRR.out, spRec, ← hs0]; exact run_enterLoop_outer _ _ _ _ _
  · simp [resolve, go_sem, dotFn]
  · intro f' hf'; trivial
  · simp [invoke, go_sem]
  · refine CallsIn.mono (R := fun e W' => (∃ v, e = .returned v) ∧ ((∃ rest lv, SpA w rr (.slice none 0 0) 0 lv (sdot p) rest W' ∧ (sdot p).length ≤ 65 ∧ namesOk (sdot p) = true) ∨
        ∃ pre x rest lv, pre ++ [x] <+: sdot p ∧ (pre.length = 65 ∨ nameOk ⟨x.toArray⟩ = false) ∧ SpA w rd (.slice none 0 0) 12 lv pre rest W')) ?_ ?_
    · rw [hs0]
      refine (split_1 (4 - 1) (by omega) _ _ _ _ p (by omega) (fun pre rest W => (∃ lv, SpA w rr (.slice none 0 0) 0 lv pre rest W) ∧ pre.length ≤ 65 ∧ namesOk pre = true) (fun es W => ∃ pre x rest lv, es = pre ++ [x] ∧ (pre.length = 65 ∨ nameOk ⟨x.toArray⟩ = false) ∧ SpA w rd (.slice none 0 0) 12 lv pre rest W)
        (fun pre rest W hC => ?_) (fun pre rest rest' W hC => ⟨⟨_, (hC.1.choose_spec).setS rest'⟩, hC.2⟩) ?_ W1 ⟨⟨_, hM⟩, by simp, rfl⟩).mono ?_
      · obtain ⟨⟨lv, hC⟩, -⟩ := hC
        exact ⟨hC.pb.cell 0 _ rfl, hC.sb.cell 0 _ rfl, hC.sb.free 0, hC.qb.cell 0 _ rfl⟩
      · rintro pre rest W x hlt ⟨⟨lv, hC⟩, h65, hnames⟩ hx
        obtain ⟨fn', tm, as', bo, hy, hR⟩ := hround pre rest x lv W h65 (by omega) hC
        refine ⟨fn', tm, as', bo, hy, hR.mono ?_⟩
        rintro e' W' (⟨h1, h2, lv', h3⟩ | ⟨h1, h2, lv', h3⟩)
        · refine .inl ⟨h1, ⟨lv', h3⟩, by rw [List.length_append]; simp; omega, ?_⟩
          unfold namesOk at hnames ⊢
          rw [List.all_append, hnames]
          simp [h2.2]
        · exact .inr ⟨h1, pre, x, rest, lv', rfl, h2, h3⟩
      · rintro e W' ⟨hv, ⟨rest, ⟨lv, hC⟩, h65, hnm⟩ | ⟨es, hpre, pre, x, rest, lv, rfl, hbad, hC⟩⟩
        · exact ⟨hv, .inl ⟨rest, lv, hC, h65, hnm⟩⟩
        · exact ⟨hv, .inr ⟨pre, x, rest, lv, hpre, hbad, hC⟩⟩
    · rintro e W' ⟨⟨v, rfl⟩, ⟨rest, lv, hC, h65, hnm⟩ | ⟨pre, x, rest, lv, hpre, hbad, hC⟩⟩
      · have hE := run_endLoop (P := Tryd.prog) hC.L (by simp [HRR.out, spRec])
        have hC2 := hC.put { (rr : Loop) with state := .exhausted }
        obtain ⟨W3, HW3⟩ : ∃ W3, Hid (W3 = W'.putObj (w.heap.size + 1 + 1 + 1 + 1 + 1 + 1 + 1) (.loop { (rr : Loop) with state := .exhausted })) := ⟨_, rfl⟩
        rw [← HW3.out] at hC2 hE
        have HOK : Hid (pathOk p = true) := by
          rw [Hid, pathOk, hnm]; simpa using h65
        refine ⟨none, W3, by rw [hs0, hE, HRR.out]; rfl, ?_⟩
        simp only
        rw [hs0]
        obtain ⟨a, c, e⟩ := hC2.own.form
        obtain ⟨k, HK⟩ : ∃ k, Hid (k = (sdot p).length) := ⟨_, rfl⟩
        rw [← HK.out] at e
        subst e
        have c0 := hC2.r0.cell 0 _ rfl
        have c1 := hC2.r1.cell 0 _ rfl
        have f0 := hC2.r0.free 0
        have f1 := hC2.r1.free 0
        have cn := hC2.lb.cell 0 _ rfl
        have HC2 := hid hC2
        clear hC hE hnm h65 hC2
        gi_wp2
        obtain ⟨e1, e2, e3, e4⟩ := two_results HC2.out.r0 HC2.out.r1 HC2.out.D (by omega) (Nat.le_refl _) (by omega) (by omega) HC2.out.B (.slice a k c) (.int .u8 0)
        refine ⟨by simp, .inl ⟨_, _, rfl, run_takeDeferred (P := Tryd.prog) e1, ?_⟩⟩
        refine ⟨_, by simp [results, Tryd.f30, go_sem, e2, e3]; rfl, ?_⟩
        rw [SplitPost, if_pos HOK.out, if_pos HOK.out]
        refine ⟨.slice a k c, rfl, ?_, e4⟩
        have ho := HC2.out.own
        refine StrsOwn.mono (b := w.heap.size + 1 + 1 + 1 + 1 + 1 + 1 + 1 + 1) (row_keep ho fun b _ hb _ => ?_) (by omega)
        rw [World.putObj_heap_other (by omega)]
        exact (Below.heap_setCell _ _ _ _ (by first | (simp; done) | (simp; omega))).trans (Below.heap_setCell _ _ _ _ (by first | (simp; done) | (simp; omega)))
      · have hE := run_endLoop (P := Tryd.prog) hC.L (by simp [HRD.out, spRec])
        have hC2 := hC.put { (rd : Loop) with state := .exhausted }
        obtain ⟨W3, HW3⟩ : ∃ W3, Hid (W3 = W'.putObj (w.heap.size + 1 + 1 + 1 + 1 + 1 + 1 + 1) (.loop { (rd : Loop) with state := .exhausted })) := ⟨_, rfl⟩
        rw [← HW3.out] at hC2 hE
        refine ⟨some .ret, W3, by rw [hs0, hE, HRD.out]; rfl, ?_⟩
        simp only
        rw [hs0]
        gi_wp2
        obtain ⟨e2, e3, e4⟩ := two_results0 hC2.r0 hC2.r1 hC2.D (by omega) hC2.B
        refine ⟨by simp, .inl ⟨_, _, rfl, run_takeDeferred (P := Tryd.prog) hC2.D, ?_⟩⟩
        refine ⟨_, by simp [results, Tryd.f30, go_sem, e2, e3]; rfl, ?_⟩
        rw [SplitPost, if_neg (by rw [pathOk_not hpre hbad]; decide), if_neg (by rw [pathOk_not hpre hbad]; decide)]
        exact ⟨.slice none 0 0, rfl, World.ownsRow_nil _ _ _ _, e4⟩
end Go.Proofs.YtmngpfnjomhhcaaDoor
namespace Go.Proofs.YtmngpfnjomhhcaaDoor
open Go.RowKit
theorem size_strp (w : World) : (sizeOf 9).run Tryd.prog w = .ok 1 w := by kernel_rfl
end Go.Proofs.YtmngpfnjomhhcaaDoor
namespace Go.Proofs.YtmngpfnjomhhcaaDoor
open Go.RowKit
def maskArgs (s : List Mes) (root : Int) : Nat := if sright s = false then 9 else if root < 0 ∨ (s.length : Int) ≤ root then 2 else 0
set_option maxRecDepth 100000 in
set_option maxHeartbeats 4000000 in
theorem mask_args {w : World} {sv : Value} {s : List Mes} (hS : SchemaAt w sv s) (root : Int) :
    Calls Tryd.prog 21 #[sv, .int .i64 root] w fun e w' => e = .returned (.int .u8 (maskArgs s root : Nat)) ∧ Below w.heap.size w w' := by
  have HR := hid (schema_Right hS)
  obtain ⟨hn, a, c, rfl, -⟩ := hS.open
  obtain ⟨n, HN⟩ : ∃ n, Hid (n = s.length) := ⟨_, rfl⟩
  rw [← HN.out] at hn HR ⊢
  obtain ⟨y, HY⟩ : ∃ y, Hid (y = sright s) := ⟨_, rfl⟩
  rw [← HY.out] at HR
  obtain ⟨z, HZ⟩ : ∃ z, Hid (z = maskArgs s root) := ⟨_, rfl⟩
  rw [← HZ.out]
  clear hS
  go_enter Tryd.func21, Tryd.ntmps21
  go_wp2_with fail
  refine HR.out.mono ?_
  rintro e w1 ⟨rfl, hb⟩
  have HB := hid hb
  clear hb
  cases y with
  | false =>
    have HE : Hid (z = 9) := by rw [Hid, HZ.out, maskArgs, if_pos HY.out.symm]
    go_wp2_with fail
    go_ret
    exact ⟨by rw [HE.out]; first | done | rfl, HB.out⟩
  | true =>
    by_cases h0 : root < 0
    · have HE : Hid (z = 2) := by rw [Hid, HZ.out, maskArgs, if_neg (by rw [← HY.out]; decide), if_pos (.inl h0)]
      go_wp2_with fail
      go_ret
      exact ⟨by rw [HE.out]; first | done | rfl, HB.out⟩
    · by_cases h1 : (n : Int) ≤ root
      · have HE : Hid (z = 2) := by rw [Hid, HZ.out, maskArgs, if_neg (by rw [← HY.out]; decide), if_pos (.inr (by rw [← HN.out]; exact h1))]
        go_wp2_with fail
        go_ret
        exact ⟨by rw [HE.out]; first | done | rfl, HB.out⟩
      · have HE : Hid (z = 0) := by rw [Hid, HZ.out, maskArgs, if_neg (by rw [← HY.out]; decide), if_neg (by rw [← HN.out]; omega)]
        go_wp2_with fail
        go_ret
        exact ⟨by rw [HE.out]; first | done | rfl, HB.out⟩
/-- the field of a name: its place, the field -/
def fieldNamed (s : List Mes) (root : Int) (t : List UInt8) : Option Fld :=
  if 0 ≤ namedAt (s.getD root.toNat .zero).fields ⟨t.toArray⟩ then some ((s.getD root.toNat .zero).fields.getD (namedAt (s.getD root.toNat .zero).fields ⟨t.toArray⟩).toNat .zero) else none
/-- names to numbers -/
def wayP (s : List Mes) : List (List UInt8) → Int → Option (List Int)
  | [], _ => some []
  | t :: r, root => match fieldNamed s root t with
    | none => none
    | some f => if r = [] then some [f.number] else if f.rep = true ∨ f.kind ≠ 17 then none else (wayP s r f.of).map (f.number :: ·)
def LeadPost (w : World) (o : Option (List Int)) (e : Ending) (w' : World) : Prop := ∃ v', e = .returned (.tuple #[v', .bool o.isSome]) ∧ IntsOwn w' w.heap.size v' (o.getD []) ∧ Below w.heap.size w w'
set_option maxRecDepth 100000 in
set_option maxHeartbeats 4000000 in
theorem mask_lead {w : World} {sv nv : Value} {s : List Mes} {names : List (List UInt8)} (hS : SchemaAt w sv s) (hs : sright s = true) (hN : StrsAt w nv names) (hl : names.length ≤ 1099511627776) (root : Nat) (hroot : root < s.length) :
    Calls Tryd.prog 31 #[sv, .int .i64 (root : Int), nv] w (LeadPost w (wayP s names root)) := by
  have HS := hid hS
  have HSR := hid hs
  obtain ⟨hm, sa, sc, rfl, hsat⟩ := hS.open
  obtain ⟨m, HM⟩ : ∃ m, Hid (m = s.length) := ⟨_, rfl⟩
  rw [← HM.out] at hm HS hroot hsat ⊢
  obtain ⟨-, na, nc, rfl, -, hnat⟩ := hN.open
  obtain ⟨n, HNN⟩ : ∃ n, Hid (n = names.length) := ⟨_, rfl⟩
  rw [← HNN.out] at hl ⊢
  obtain ⟨Q, HQ⟩ : ∃ Q : Ending → World → Prop, Hid (Q = LeadPost w (wayP s names root)) := ⟨_, rfl⟩
  rw [← HQ.out]
  have HBAD : Hid (∀ w', Below w.heap.size w w' → wayP s names root = none → Q (.returned (.tuple #[.slice none 0 0, .bool false])) w') := by
    intro w' hb h
    rw [HQ.out, h]
    exact ⟨_, rfl, World.ownsRow_nil _ _ _ _, hb⟩
  have HGOOD : Hid (∀ w' v l, Below w.heap.size w w' → wayP s names root = some l → IntsOwn w' w.heap.size v l → Q (.returned (.tuple #[v, .bool true])) w') := by
    intro w' v l hb h ho
    rw [HQ.out, h]
    exact ⟨_, rfl, ho, hb⟩
  have HSAT := hid hsat
  have HNAT := hid hnat
  clear hS hs hN hsat hnat
  go_enter Tryd.func31, Tryd.ntmps31
  go_wp2_with fail
  go_loopw [1, 8, 16] (fun v1 v8 v16 wr => ∃ (r i : Nat) (wl : List Int), v1 = .int .i64 r ∧ v16 = .int .i64 i ∧ r < m ∧ i ≤ n ∧ Hid (IntsOwn wr w.heap.size v8 wl ∧ Below w.heap.size w wr ∧ wl.length = i ∧ wayP s names root = (wayP s (names.drop i) r).map (wl ++ ·))) (fun _ _ v16 _ => n - (intOf v16).toNat)
  case atStart => exact ⟨root, 0, [], rfl, rfl, hroot, by omega, World.ownsRow_nil _ _ _ _, Below.refl _ _, rfl, by simp⟩
  case round =>
    obtain ⟨r, i, wl, rfl, rfl, hr, hi, HI⟩ := hrel
    obtain ⟨oa, oc, hoe⟩ := HI.out.1.form
    rw [HI.out.2.2.1] at hoe
    subst hoe
    by_cases hlt : i < n
    · obtain ⟨t, ht⟩ : ∃ t, names[i]? = some t := ⟨_, List.getElem?_eq_getElem (by rw [← HNN.out]; exact hlt)⟩
      obtain ⟨htl, b, o, ha, g0⟩ := HNAT.out i t ht
      have hix := index_run1 Tryd.underlying43 size_strp ha i hlt (cap := nc)
      obtain ⟨b2, o2, fv, ha2, hnl, g1, g2, hF⟩ := HSAT.out r hr
      have hix2 := index_run Tryd.underlying39 size_mes ha2 r hr (cap := sc)
      have hkp := below_keeps HI.out.2.1
      replace g0 := hkp _ _ g0
      replace g1 := hkp _ _ g1
      replace g2 := hkp _ _ g2
      unfold strV at g0
      obtain ⟨fs, HFS⟩ : ∃ fs, Hid (fs = (s.getD r .zero).fields) := ⟨_, rfl⟩
      rw [← HFS.out] at hF
      obtain ⟨nm, HNM⟩ : ∃ nm, Hid (nm = (s.getD r .zero).name) := ⟨_, rfl⟩
      rw [← HNM.out] at g1
      have hF' := hF.keep hkp
      have HBY := hid (schema_ByName hF' nm ⟨t.toArray⟩)
      obtain ⟨hfl, fa, fc, rfl, hfat⟩ := hF'.open
      obtain ⟨fn, HFN⟩ : ∃ fn, Hid (fn = fs.length) := ⟨_, rfl⟩
      rw [← HFN.out] at hfl hfat g2 HBY
      have HD := hid (drop_at ht)
      have HFNM : Hid (fieldNamed s (r : Int) t = if 0 ≤ namedAt fs ⟨t.toArray⟩ then some (fs.getD (namedAt fs ⟨t.toArray⟩).toNat .zero) else none) := by
        rw [Hid, fieldNamed, Int.toNat_natCast, ← HFS.out]
      obtain ⟨kx, HKX⟩ : ∃ kx, Hid (kx = namedAt fs ⟨t.toArray⟩) := ⟨_, rfl⟩
      rw [← HKX.out] at HFNM HBY
      have HFAT := hid hfat
      clear ht ha ha2 hnl hF hF' hkp hfat htl
      by_cases hk0 : 0 ≤ kx
      · obtain ⟨kk, hkk, hkf⟩ : ∃ kk : Nat, kx = kk ∧ kk < fn := by
          rcases firstAt_bd (fun f : Fld => decide (f.name = ⟨t.toArray⟩)) fs 0 with h | ⟨j, h, h1, h2⟩
          · have := HKX.out; unfold namedAt at this; omega
          · exact ⟨j, by have := HKX.out; unfold namedAt at this; omega, by rw [HFN.out]; omega⟩
        subst hkk
        rw [if_pos hk0, decide_eq_true hk0] at HBY
        rw [if_pos hk0, Int.toNat_natCast] at HFNM
        obtain ⟨b3, o3, ha3, hok, f0, f1, f2, f3, f4, f5⟩ := HFAT.out kk hkf
        have hix3 := index_run Tryd.underlying35 size_fld ha3 kk hkf (cap := fc)
        obtain ⟨f, HF⟩ : ∃ f, Hid (f = fs.getD kk .zero) := ⟨_, rfl⟩
        rw [← HF.out] at hok f0 f1 f2 f3 f4 f5 HFNM
        have HFMEM : Hid (f ∈ (s.getD r .zero).fields) := by
          rw [Hid, ← HFS.out, HF.out]
          have : kk < fs.length := by rw [← HFN.out]; exact hkf
          rw [List.getD_eq_getElem?_getD, List.getElem?_eq_getElem this]
          exact List.getElem_mem this
        have HOK := hid hok
        have HF0 := hid f0
        have HF1 := hid f1
        have HF2 := hid f2
        have HF3 := hid f3
        have HF4 := hid f4
        have HF5 := hid f5
        have HG1 := hid g1
        have HG2 := hid g2
        obtain ⟨fname, fnum, fkind, frep, fpack, fof⟩ := f
        simp only at f0 f1 f2 f3 f4 f5
        clear hk0 ha3 hok f0 f1 f2 f3 f4 f5
        go_wp2_with fail
        refine HBY.out.mono ?_
        rintro e w1 ⟨rfl, hb⟩
        have HB1 : Hid (Below w.heap.size w w1) := below_step HI.out.2.1 hb HI.out.2.1.size
        have hkp := below_keeps hb
        replace g1 := hkp _ _ g1
        replace g2 := hkp _ _ g2
        have f0 := hkp _ _ HF0.out
        have f1 := hkp _ _ HF1.out
        have f2 := hkp _ _ HF2.out
        have f3 := hkp _ _ HF3.out
        have f4 := hkp _ _ HF4.out
        have f5 := hkp _ _ HF5.out
        have HOW := hid (HI.out.1.later hb)
        clear hb hkp
        have hwl : wl.length = i := HI.out.2.2.1
        have HWL := hid hwl
        have hsz1 : w.heap.size ≤ w1.heap.size := HB1.out.size
        go_wp2_with (at_builtin; refine wpList_append_int rfl _ _ rfl rfl _ _ _ rfl rfl rfl ?c0 w.heap.size wl ?c1 ?c2 ?c3 ?c4 ?_)
        case c0 => simp
        case c1 =>
          refine HOW.out.later ?_
          (repeat (first | with_reducible exact Below.refl _ _ | with_reducible refine Below.setCell ?_ (by first | omega | (simp; omega) | (simp; done)) _ | with_reducible refine Below.alloc ?_ (by first | omega | (simp; omega) | (simp; done)) _ | with_reducible refine below_drewN ?_ _ | with_reducible refine Below.drew ?_))
        case c2 => exact HOK.out.number
        case c3 => rw [hwl]; omega
        case c4 => simp; omega
        intro a' c' w5 hO5 hB5 hK5
        have hBX : Blk w5 w1.heap.size [.string fname, .int .i64 fnum, .int .i64 fkind, .bool frep, .bool fpack, .int .i64 fof] 34 := (hK5 _ (by simp) (fun e => by have := (World.ownsRow.lt HOW.out _ e).2; omega)).trans (Blk.new w1 [.string fname, .int .i64 fnum, .int .i64 fkind, .bool frep, .bool fpack, .int .i64 fof] _)
        have HO5 := hid hO5
        have HB5 : Hid (Below w.heap.size w w5) := hB5 w (by refine HB1.out.trans ?_; refine Below.mono ?_ hsz1; (repeat (first | with_reducible exact Below.refl _ _ | with_reducible refine Below.setCell ?_ (by first | omega | (simp; omega) | (simp; done)) _ | with_reducible refine Below.alloc ?_ (by first | omega | (simp; omega) | (simp; done)) _ | with_reducible refine below_drewN ?_ _ | with_reducible refine Below.drew ?_)))
        have b2' := hBX.cell 2 _ rfl
        have b3' := hBX.cell 3 _ rfl
        have b5' := hBX.cell 5 _ rfl
        have HN1 : Hid (wayP s names root = if names.drop (i + 1) = [] then some (wl ++ [fnum]) else if frep = true ∨ fkind ≠ 17 then none else (wayP s (names.drop (i + 1)) fof).map ((wl ++ [fnum]) ++ ·)) := by
          rw [Hid, HI.out.2.2.2, HD.out, wayP, HFNM.out]
          simp only
          split
          · simp
          · split
            · simp
            · cases wayP s (List.drop (i + 1) names) fof <;> simp
        clear hO5 hB5 hK5 hBX
        by_cases hlast : i + 1 = n
        · have HNIL : Hid (names.drop (i + 1) = []) := List.drop_eq_nil_of_le (by rw [← HNN.out]; omega)
          rw [if_pos HNIL.out] at HN1
          have e1 : ((i : Int) == (n : Int) - 1) = true := by simp; omega
          have e2 : decide ((i : Int) = (n : Int) - 1) = true := decide_eq_true (by omega)
          clear hlast
          go_wp2_with fail
          exact HGOOD.out _ _ _ HB5.out HN1.out HO5.out
        · have HNNIL : Hid (names.drop (i + 1) ≠ []) := fun e => by
            have := congrArg List.length e
            rw [List.length_drop, ← HNN.out] at this
            simp at this; omega
          rw [if_neg HNNIL.out] at HN1
          have e1 : ((i : Int) == (n : Int) - 1) = false := by simp; omega
          have e2 : decide ((i : Int) = (n : Int) - 1) = false := decide_eq_false (by omega)
          cases frep with
          | true =>
            rw [if_pos (.inl rfl)] at HN1
            clear hlast
            go_wp2_with fail
            exact HBAD.out _ HB5.out HN1.out
          | false =>
            by_cases h17 : fkind = 17
            · rw [if_neg (by simp [h17])] at HN1
              obtain ⟨hof0, hof1⟩ := (sright_field HSR.out r (by rw [← HM.out]; exact hr) _ HFMEM.out).2.1 h17
              simp only at hof0 hof1
              obtain ⟨q, rfl⟩ : ∃ q : Nat, fof = q := ⟨fof.toNat, by omega⟩
              have hqm : q < m := by rw [HM.out]; omega
              subst h17
              clear hof0 hof1
              go_wp2_with fail
              go_roundw
              case rel => exact ⟨q, i + 1, wl ++ [fnum], by go_num, by go_num, hqm, by omega, HO5.out, HB5.out, by rw [List.length_append, HWL.out]; rfl, HN1.out⟩
              case measure => simp [intOf]; omega
            · rw [if_pos (.inr h17)] at HN1
              have k1 : (fkind != 17) = true := by simpa using h17
              have k2 : (fkind == 17) = false := by simpa using h17
              have k3 : decide (fkind = 17) = false := decide_eq_false h17
              clear hlast h17
              go_wp2_with fail
              exact HBAD.out _ HB5.out HN1.out
      · rw [if_neg hk0, decide_eq_false hk0] at HBY
        rw [if_neg hk0] at HFNM
        have HX : Hid (wayP s names root = none) := by
          rw [Hid, HI.out.2.2.2, HD.out, wayP, HFNM.out]; rfl
        clear hk0
        go_wp2_with fail
        refine HBY.out.mono ?_
        rintro e w1 ⟨rfl, hb⟩
        have HB1 : Hid (Below w.heap.size w w1) := below_step HI.out.2.1 hb HI.out.2.1.size
        clear hb
        go_wp2_with fail
        exact HBAD.out _ HB1.out HX.out
    · obtain rfl : i = n := by omega
      have HX : Hid (wayP s names root = some wl) := by
        rw [Hid, HI.out.2.2.2, List.drop_eq_nil_of_le (by rw [← HNN.out]; omega), wayP]; simp
      go_wp2_with fail
      exact HGOOD.out _ _ _ HI.out.2.1 HX.out HI.out.1
end Go.Proofs.YtmngpfnjomhhcaaDoor
