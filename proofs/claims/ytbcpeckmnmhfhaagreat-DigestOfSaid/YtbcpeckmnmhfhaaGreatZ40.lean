/- A document's sheet under way: a block with three lists, each built by append (O3). No condition but lengths. Plain laws: the records of bytes, told apart from their places (arecs): of bytes behind bytes they are those of both; the meaning hangs on them alone (msgA). No condition. Plain laws: a record that is put is read (rnext_rput, vlook_rput); its bytes told as records (arecs_rput). No condition. Plain laws: a number's bytes are read back (kread_kput), a run of them too (runWords_kpack). No condition. tree.Fits, tree.right, tree.Right: fitsB, rightB, for each depth. The meaning's weight is at most 2^40. tree.right, tree.Right: rightB, for each depth. The meaning's weight is at most 2^40. darningref14.Many, Fits: fitsB, where Right tells rightB of the messages in it. The value's weight is at most 2^40. -/
import Derived.Test.YtbcpeckmnmhfhaaGreatZ20
import Derived.Test.YtbcpeckmnmhfhaaGreatZ21
import Derived.Test.YtbcpeckmnmhfhaaGreatZ23
import Derived.Test.YtbcpeckmnmhfhaaGreatZ24
import Derived.Test.YtbcpeckmnmhfhaaGreatZ26
import Derived.Test.YtbcpeckmnmhfhaaGreatZ30
import Derived.Test.YtbcpeckmnmhfhaaGreatZ39
import Derived.StillTailTactics
namespace Go.Proofs.YtbcpeckmnmhfhaaGreat
open Go.RowKit
theorem info_rsheets : (Tryz.prog.info? 93).map (fun i => (i.zero, i.size, i.bytes)) = some (some (.slice none 0 0), 1, 24) := by kernel_rfl
theorem int_app1 {W : World} {base : Nat} {v : Value} {l : List Int} (h : IntsOwn W base v l) (y : Int) (hn : l.length ≤ 1099511627776) (hB : base ≤ W.heap.size) :
    ∃ v' w', (Builtin.append_ #[45, 45] 45 #[v, .slice (some ⟨W.heap.size, 0, none⟩) 1 1]).run Tryz.prog (W.alloc (.cells #[.int .i64 y] 3)) = .ok v' w' ∧ IntsOwn w' base v' (l ++ [y]) ∧ W.grownBy w' v.ownBlock ∧ (v'.ownBlock = v.ownBlock ∨ ∃ b, v'.ownBlock = some b ∧ W.heap.size ≤ b) := by
  have hA : Below W.heap.size W (W.alloc (.cells #[.int .i64 y] 3)) := (Below.refl _ _).alloc (Nat.le_refl _) _
  have hx : Seg (W.alloc (.cells #[.int .i64 y] 3)) (.slice (some ⟨W.heap.size, 0, none⟩) 1 1) 1 1 [.int .i64 y] := seg_blk (Blk.new W [.int .i64 y] _) 1 1 rfl (by omega)
  obtain ⟨v', w', h1, h2, h3, h4⟩ := seg_append (P := Tryz.prog) _ base 45 45 3 (.int .i64 0) 1 8 under_ints info_int rfl (by decide) v _ l.length 1 _ _ (h.later hA) hx (by intro u hu; simp at hu; subst hu; rfl) (by omega) (by omega) (by simp; omega)
  refine ⟨v', w', h1, ?_, ⟨h3.os, h3.tape, h3.output, Nat.le_trans (by simp) h3.size, fun k hk hr => (h3.block k (by simp; omega) hr).trans (Below.heap_alloc W _ k hk)⟩, h4.imp id fun e => ⟨_, e, by simp⟩⟩
  unfold IntsOwn
  rw [List.length_append, List.map_append]
  exact h2
theorem IntsOwn.keep' {w w' : World} {base : Nat} {v : Value} {l : List Int} (h : IntsOwn w base v l) (hk : ∀ b, v.ownBlock = some b → w'.heap[b]? = w.heap[b]?) : IntsOwn w' base v l := by
  unfold IntsOwn at h ⊢
  exact owned_keep h hk
theorem IntsOwn.own' {w : World} {base : Nat} {v : Value} {l : List Int} (h : IntsOwn w base v l) (b : Nat) (e : v.ownBlock = some b) : base ≤ b ∧ b < w.heap.size := World.ownsRow.lt h b e
/-- the sheet under way -/
structure O3 (d O dg uk : Nat) (w3 w : World) (nv dv sv : Value) (ns : List Int) (ds : List Nat) (ss : List (Option (Sh d))) : Prop where
  below : Below O w3 w
  blk : Blk w O [.int .u64 dg, .int .u64 uk, nv, dv, sv] 49
  ni : IntsOwn w (O + 1) nv ns
  di : WordsOwn w (O + 1) dv ds
  si : ∃ S : Nat → Prop, RowsOnS S (OptP (RShAt d)) 93 1 (O + 1) w sv ss ∧ ∀ b, S b → O + 1 ≤ b ∧ b < w.heap.size ∧ nv.ownBlock ≠ some b ∧ dv.ownBlock ≠ some b
  a1 : ∀ b, nv.ownBlock = some b → dv.ownBlock ≠ some b ∧ sv.ownBlock ≠ some b
  a2 : ∀ b, dv.ownBlock = some b → sv.ownBlock ≠ some b
theorem O3.start {d O dg uk : Nat} {w : World} (hb : Blk w O [.int .u64 dg, .int .u64 uk, .slice none 0 0, .slice none 0 0, .slice none 0 0] 49) : O3 d O dg uk w w (.slice none 0 0) (.slice none 0 0) (.slice none 0 0) [] [] [] :=
  ⟨Below.refl _ _, hb, World.ownsRow_nil _ _ _ _, World.ownsRow_nil _ _ _ _, ⟨fun _ => False, RowsOnS.nil _ _ _ _ _ _, fun _ h => h.elim⟩, fun b h => by simp [Value.ownBlock] at h, fun b h => by simp [Value.ownBlock] at h⟩
theorem O3.later {d O dg uk : Nat} {w3 w w1 : World} {nv dv sv : Value} {ns : List Int} {ds : List Nat} {ss : List (Option (Sh d))} (h : O3 d O dg uk w3 w nv dv sv ns ds ss) (hb : Below w.heap.size w w1) : O3 d O dg uk w3 w1 nv dv sv ns ds ss := by
  obtain ⟨S, h1, h2⟩ := h.si
  exact ⟨h.below.trans (hb.mono (Nat.le_of_lt h.blk.lt)), h.blk.below hb, h.ni.later hb, h.di.later hb, ⟨S, h1.later (fun b hlt _ => hb.block b hlt) hb.size, fun b hS => ⟨(h2 b hS).1, Nat.lt_of_lt_of_le (h2 b hS).2.1 hb.size, (h2 b hS).2.2⟩⟩, h.a1, h.a2⟩
theorem O3.form {d O dg uk : Nat} {w3 w : World} {nv dv sv : Value} {ns : List Int} {ds : List Nat} {ss : List (Option (Sh d))} (h : O3 d O dg uk w3 w nv dv sv ns ds ss) :
    (∃ a c, nv = .slice a ns.length c) ∧ (∃ a c, dv = .slice a ds.length c) ∧ ∃ a c, sv = .slice a ss.length c := by
  obtain ⟨S, h1, -⟩ := h.si
  exact ⟨h.ni.form, h.di.form, h1.form⟩
variable {d O dg uk : Nat} {w3 w : World} {nv dv sv : Value} {ns : List Int} {ds : List Nat} {ss : List (Option (Sh d))}
/-- a number -/
theorem O3.num (h : O3 d O dg uk w3 w nv dv sv ns ds ss) (y : Int) (hl : ns.length ≤ 1099511627776) :
    ∃ a n c w7, (Builtin.append_ #[45, 45] 45 #[nv, .slice (some ⟨w.heap.size, 0, none⟩) 1 1]).run Tryz.prog (w.alloc (.cells #[.int .i64 y] 3)) = .ok (.slice a n c) w7 ∧ Blk w7 O [.int .u64 dg, .int .u64 uk, nv, dv, sv] 49 ∧
      O3 d O dg uk w3 (w7.setCell ⟨O, 2, none⟩ (.slice a n c)) (.slice a n c) dv sv (ns ++ [y]) ds ss := by
  have hO := h.blk.lt
  obtain ⟨v', w7, hr, hI, hg, hat⟩ := int_app1 h.ni y hl (by omega)
  obtain ⟨a, c, rfl⟩ := hI.form
  have hb7 : Blk w7 O [.int .u64 dg, .int .u64 uk, nv, dv, sv] 49 := (hg.block O hO (fun e => by have := (h.ni.own' O e.symm).1; omega)).trans h.blk
  have hk : ∀ b, b < w.heap.size → b ≠ O → nv.ownBlock ≠ some b → (w7.setCell ⟨O, 2, none⟩ (.slice a (ns ++ [y]).length c)).heap[b]? = w.heap[b]? := fun b hlt h1 h2 => by
    rw [Below.heap_setCell _ _ _ b (by show b ≠ O; exact h1)]
    exact hg.block b hlt fun e => h2 e.symm
  have hnew : ∀ b, (Value.slice a (ns ++ [y]).length c).ownBlock = some b → nv.ownBlock = some b ∨ w.heap.size ≤ b := fun b e => by
    rcases hat with e2 | ⟨b', e2, hb'⟩
    · rw [e2] at e; exact .inl e
    · rw [e2] at e; injection e with e; exact .inr (by omega)
  obtain ⟨S, s1, s2⟩ := h.si
  refine ⟨a, _, c, w7, hr, hb7, (h.below.trans ?_).setCell (Nat.le_refl _) _, by simpa using hb7.set 2 (.slice a (ns ++ [y]).length c), ?_, ?_, ⟨S, ?_, fun b hS => ?_⟩, fun b e => ?_, h.a2⟩
  · exact ⟨hg.os, hg.tape, hg.output, hg.size, fun b hb => hg.block b (by omega) fun e => by have := (h.ni.own' b e.symm).1; omega⟩
  · exact hI.keep' fun b e => Below.heap_setCell _ _ _ b (by show b ≠ O; have := (hI.own' b e).1; omega)
  · exact h.di.keep fun b e => hk b (h.di.own b e).2 (by have := (h.di.own b e).1; omega) fun e2 => (h.a1 b e2).1 e
  · refine s1.later (fun b hlt hc => ?_) (by have := hg.size; simpa using this)
    rcases hc with hc | hc
    · have := s2 b hc; exact hk b hlt (by omega) this.2.2.1
    · exact hk b hlt (by have := (s1.own b hc).1; omega) fun e2 => (h.a1 b e2).2 hc
  · have := s2 b hS
    refine ⟨this.1, by have := hg.size; simp; omega, fun e => ?_, this.2.2.2⟩
    rcases hnew b e with e2 | e2
    · exact this.2.2.1 e2
    · omega
  · rcases hnew b e with e2 | e2
    · exact h.a1 b e2
    · exact ⟨fun e3 => by have := (h.di.own b e3).2; omega, fun e3 => by have := (s1.own b e3).2; omega⟩
/-- a digest -/
theorem O3.dig (h : O3 d O dg uk w3 w nv dv sv ns ds ss) (y : Nat) (hl : ds.length ≤ 1099511627776) :
    ∃ a n c w7, (Builtin.append_ #[46, 46] 46 #[dv, .slice (some ⟨w.heap.size, 0, none⟩) 1 1]).run Tryz.prog (w.alloc (.cells #[.int .u64 (y : Int)] 27)) = .ok (.slice a n c) w7 ∧ Blk w7 O [.int .u64 dg, .int .u64 uk, nv, dv, sv] 49 ∧
      O3 d O dg uk w3 (w7.setCell ⟨O, 3, none⟩ (.slice a n c)) nv (.slice a n c) sv ns (ds ++ [y]) ss := by
  have hO := h.blk.lt
  obtain ⟨v', w7, hr, hI, hg, hat⟩ := word_app1 h.di y hl (by omega)
  obtain ⟨a, c, rfl⟩ := hI.form
  have hb7 : Blk w7 O [.int .u64 dg, .int .u64 uk, nv, dv, sv] 49 := (hg.block O hO (fun e => by have := (h.di.own O e.symm).1; omega)).trans h.blk
  have hk : ∀ b, b < w.heap.size → b ≠ O → dv.ownBlock ≠ some b → (w7.setCell ⟨O, 3, none⟩ (.slice a (ds ++ [y]).length c)).heap[b]? = w.heap[b]? := fun b hlt h1 h2 => by
    rw [Below.heap_setCell _ _ _ b (by show b ≠ O; exact h1)]
    exact hg.block b hlt fun e => h2 e.symm
  have hnew : ∀ b, (Value.slice a (ds ++ [y]).length c).ownBlock = some b → dv.ownBlock = some b ∨ w.heap.size ≤ b := fun b e => by
    rcases hat with e2 | ⟨b', e2, hb'⟩
    · rw [e2] at e; exact .inl e
    · rw [e2] at e; injection e with e; exact .inr (by omega)
  obtain ⟨S, s1, s2⟩ := h.si
  refine ⟨a, _, c, w7, hr, hb7, (h.below.trans ?_).setCell (Nat.le_refl _) _, by simpa using hb7.set 3 (.slice a (ds ++ [y]).length c), ?_, ?_, ⟨S, ?_, fun b hS => ?_⟩, fun b e => ⟨fun e2 => ?_, (h.a1 b e).2⟩, fun b e => ?_⟩
  · exact ⟨hg.os, hg.tape, hg.output, hg.size, fun b hb => hg.block b (by omega) fun e => by have := (h.di.own b e.symm).1; omega⟩
  · exact h.ni.keep' fun b e => hk b (h.ni.own' b e).2 (by have := (h.ni.own' b e).1; omega) (h.a1 b e).1
  · exact hI.keep fun b e => Below.heap_setCell _ _ _ b (by show b ≠ O; have := (hI.own b e).1; omega)
  · refine s1.later (fun b hlt hc => ?_) (by have := hg.size; simpa using this)
    rcases hc with hc | hc
    · have := s2 b hc; exact hk b hlt (by omega) this.2.2.2
    · exact hk b hlt (by have := (s1.own b hc).1; omega) fun e2 => h.a2 b e2 hc
  · have := s2 b hS
    refine ⟨this.1, by have := hg.size; simp; omega, this.2.2.1, fun e => ?_⟩
    rcases hnew b e with e2 | e2
    · exact this.2.2.2 e2
    · omega
  · rcases hnew b e2 with e3 | e3
    · exact (h.a1 b e).1 e3
    · have := (h.ni.own' b e).2; omega
  · rcases hnew b e with e2 | e2
    · exact h.a2 b e2
    · intro e3; have := (s1.own b e3).2; omega
/-- a line's sheets: T the blocks of these -/
theorem O3.sub (h : O3 d O dg uk w3 w nv dv sv ns ds ss) (u : Value) (hu : u.oneCell' = true) (x : Option (Sh d)) (lo : Nat) (hlo : O + 1 ≤ lo) (hn : ∀ b, lo ≤ b → nv.ownBlock ≠ some b ∧ dv.ownBlock ≠ some b ∧ sv.ownBlock ≠ some b)
    (hx : ∀ w', (∀ b, b < w.heap.size → lo ≤ b → w'.heap[b]? = w.heap[b]?) → OptP (RShAt d) w' [u] x) (hl : ss.length ≤ 1099511627776) :
    ∃ a n c w7, (Builtin.append_ #[47, 47] 47 #[sv, .slice (some ⟨w.heap.size, 0, none⟩) 1 1]).run Tryz.prog (w.alloc (.cells #[u] 93)) = .ok (.slice a n c) w7 ∧ Blk w7 O [.int .u64 dg, .int .u64 uk, nv, dv, sv] 49 ∧
      O3 d O dg uk w3 (w7.setCell ⟨O, 4, none⟩ (.slice a n c)) nv dv (.slice a n c) ns ds (ss ++ [x]) := by
  have hO := h.blk.lt
  obtain ⟨S, s1, s2⟩ := h.si
  obtain ⟨S', hS'⟩ : ∃ S' : Nat → Prop, S' = fun b => S b ∨ (lo ≤ b ∧ b < w.heap.size) := ⟨_, rfl⟩
  have s1' : RowsOnS S' (OptP (RShAt d)) 93 1 (O + 1) w sv ss := by
    obtain ⟨rows, r1, r2, r3, r4⟩ := s1
    refine ⟨rows, r1, r2, r3, fun w' hw' => r4 w' fun b hb hne hS => hw' b hb hne ?_⟩
    rw [hS']; exact .inl hS
  obtain ⟨v', w7, hr, hI, hg0, hat⟩ := s1'.append (by decide) (G := Tryz.prog) 47 (.slice none 0 0) 24 Tryz.underlying47 info_rsheets rfl #[u] rfl (by intro y hy; simp at hy; subst hy; exact hu) x
    (fun w' hw' => hx w' fun b hb hc => hw' b hb (hn b hc).2.2 (by rw [hS']; exact .inr ⟨hc, hb⟩)) hl (by decide) (by omega)
  obtain ⟨a, c, rfl⟩ := hI.form
  have hg : w.grownBy w7 sv.ownBlock := ⟨hg0.os, hg0.tape, hg0.output, Nat.le_trans (by simp) hg0.size, fun k hk h2 => (hg0.block k (by simp; omega) h2).trans (Below.heap_alloc w _ k hk)⟩
  have hb7 : Blk w7 O [.int .u64 dg, .int .u64 uk, nv, dv, sv] 49 := (hg.block O hO (fun e => by have := (s1.own O e.symm).1; omega)).trans h.blk
  have hk : ∀ b, b < w.heap.size → b ≠ O → sv.ownBlock ≠ some b → (w7.setCell ⟨O, 4, none⟩ (.slice a (ss ++ [x]).length c)).heap[b]? = w.heap[b]? := fun b hlt h1 h2 => by
    rw [Below.heap_setCell _ _ _ b (by show b ≠ O; exact h1)]
    exact hg.block b hlt fun e => h2 e.symm
  have hnew : ∀ b, (Value.slice a (ss ++ [x]).length c).ownBlock = some b → sv.ownBlock = some b ∨ w.heap.size ≤ b := fun b e => by
    rcases hat with e2 | e2
    · rw [e2] at e; exact .inl e
    · rw [e2] at e; injection e with e; simp at e; exact .inr (by omega)
  refine ⟨a, _, c, w7, hr, hb7, (h.below.trans ?_).setCell (Nat.le_refl _) _, by simpa using hb7.set 4 (.slice a (ss ++ [x]).length c), ?_, ?_, ⟨S', ?_, fun b hS => ?_⟩, fun b e => ⟨(h.a1 b e).1, fun e2 => ?_⟩, fun b e e2 => ?_⟩
  · exact ⟨hg.os, hg.tape, hg.output, hg.size, fun b hb => hg.block b (by omega) fun e => by have := (s1.own b e.symm).1; omega⟩
  · exact h.ni.keep' fun b e => hk b (h.ni.own' b e).2 (by have := (h.ni.own' b e).1; omega) (h.a1 b e).2
  · exact h.di.keep fun b e => hk b (h.di.own b e).2 (by have := (h.di.own b e).1; omega) (h.a2 b e)
  · refine hI.later (fun b hlt hc => Below.heap_setCell _ _ _ b ?_) (by simp)
    show b ≠ O
    rcases hc with hc | hc
    · rw [hS'] at hc
      rcases hc with hc | hc
      · have := s2 b hc; omega
      · omega
    · have := (hI.own b hc).1; omega
  · rw [hS'] at hS
    have hsz := hg.size
    rcases hS with hS | hS
    · have := s2 b hS; exact ⟨this.1, by simp; omega, this.2.2⟩
    · exact ⟨by omega, by simp; omega, (hn b hS.1).1, (hn b hS.1).2.1⟩
  · rcases hnew b e2 with e3 | e3
    · exact (h.a1 b e).2 e3
    · have := (h.ni.own' b e).2; omega
  · rcases hnew b e2 with e3 | e3
    · exact h.a2 b e e3
    · have := (h.di.own b e).2; omega
/-- the sheet that has been built -/
theorem O3.done {ls : List (Lin (Sh d))} (h : O3 d O dg uk w3 w nv dv sv (ls.map Lin.num) (ls.map Lin.dig) (ls.map Lin.sub)) (hl : ls.length ≤ 1099511627776) (h1 : ∀ l ∈ ls, i64ok l.num) (h2 : ∀ l ∈ ls, l.dig < 2 ^ 64) {w' : World} (hw : ∀ b, b < w.heap.size → O + 1 ≤ b → w'.heap[b]? = w.heap[b]?) :
    RShAt (d + 1) w' (.agg #[.int .u64 dg, .int .u64 uk, nv, dv, sv]) (⟨dg, uk, ls⟩ : Shd (Sh d)) := by
  obtain ⟨S, s1, s2⟩ := h.si
  have e1 := h.ni.keep' (w' := w') fun b e => hw b (h.ni.own' b e).2 (h.ni.own' b e).1
  have e2 := h.di.keep (w' := w') fun b e => hw b (h.di.own b e).2 (h.di.own b e).1
  have e3 := s1.at (by rw [List.length_map]; omega) (w' := w') fun b hb hc => hw b hb (by
    rcases hc with hc | hc
    · exact (s2 b hc).1
    · exact (s1.own b hc).1)
  exact ⟨nv, dv, sv, rfl, e1.ints (by rw [List.length_map]; omega) (fun x hx => by obtain ⟨l, hl', rfl⟩ := List.mem_map.1 hx; exact h1 l hl'), e2.words (by rw [List.length_map]; omega) (fun x hx => by obtain ⟨l, hl', rfl⟩ := List.mem_map.1 hx; exact h2 l hl'), e3⟩
end Go.Proofs.YtbcpeckmnmhfhaaGreat
namespace Go.Proofs.YtbcpeckmnmhfhaaGreat
open Go.RowKit
/-- a record: its field's place, whether it is a run, its value, all its bytes -/
structure AR where
  k : Int
  run : Bool
  val : List UInt8
  whole : List UInt8
end Go.Proofs.YtbcpeckmnmhfhaaGreat
namespace Go.Proofs.YtbcpeckmnmhfhaaGreat
open Go.RowKit
end Go.Proofs.YtbcpeckmnmhfhaaGreat
namespace Go.Proofs.YtbcpeckmnmhfhaaGreat
open Go.RowKit
end Go.Proofs.YtbcpeckmnmhfhaaGreat
namespace Go.Proofs.YtbcpeckmnmhfhaaGreat
open Go.RowKit
end Go.Proofs.YtbcpeckmnmhfhaaGreat
namespace Go.Proofs.YtbcpeckmnmhfhaaGreat
open Go.RowKit
end Go.Proofs.YtbcpeckmnmhfhaaGreat
namespace Go.Proofs.YtbcpeckmnmhfhaaGreat
open Go.RowKit
set_option maxRecDepth 100000 in
set_option maxHeartbeats 4000000 in
theorem ref14_Many (num : Int) (a1 a2 a3 : Option Addr) (n1 n2 n3 c1 c2 c3 : Nat) (h1 : n1 ≤ 140737488355328) (h2 : n2 ≤ 140737488355328) (h3 : n3 ≤ 140737488355328) (w : World) :
    Calls Tryz.prog 29 #[.agg #[.int .i64 num, .slice a1 n1 c1, .slice a2 n2 c2, .slice a3 n3 c3]] w fun e w' => e = .returned (.int .i64 ((n1 + n2 + n3 : Nat) : Int)) ∧ Below w.heap.size w w' := by
  go_enter Tryz.func29, Tryz.ntmps29
  go_wp2
  go_ret
  exact ⟨ret1 (int_eq (by omega)), by (repeat (first | with_reducible exact Below.refl _ _ | with_reducible refine Below.setCell ?_ (by first | omega | (simp; omega) | (simp; done)) _ | with_reducible refine Below.alloc ?_ (by first | omega | (simp; omega) | (simp; done)) _ | with_reducible refine below_drewN ?_ _ | with_reducible refine Below.drew ?_))⟩
end Go.Proofs.YtbcpeckmnmhfhaaGreat
