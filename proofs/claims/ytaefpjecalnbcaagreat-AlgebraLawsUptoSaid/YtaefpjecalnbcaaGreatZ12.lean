/- darninglaw14.Of, OfValue: a copy of any meaning, that reads the same in each world that agrees on what was there at the start and on what the call has laid. The canonical words of a number's kind: bits.Low32, Sign32, Wide32, darningref01.Wide, Sign32, kind.Canon, darningref06.Canon: kcanon. Plain law: the bytes of words, records and meanings, and which meanings are right. No program in sight. No condition. Plain laws: the values of a meaning by their numbers (getV, putV, delV); two meanings joined (joinM). No condition. -/
import Derived.Test.YtaefpjecalnbcaaGreatZ09
import Derived.Test.YtaefpjecalnbcaaGreatZ10
import Derived.Test.YtaefpjecalnbcaaGreatZ11
import Derived.Deep.RegionLaw
namespace Go.Proofs.YtaefpjecalnbcaaGreat
open Go.RowKit Go.Shelf
def SubP (d : Nat) (w : World) (r : List Value) (x : M d) : Prop := MsgAt d w (.agg r.toArray) x
def ValP' (d : Nat) (w : World) (r : List Value) (x : Val (M d)) : Prop := ValAt (MsgAt d) w (.agg r.toArray) x
/-- agreement carries the cells of the start -/
theorem keep_apart {n base : Nat} {w0 w' w2 : World} (hn : n = w0.heap.size) (hb : Below n w0 w') (h : ∀ b, b < w'.heap.size → (b < n ∨ base ≤ b) → w2.heap[b]? = w'.heap[b]?) : ∀ p u, w0.cell? p = some u → w2.cell? p = some u := by
  intro p u hu
  have hp : p.block < w0.heap.size := World.block_lt_of_cell? w0 p hu
  have h1 := hb.size
  rw [World.cell?_of_block (h p.block (by omega) (.inl (by omega))), World.cell?_of_block (hb.block p.block (by omega))]
  exact hu
theorem news3 (w : World) (c1 c2 c3 : List Value) (T1 T2 T3 : TypeId) :
    Blk (((w.alloc (.cells c1.toArray T1)).alloc (.cells c2.toArray T2)).alloc (.cells c3.toArray T3)) w.heap.size c1 T1 ∧
    Blk (((w.alloc (.cells c1.toArray T1)).alloc (.cells c2.toArray T2)).alloc (.cells c3.toArray T3)) (w.heap.size + 1) c2 T2 ∧
    Blk (((w.alloc (.cells c1.toArray T1)).alloc (.cells c2.toArray T2)).alloc (.cells c3.toArray T3)) (w.heap.size + 1 + 1) c3 T3 ∧
    (((w.alloc (.cells c1.toArray T1)).alloc (.cells c2.toArray T2)).alloc (.cells c3.toArray T3)).heap.size = w.heap.size + 1 + 1 + 1 ∧
    Below w.heap.size w (((w.alloc (.cells c1.toArray T1)).alloc (.cells c2.toArray T2)).alloc (.cells c3.toArray T3)) := by
  have e : ∀ (w : World) (o : Obj), (w.alloc o).heap.size = w.heap.size + 1 := fun w o => by simp
  refine ⟨((Blk.new w c1 T1).alloc _).alloc _, ?_, ?_, by rw [e, e, e], (((Below.refl _ _).alloc (Nat.le_refl _) _).alloc (by rw [e]; omega) _).alloc (by rw [e, e]; omega) _⟩
  · have := (Blk.new (w.alloc (.cells c1.toArray T1)) c2 T2).alloc (.cells c3.toArray T3)
    rw [e] at this
    exact this
  · have := Blk.new ((w.alloc (.cells c1.toArray T1)).alloc (.cells c2.toArray T2)) c3 T3
    rw [e, e] at this
    exact this
theorem MsgAt.form : ∀ {d : Nat} {w : World} {v : Value} {x : M d}, MsgAt d w v x → ∃ a1 n1 c1 a2 n2 c2, v = .agg #[.slice a1 n1 c1, .slice a2 n2 c2]
  | 0, _, _, _, h => h.elim
  | d + 1, _, _, _, h => by
    obtain ⟨vv, uv, rfl, hV, hU⟩ := h
    obtain ⟨-, va, vc, rfl, -, -⟩ := hV.open
    obtain ⟨-, ua, uc, rfl, -, -⟩ := hU.open
    exact ⟨_, _, _, _, _, _, rfl⟩
theorem mwt_pos : ∀ {d : Nat} (x : M d), 1 ≤ mwt d x
  | 0, x => x.elim
  | d + 1, x => by show 1 ≤ 1 + _ + _; omega
theorem sub_count {d' : Nat} : ∀ (l : List (M d')) (d : Nat), d = d' → l.length ≤ (l.map (mwt d')).sum
  | [], _, _ => by simp
  | x :: t, d, h => by
    have := sub_count t d h
    have := mwt_pos x
    rw [List.map_cons, List.sum_cons, List.length_cons]
    omega
end Go.Proofs.YtaefpjecalnbcaaGreat
namespace Go.Proofs.YtaefpjecalnbcaaGreat
open Go.RowKit
def s32 (x : Nat) : Int := if x % 4294967296 < 2147483648 then ((x % 4294967296 : Nat) : Int) else ((x % 4294967296 : Nat) : Int) - 4294967296
def w32 (x : Nat) : Nat := if x % 4294967296 < 2147483648 then x % 4294967296 else x % 4294967296 + 18446744069414584320
def kcanon (k : Int) (x : Nat) : Nat := if k = 1 ∨ k = 8 then w32 x else if k = 7 then (if 0 < x then 1 else 0) else if k = 3 ∨ k = 5 ∨ k = 9 ∨ k = 10 ∨ k = 11 then x % 4294967296 else x
theorem w32_lt (x : Nat) : w32 x < 2 ^ 64 := by unfold w32; split <;> omega
theorem kcanon_lt (k : Int) {x : Nat} (h : x < 2 ^ 64) : kcanon k x < 2 ^ 64 := by
  unfold kcanon
  have := w32_lt x
  split
  · exact this
  · split
    · split <;> omega
    · split <;> omega
set_option maxRecDepth 100000 in
set_option maxHeartbeats 4000000 in
theorem bits_Low32 (x : Nat) (w : World) :
    Calls Tryz.prog 140 #[.int .u64 x] w fun e w' => e = .returned (.int .u32 ((x % 4294967296 : Nat) : Int)) ∧ w = w' := by
  go_enter Tryz.func140, Tryz.ntmps140
  go_wp2
  go_ret
  exact ⟨ret1 (int_eq (by omega)), rfl⟩
set_option maxRecDepth 100000 in
set_option maxHeartbeats 4000000 in
theorem bits_Sign32 (x : Nat) (w : World) :
    Calls Tryz.prog 138 #[.int .u64 x] w fun e w' => e = .returned (.int .i32 (s32 x)) ∧ w = w' := by
  have h : IntKind.i32.wrap ((x : Int) % 4294967296) = s32 x := by
    unfold s32
    simp [IntKind.wrap, IntKind.bits, IntKind.signed]
    split <;> split <;> omega
  go_enter Tryz.func138, Tryz.ntmps138
  go_wp2
  go_ret
  exact ⟨ret1 (int_eq (by first | exact h | rw [← h])), rfl⟩
set_option maxRecDepth 100000 in
set_option maxHeartbeats 4000000 in
theorem bits_Wide32 (x : Nat) (w : World) :
    Calls Tryz.prog 137 #[.int .i32 (s32 x)] w fun e w' => e = .returned (.int .u64 (w32 x)) ∧ w = w' := by
  have h : (s32 x) % 18446744073709551616 = (w32 x : Int) := by
    unfold s32 w32
    split <;> omega
  have h2 : -2147483648 ≤ s32 x ∧ s32 x < 2147483648 := by
    unfold s32
    split <;> omega
  generalize s32 x = z at *
  go_enter Tryz.func137, Tryz.ntmps137
  go_wp2
  go_ret
  exact ⟨ret1 (int_eq (by first | exact h | (rw [← h]; omega))), rfl⟩
end Go.Proofs.YtaefpjecalnbcaaGreat
namespace Go.Proofs.YtaefpjecalnbcaaGreat
open Go.RowKit
/-- Fits a value a field? R: is a meaning one of a message? -/
def fitsB {α : Type} (R : Int → α → Bool) (f : Fld) (x : Val α) : Bool :=
  if x.words.length + x.texts.length + x.subs.length = 0 ∨ 1 < x.words.length + x.texts.length + x.subs.length ∧ f.rep = false then false
  else if knumber f.kind = true then decide (x.texts.length = 0 ∧ x.subs.length = 0) && x.words.all fun w => decide (kcanon f.kind w = w)
  else if f.kind = 17 then decide (x.words.length = 0 ∧ x.texts.length = 0) && x.subs.all (R f.of)
  else if f.kind = 15 then decide (x.words.length = 0 ∧ x.subs.length = 0) && x.texts.all fun t => decide (ufirst t = t.length)
  else decide (f.kind = 16) && decide (x.words.length = 0 ∧ x.subs.length = 0)
/-- an unknown record of a message? -/
def strangeB (fs : List Fld) (t : List UInt8) : Bool := decide ((rnext t 0).2 = 0 ∧ (rnext t 0).1.to = t.length) && decide (fieldAt fs (rnext t 0).1.number < 0)
def valsB {α : Type} (F : Fld → Val α → Bool) (fs : List Fld) : List (Val α) → Int → Bool
  | [], _ => true
  | x :: r, last => if fieldAt fs x.num < 0 ∨ x.num ≤ last ∨ F (fs.getD (fieldAt fs x.num).toNat .zero) x = false then false else valsB F fs r x.num
def rightB (s : List Mes) : (d : Nat) → Int → M d → Bool
  | 0, _, _ => false
  | d + 1, root, x => if root < 0 ∨ (s.length : Int) ≤ root then false else
      valsB (fitsB (rightB s d)) (s.getD root.toNat .zero).fields (M.vals x) 0 && (M.unk x).all (strangeB (s.getD root.toNat .zero).fields)
end Go.Proofs.YtaefpjecalnbcaaGreat
namespace Go.Proofs.YtaefpjecalnbcaaGreat
open Go.RowKit
def getV {α : Type} (l : List (Val α)) (n : Int) : Option (Val α) := l.find? fun v => decide (v.num = n)
def RiseV {α : Type} (l : List (Val α)) : Prop := l.Pairwise fun a b => a.num < b.num
/-- ahead of the first whose number is not smaller; one of the same number goes -/
def putV {α : Type} (v : Val α) : List (Val α) → List (Val α)
  | [] => [v]
  | x :: r => if x.num < v.num then x :: putV v r else if x.num = v.num then v :: r else v :: x :: r
theorem getV_nil {α : Type} (n : Int) : getV ([] : List (Val α)) n = none := rfl
theorem getV_cons {α : Type} (x : Val α) (r : List (Val α)) (n : Int) : getV (x :: r) n = if x.num = n then some x else getV r n := by
  unfold getV
  rw [List.find?_cons]
  by_cases h : x.num = n
  · simp [h]
  · simp [h]
theorem getV_num {α : Type} {l : List (Val α)} {n : Int} {v : Val α} (h : getV l n = some v) : v.num = n ∧ v ∈ l := by
  have h1 := List.find?_some h
  exact ⟨by simpa using h1, List.mem_of_find?_eq_some h⟩
theorem RiseV.nodup {α : Type} {l : List (Val α)} (h : RiseV l) : (l.map (·.num)).Nodup := by
  unfold RiseV at h
  induction h with
  | nil => simp
  | cons h1 _ ih =>
    rw [List.map_cons, List.nodup_cons]
    refine ⟨fun hm => ?_, ih⟩
    obtain ⟨y, hy, e⟩ := List.mem_map.1 hm
    have := h1 y hy
    omega
theorem RiseV.tail {α : Type} {x : Val α} {r : List (Val α)} (h : RiseV (x :: r)) : RiseV r ∧ ∀ y ∈ r, x.num < y.num := by
  unfold RiseV at *
  rw [List.pairwise_cons] at h
  exact ⟨h.2, h.1⟩
theorem getV_mem {α : Type} {l : List (Val α)} (h : RiseV l) {v : Val α} (hv : v ∈ l) : getV l v.num = some v := by
  induction l with
  | nil => simp at hv
  | cons x r ih =>
    obtain ⟨h1, h2⟩ := h.tail
    rw [getV_cons]
    rcases List.mem_cons.1 hv with rfl | hv
    · rw [if_pos rfl]
    · rw [if_neg (by have := h2 v hv; omega)]
      exact ih h1 hv
theorem getV_low {α : Type} {l : List (Val α)} {n : Int} (h : ∀ y ∈ l, n < y.num) : getV l n = none := by
  unfold getV
  rw [List.find?_eq_none]
  intro y hy
  have := h y hy
  simp; omega
/-- values that rise are told by their numbers -/
theorem rise_ext {α : Type} : ∀ {a b : List (Val α)}, RiseV a → RiseV b → (∀ n, getV a n = getV b n) → a = b
  | [], [], _, _, _ => rfl
  | [], y :: t, _, _, h => by
    have := h y.num
    rw [getV_nil, getV_cons, if_pos rfl] at this
    cases this
  | x :: r, [], _, _, h => by
    have := h x.num
    rw [getV_nil, getV_cons, if_pos rfl] at this
    cases this
  | x :: r, y :: t, ha, hb, h => by
    obtain ⟨a1, a2⟩ := ha.tail
    obtain ⟨b1, b2⟩ := hb.tail
    have hx := h x.num
    have hy := h y.num
    rw [getV_cons, if_pos rfl] at hx
    rw [getV_cons (x := y), if_pos rfl] at hy
    have e : x.num = y.num := by
      obtain ⟨-, m1⟩ := getV_num hx.symm
      obtain ⟨-, m2⟩ := getV_num hy
      rcases List.mem_cons.1 m1 with e | m1
      · rw [e]
      · rcases List.mem_cons.1 m2 with e | m2
        · rw [e]
        · have := b2 x m1
          have := a2 y m2
          omega
    rw [getV_cons, if_pos e.symm] at hx
    injection hx with hx
    subst hx
    rw [rise_ext a1 b1 fun n => ?_]
    have := h n
    rw [getV_cons, getV_cons] at this
    by_cases hn : x.num = n
    · subst hn
      rw [getV_low a2, getV_low b2]
    · rwa [if_neg hn, if_neg hn] at this
theorem putV_mem {α : Type} {v y : Val α} : ∀ {l : List (Val α)}, y ∈ putV v l → y = v ∨ y ∈ l
  | [], h => by simp [putV] at h; exact .inl h
  | x :: r, h => by
    unfold putV at h
    split at h
    · rcases List.mem_cons.1 h with e | h
      · exact .inr (by simp [e])
      · rcases putV_mem h with e | h
        · exact .inl e
        · exact .inr (by simp [h])
    · split at h
      · rcases List.mem_cons.1 h with e | h
        · exact .inl e
        · exact .inr (by simp [h])
      · rcases List.mem_cons.1 h with e | h
        · exact .inl e
        · exact .inr h
theorem putV_rise {α : Type} {v : Val α} : ∀ {l : List (Val α)}, RiseV l → RiseV (putV v l)
  | [], _ => by simp [putV, RiseV]
  | x :: r, h => by
    obtain ⟨h1, h2⟩ := h.tail
    unfold putV
    split
    · rename_i hlt
      refine List.pairwise_cons.2 ⟨fun y hy => ?_, putV_rise h1⟩
      rcases putV_mem hy with e | hy
      · rw [e]; exact hlt
      · exact h2 y hy
    · split
      · rename_i e
        exact List.pairwise_cons.2 ⟨fun y hy => by have := h2 y hy; omega, h1⟩
      · refine List.pairwise_cons.2 ⟨fun y hy => ?_, h⟩
        rcases List.mem_cons.1 hy with e | hy
        · rw [e]; omega
        · have := h2 y hy; omega
theorem putV_get {α : Type} {v : Val α} : ∀ {l : List (Val α)}, RiseV l → ∀ n, getV (putV v l) n = if v.num = n then some v else getV l n
  | [], _, n => by simp [putV, getV_cons]
  | x :: r, h, n => by
    obtain ⟨h1, h2⟩ := h.tail
    unfold putV
    split
    · rename_i hlt
      rw [getV_cons, putV_get h1, getV_cons]
      by_cases e : x.num = n
      · rw [if_pos e, if_neg (by omega), if_pos e]
      · rw [if_neg e, if_neg e]
    · split
      · rename_i e
        rw [getV_cons, getV_cons]
        by_cases e2 : v.num = n
        · rw [if_pos e2, if_pos e2]
        · rw [if_neg e2, if_neg e2, if_neg (by omega)]
      · rw [getV_cons]
/-- two values of a field, joined -/
def bothV {α : Type} (J : Int → α → α → α) (f : Fld) (w v : Val α) : Val α :=
  if f.rep = true then ⟨v.num, w.words ++ v.words, w.texts ++ v.texts, w.subs ++ v.subs⟩
  else if f.kind = 17 then ⟨v.num, [], [], (w.subs.zip v.subs).take 1 |>.map fun p => J f.of p.1 p.2⟩ else v
theorem bothV_num {α : Type} (J : Int → α → α → α) (f : Fld) (w v : Val α) : (bothV J f w v).num = v.num := by
  unfold bothV
  split
  · rfl
  · split <;> rfl
/-- the value that v becomes beside those of a -/
def withV {α : Type} (g : Val α → Val α → Val α) (a : List (Val α)) (v : Val α) : Val α := match getV a v.num with | some w => g w v | none => v
theorem withV_num {α : Type} {g : Val α → Val α → Val α} (hg : ∀ w v, (g w v).num = v.num) (a : List (Val α)) (v : Val α) : (withV g a v).num = v.num := by
  unfold withV
  split
  · exact hg _ _
  · rfl
def joinV {α : Type} (g : Val α → Val α → Val α) (a b : List (Val α)) : List (Val α) := b.foldl (fun out v => putV (withV g a v) out) a
def joinM (s : List Mes) : (d : Nat) → Int → M d → M d → M d
  | 0, _, x, _ => x
  | d + 1, root, x, y => (⟨joinV (fun w v => bothV (joinM s d) ((s.getD root.toNat .zero).fields.getD (fieldAt (s.getD root.toNat .zero).fields v.num).toNat .zero) w v) (M.vals x) (M.vals y), M.unk x ++ M.unk y⟩ : Msgd (M d))
theorem fold_rise {α : Type} (k : Val α → Val α) : ∀ (b a : List (Val α)), RiseV a → RiseV (b.foldl (fun out v => putV (k v) out) a)
  | [], _, h => h
  | _x :: r, _a, h => fold_rise k r _ (putV_rise h)
theorem fold_get {α : Type} {k : Val α → Val α} (hk : ∀ v, (k v).num = v.num) : ∀ (b a : List (Val α)), RiseV a → RiseV b → ∀ n, getV (b.foldl (fun out v => putV (k v) out) a) n = match getV b n with | some v => some (k v) | none => getV a n
  | [], a, _, _, n => rfl
  | x :: r, a, ha, hb, n => by
    obtain ⟨b1, b2⟩ := hb.tail
    rw [List.foldl_cons, fold_get hk r _ (putV_rise ha) b1, getV_cons, putV_get ha, hk]
    by_cases e : x.num = n
    · subst e
      rw [getV_low b2, if_pos rfl, if_pos rfl]
    · rw [if_neg e, if_neg e]
theorem joinV_rise {α : Type} (g : Val α → Val α → Val α) {a b : List (Val α)} (ha : RiseV a) : RiseV (joinV g a b) := fold_rise _ _ _ ha
theorem joinV_get {α : Type} {g : Val α → Val α → Val α} (hg : ∀ w v, (g w v).num = v.num) {a b : List (Val α)} (ha : RiseV a) (hb : RiseV b) (n : Int) :
    getV (joinV g a b) n = match getV b n with | some v => some (withV g a v) | none => getV a n := fold_get (withV_num hg a) b a ha hb n
end Go.Proofs.YtaefpjecalnbcaaGreat
