/- darningref14.Of: what holds in a round for a record of a field (OfSt, OfMid); a message's call in it. No condition. Masks, in plain words: ways of numbers, their order, what a mask of ways is (the least ways that lie under no other one, in order), and that there is just one. -/
import Derived.Test.YtpckoeicbjfnhaaGreatDoorZ18
namespace Go.Proofs.YtpckoeicbjfnhaaGreatDoor
open Go.RowKit Go.Shelf
/-- the value's box, block F + 1 -/
def OfSt (W5 : World) (F : Nat) (s : List Mes) (d : Nat) (f : Fld) (l : List UInt8) (xs : List VW) (w : World) (j s1 s2 s3 : Value) : Prop :=
  Below (F + 1) W5 w ∧ Blk w (F + 1) [.int .i64 f.number, s1, s2, s3] 64 ∧ OfInv s d f l xs (F + 1 + 1) w j s1 s2 s3
/-- .. where a single field's last value is gone -/
def OfMid (W5 : World) (F : Nat) (s : List Mes) (d : Nat) (f : Fld) (l : List UInt8) (xs : List VW) (w : World) (j s1 s2 s3 : Value) : Prop :=
  Below (F + 1) W5 w ∧ Blk w (F + 1) [.int .i64 f.number, s1, s2, s3] 64 ∧
  (knumber f.kind = true → s2 = noneS ∧ s3 = noneS ∧ j = noneS ∧ WordsOwn w (F + 1 + 1) s1 (if f.rep = true then (counts f xs).flatMap (pieceW f l) else [])) ∧
  (f.kind = 17 → s1 = noneS ∧ s2 = noneS ∧
    (f.rep = true → j = noneS ∧ RowsOwn (SubP d) 39 2 0 (F + 1 + 1) w s3 (xs.flatMap fun x => tsub s d f.of (vbytes l x))) ∧
    (f.rep = false → s3 = noneS ∧ Own w (F + 1 + 1) j (xs.flatMap (vbytes l)))) ∧
  (knumber f.kind = false → f.kind ≠ 17 → s1 = noneS ∧ s3 = noneS ∧ j = noneS ∧ StrsOwn w (F + 1 + 1) s2 (if f.rep = true then (counts f xs).flatMap (pieceB f l) else []))
theorem OfSt.mid {W5 : World} {F : Nat} {s : List Mes} {d : Nat} {f : Fld} {l : List UInt8} {xs : List VW} {w : World} {j s1 s2 s3 : Value} (h : OfSt W5 F s d f l xs w j s1 s2 s3) (hr : f.rep = true) : OfMid W5 F s d f l xs w j s1 s2 s3 := by
  refine ⟨h.1, h.2.1, fun hk => ?_, fun h17 => ?_, fun hk h17 => ?_⟩
  · rw [if_pos hr]; exact h.2.2.1 hk
  · exact h.2.2.2.1 h17
  · rw [if_pos hr]; exact h.2.2.2.2 hk h17
/-- the words and the texts go -/
theorem OfSt.clear {W5 : World} {F : Nat} {s : List Mes} {d : Nat} {f : Fld} {l : List UInt8} {xs : List VW} {w : World} {j s1 s2 s3 : Value} (h : OfSt W5 F s d f l xs w j s1 s2 s3) (hr : f.rep = false) :
    OfMid W5 F s d f l xs ((w.setCell ⟨F + 1, 1, none⟩ noneS).setCell ⟨F + 1, 2, none⟩ noneS) j noneS noneS s3 := by
  have hne : ¬ f.rep = true := by simp [hr]
  have hk : ∀ b, F + 1 + 1 ≤ b → ((w.setCell ⟨F + 1, 1, none⟩ noneS).setCell ⟨F + 1, 2, none⟩ noneS).heap[b]? = w.heap[b]? := fun b hb => by
    rw [Below.heap_setCell _ _ _ b (by show b ≠ F + 1; omega), Below.heap_setCell _ _ _ b (by show b ≠ F + 1; omega)]
  have h2 := h.2.2.keep (w' := (w.setCell ⟨F + 1, 1, none⟩ noneS).setCell ⟨F + 1, 2, none⟩ noneS) (fun b hb _ => hk b hb) (by simp)
  refine ⟨(h.1.setCell (by show F + 1 ≤ F + 1; omega) _).setCell (by show F + 1 ≤ F + 1; omega) _, by simpa using (h.2.1.set 1 noneS).set 2 noneS, fun hk => ?_, fun h17 => ?_, fun hk h17 => ?_⟩
  · rw [if_neg hne]
    obtain ⟨-, g2, g3, -⟩ := h2.1 hk
    exact ⟨rfl, g2, g3, World.ownsRow_nil _ _ _ _⟩
  · obtain ⟨-, -, g3, g4⟩ := h2.2.1 h17
    exact ⟨rfl, rfl, g3, g4⟩
  · rw [if_neg hne]
    obtain ⟨-, g2, g3, -⟩ := h2.2.2 hk h17
    exact ⟨rfl, g2, g3, World.ownsRow_nil _ _ _ _⟩
/-- a list of the value grows -/
theorem box_push {W5 w w2 : World} {F size n : Nat} {e T : TypeId} {cs ys : List Value} {v : Value} (hB : Below (F + 1) W5 w) (hs : F + 1 + 1 ≤ w.heap.size) (hb : Blk w (F + 1) cs T) (ho : w.ownsRow (F + 1 + 1) e size v n ys) (hg : w.grownBy w2 v.ownBlock) : Below (F + 1) W5 w2 ∧ Blk w2 (F + 1) cs T :=
  ⟨hB.grown hg (by omega) (fun q e => by have := (World.ownsRow.lt ho q e).1; omega), (hg.block (F + 1) hb.lt (fun e => by have := (World.ownsRow.lt ho _ e.symm).1; omega)).trans hb⟩
theorem own_set {w : World} {F size n k : Nat} {e : TypeId} {ys : List Value} {v x : Value} (h : w.ownsRow (F + 1 + 1) e size v n ys) : (w.setCell ⟨F + 1, k, none⟩ x).ownsRow (F + 1 + 1) e size v n ys :=
  row_keep h fun b _ hb _ => Below.heap_setCell w _ _ b (by show b ≠ F + 1; omega)
theorem OfMid.num {W5 : World} {F : Nat} {s : List Mes} {d : Nat} {f : Fld} {l : List UInt8} {xs : List VW} {w w2 : World} {j s1 s2 s3 v2 : Value} {x : VW} (h : OfMid W5 F s d f l xs w j s1 s2 s3) (hk : knumber f.kind = true) (hg : Below (F + 1) W5 w2) (hb : Blk w2 (F + 1) [.int .i64 f.number, s1, s2, s3] 64)
    (hO : WordsOwn w2 (F + 1 + 1) v2 ((if f.rep = true then (counts f xs).flatMap (pieceW f l) else []) ++ pieceW f l x)) : OfSt W5 F s d f l (xs ++ [x]) (w2.setCell ⟨F + 1, 1, none⟩ v2) j v2 s2 s3 := by
  obtain ⟨rfl, rfl, rfl, -⟩ := h.2.2.1 hk
  exact ⟨hg.setCell (by show F + 1 ≤ F + 1; omega) _, by simpa using hb.set 1 v2, OfInv.num hk _ rfl (own_set hO)⟩
theorem OfMid.text {W5 : World} {F : Nat} {s : List Mes} {d : Nat} {f : Fld} {l : List UInt8} {xs : List VW} {w w2 : World} {j s1 s2 s3 v2 : Value} {x : VW} (h : OfMid W5 F s d f l xs w j s1 s2 s3) (hk : knumber f.kind = false) (h17 : f.kind ≠ 17) (hx : x.run = false) (hg : Below (F + 1) W5 w2) (hb : Blk w2 (F + 1) [.int .i64 f.number, s1, s2, s3] 64)
    (hO : StrsOwn w2 (F + 1 + 1) v2 ((if f.rep = true then (counts f xs).flatMap (pieceB f l) else []) ++ [vbytes l x])) : OfSt W5 F s d f l (xs ++ [x]) (w2.setCell ⟨F + 1, 2, none⟩ v2) j s1 v2 s3 := by
  obtain ⟨rfl, rfl, rfl, -⟩ := h.2.2.2.2 hk h17
  exact ⟨hg.setCell (by show F + 1 ≤ F + 1; omega) _, by simpa using hb.set 2 v2, OfInv.text hk h17 hx (own_set hO)⟩
theorem OfMid.sub {W5 : World} {F : Nat} {s : List Mes} {d : Nat} {f : Fld} {l : List UInt8} {xs : List VW} {w w2 : World} {j s1 s2 s3 v2 : Value} {x : VW} (h : OfMid W5 F s d f l xs w j s1 s2 s3) (h17 : f.kind = 17) (hr : f.rep = true) (hg : Below (F + 1) W5 w2) (hb : Blk w2 (F + 1) [.int .i64 f.number, s1, s2, s3] 64)
    (hO : RowsOwn (SubP d) 39 2 0 (F + 1 + 1) w2 v2 ((xs.flatMap fun x => tsub s d f.of (vbytes l x)) ++ tsub s d f.of (vbytes l x))) : OfSt W5 F s d f l (xs ++ [x]) (w2.setCell ⟨F + 1, 3, none⟩ v2) j s1 s2 v2 := by
  obtain ⟨rfl, rfl, g, -⟩ := h.2.2.2.1 h17
  obtain ⟨rfl, -⟩ := g hr
  refine ⟨hg.setCell (by show F + 1 ≤ F + 1; omega) _, by simpa using hb.set 3 v2, OfInv.sub h17 hr (hO.later (fun b _ hc => Below.heap_setCell w2 _ _ b ?_) (by simp))⟩
  show b ≠ F + 1
  omega
theorem OfMid.join {W5 : World} {F : Nat} {s : List Mes} {d : Nat} {f : Fld} {l : List UInt8} {xs : List VW} {w w2 : World} {j s1 s2 s3 v2 : Value} {x : VW} (h : OfMid W5 F s d f l xs w j s1 s2 s3) (h17 : f.kind = 17) (hr : f.rep = false) (hg : Below (F + 1) W5 w2) (hb : Blk w2 (F + 1) [.int .i64 f.number, s1, s2, s3] 64)
    (hO : Own w2 (F + 1 + 1) v2 (xs.flatMap (vbytes l) ++ vbytes l x)) : OfSt W5 F s d f l (xs ++ [x]) w2 v2 s1 s2 s3 := by
  obtain ⟨rfl, rfl, -, g⟩ := h.2.2.2.1 h17
  obtain ⟨rfl, -⟩ := g hr
  exact ⟨hg, hb, OfInv.join h17 hr hO⟩
theorem OfSt.drewN {W5 : World} {F : Nat} {s : List Mes} {d : Nat} {f : Fld} {l : List UInt8} {xs : List VW} {w : World} {j s1 s2 s3 : Value} (h : OfSt W5 F s d f l xs w j s1 s2 s3) (n : Nat) : OfSt W5 F s d f l xs (w.drewN n) j s1 s2 s3 :=
  ⟨below_drewN h.1 _, h.2.1, h.2.2⟩
theorem RowsOwn.rows {α : Type} {P : World → List Value → α → Prop} {T : TypeId} {k n0 base : Nat} {w : World} {v : Value} {l : List α} (h : RowsOwn P T k n0 base w v l) : ∃ n ys, w.ownsRow base T k v n ys := by
  obtain ⟨rows, -, -, h3, -⟩ := h
  exact ⟨_, _, h3⟩
/-- one text is appended -/
theorem OfMid.text_push {W5 : World} {F : Nat} {s : List Mes} {d : Nat} {f : Fld} {l : List UInt8} {xs : List VW} {w : World} {j s1 s2 s3 : Value} {x : VW} (h : OfMid W5 F s d f l xs w j s1 s2 s3) (hs : F + 1 + 1 ≤ w.heap.size) (hk : knumber f.kind = false) (h17 : f.kind ≠ 17) (hx : x.run = false)
    (ht : ∀ y ∈ xs, Thin y) (hl : vsum xs ≤ 1099511627776) {t : List UInt8} (htx : vbytes l x = t) :
    ∃ a5 n5 c5 w7, (Builtin.append_ #[25, 25] 25 #[s2, .slice (some ⟨w.heap.size, 0, none⟩) 1 1]).run Tryz.prog (w.alloc (.cells #[.string ⟨t.toArray⟩] 9)) = .ok (.slice a5 n5 c5) w7 ∧ Blk w7 (F + 1) [.int .i64 f.number, s1, s2, s3] 64 ∧
      OfSt W5 F s d f l (xs ++ [x]) (w7.setCell ⟨F + 1, 2, none⟩ (.slice a5 n5 c5)) j s1 (.slice a5 n5 c5) s3 := by
  obtain ⟨-, -, -, ho⟩ := h.2.2.2.2 hk h17
  have hb := texts_bound (f := f) (l := l) ht
  have hll : (if f.rep = true then (counts f xs).flatMap (pieceB f l) else []).length + 1 ≤ 1099511627777 := by
    split
    · omega
    · simp
  subst htx
  obtain ⟨v', w7, hr, hO, hg⟩ := ho.one (vbytes l x) hll hs
  obtain ⟨a5, c5, rfl⟩ := hO.form
  obtain ⟨g1, g2⟩ := box_push h.1 hs h.2.1 ho hg
  exact ⟨a5, _, c5, w7, hr, g2, OfMid.text h hk h17 hx g1 g2 hO⟩
/-- a message is appended -/
theorem OfMid.sub_push {W5 : World} {F : Nat} {s : List Mes} {d : Nat} {f : Fld} {l : List UInt8} {xs : List VW} {w w1 : World} {j s1 s2 : Value} {a3 : Option Addr} {n3 c3 : Nat} {x : VW} (h : OfMid W5 F s d f l xs w j s1 s2 (.slice a3 n3 c3)) (hs : F + 1 + 1 ≤ w.heap.size) (h17 : f.kind = 17) (hr : f.rep = true)
    (ht : ∀ y ∈ xs, Thin y) (hl : vsum xs ≤ 1099511627776) (hb : Below w.heap.size w w1) {u1 u2 : Value} (h1 : u1.oneCell' = true) (h2 : u2.oneCell' = true) {y : M d} (hy : tsub s d f.of (vbytes l x) = [y]) (hap : Apart 0 w.heap.size w1 fun w' => MsgAt d w' (.agg #[u1, u2]) y) :
    ∃ a5 c5 w5, (Builtin.append_ #[42, 42] 42 #[.slice a3 n3 c3, .slice (some ⟨w1.heap.size, 0, none⟩) 1 1]).run Tryz.prog (w1.alloc (.cells #[u1, u2] 39)) = .ok (.slice a5 (n3 + 1) c5) w5 ∧
      Below (F + 1 + 1) w (w1.alloc (.cells #[u1, u2] 39)) ∧ Below (F + 1 + 1) w w5 ∧
      OfSt W5 F s d f l (xs ++ [x]) (w5.setCell ⟨F + 1, 3, none⟩ (.slice a5 (n3 + 1) c5)) j s1 s2 (.slice a5 (n3 + 1) c5) := by
  obtain ⟨-, -, g, -⟩ := h.2.2.2.1 h17
  obtain ⟨-, ho⟩ := g hr
  have hbd := subs_bound (s := s) (d := d) (o := f.of) (l := l) ht
  obtain ⟨a', c', he⟩ := ho.form
  have hn3 : (xs.flatMap fun x => tsub s d f.of (vbytes l x)).length = n3 := by cases he; rfl
  obtain ⟨a5, c5, w5, hr5, hO5, hB4, hB5⟩ := RowsOwn.step ho hb (by decide) (Nat.zero_le _) hs hn3 42 _ 48 Tryz.underlying42 info_rmsg rfl #[u1, u2] rfl (by intro u hu; simp at hu; rcases hu with rfl | rfl <;> assumption) y hap (by omega) (by decide)
  refine ⟨a5, c5, w5, hr5, hB4, hB5, OfMid.sub h h17 hr (h.1.trans (hB5.mono (by omega))) ((hB5.block (F + 1) (by omega)).trans h.2.1) ?_⟩
  rw [hy]; exact hO5
/-- a message's call of a field of messages -/
def SubCall (w0 : World) (sv : Value) (s : List Mes) (d : Nat) (f : Fld) : Prop := ∀ (W : World) (v : Value) (b : List UInt8), Below w0.heap.size w0 W → Bytes W v b → b.length ≤ 1099511627776 → SubOk s d f.of b →
    Calls Tryz.prog 21 #[sv, .int .i64 f.of, v] W fun e w' => ∃ v' y, tsub s d f.of b = [y] ∧ e = .returned v' ∧ Below W.heap.size W w' ∧ Apart 0 W.heap.size w' fun w2 => MsgAt d w2 v' y
theorem SubCall.at {w0 : World} {sv : Value} {s : List Mes} {d : Nat} {f : Fld} (h : SubCall w0 sv s d f) {W : World} {v : Value} {b : List UInt8} (h1 : Below w0.heap.size w0 W) (h2 : Bytes W v b) (h3 : b.length ≤ 1099511627776) (h4 : SubOk s d f.of b) {o : Int} (ho : o = f.of) :
    Hid (Calls Tryz.prog 21 #[sv, .int .i64 o, v] W fun e w' => ∃ u1 u2 y, (u1.oneCell' = true ∧ u2.oneCell' = true) ∧ tsub s d f.of b = [y] ∧ e = .returned (.agg #[u1, u2]) ∧ Below W.heap.size W w' ∧ Apart 0 W.heap.size w' fun w2 => MsgAt d w2 (.agg #[u1, u2]) y) := by
  subst ho
  refine (h W v b h1 h2 h3 h4).mono ?_
  rintro e w' ⟨v', y, g1, rfl, g2, g3⟩
  obtain ⟨a1, n1, c1, a2, n2, c2, rfl⟩ := g3.here.form
  exact ⟨_, _, y, ⟨rfl, rfl⟩, g1, rfl, g2, g3⟩
theorem field_recs' {s : List Mes} (hs : sright s = true) {d m : Nat} {l : List UInt8} (hm : m < s.length) (h : (vmsg s d m l).2 = 0) {fs : List Fld} (hfs : fs = (s.getD m .zero).fields) {q : Nat} (hq : q < fs.length) {f : Fld} (hf : f = fs.getD q .zero) {all : List VW} (ha : all = (vall fs l).1) :
    Hid (FieldRecs (SubOk s d) f l (viewsOf all (q : Int))) := by
  subst ha; subst hf; subst hfs; exact field_recs hs hm h hq
/-- how many things a value in memory has -/
theorem val_many {d : Nat} {w : World} {num : Int} {a1 a2 a3 : Option Addr} {n1 n2 n3 c1 c2 c3 : Nat} {x : Val (M d)} (h : ValP' d w [.int .i64 num, .slice a1 n1 c1, .slice a2 n2 c2, .slice a3 n3 c3] x) : n1 + n2 + n3 = many x ∧ n1 ≤ 140737488355328 ∧ n2 ≤ 140737488355328 ∧ n3 ≤ 140737488355328 := by
  obtain ⟨wv, tv, sv, he, -, hW, hT, hS⟩ := h
  obtain ⟨h1, _, _, e1, -⟩ := hW.open
  obtain ⟨h2, _, _, e2, -⟩ := hT.open
  obtain ⟨h3, _, _, e3, -⟩ := hS.open
  subst e1; subst e2; subst e3
  simp at he
  obtain ⟨-, ⟨-, e1, -⟩, ⟨-, e2, -⟩, -, e3, -⟩ := he
  unfold many
  omega
end Go.Proofs.YtpckoeicbjfnhaaGreatDoor
namespace Go.Proofs.YtpckoeicbjfnhaaGreatDoor
/-- does a way come first? -/
def ltW : List Int → List Int → Bool
  | [], [] => false
  | [], _ :: _ => true
  | _ :: _, [] => false
  | x :: a, y :: b => if x = y then ltW a b else decide (x < y)
theorem ltW_irrefl : ∀ a, ltW a a = false
  | [] => rfl
  | x :: a => by simp [ltW, ltW_irrefl a]
theorem ltW_trans : ∀ a b c, ltW a b = true → ltW b c = true → ltW a c = true
  | [], b, [] => by cases b <;> simp [ltW]
  | [], _, _ :: _ => by simp [ltW]
  | _ :: _, [], _ => by simp [ltW]
  | _ :: _, _ :: _, [] => by simp [ltW]
  | x :: a, y :: b, z :: c => by
    have ih := ltW_trans a b c
    simp only [ltW]
    by_cases h1 : x = y
    · subst h1
      by_cases h2 : x = z
      · subst h2; simpa using ih
      · simp only [if_true, if_neg h2, decide_eq_true_eq]; intro _ h; exact h
    · by_cases h2 : y = z
      · subst h2
        simp only [if_true, if_neg h1, decide_eq_true_eq]
        intro h _; exact h
      · by_cases h3 : x = z
        · subst h3
          simp only [if_neg h1, if_neg h2, decide_eq_true_eq]
          intro h h'; omega
        · simp only [if_neg h1, if_neg h2, if_neg h3, decide_eq_true_eq]
          intro h h'; omega
theorem ltW_total : ∀ a b, ltW a b = false → ltW b a = false → a = b
  | [], [] => fun _ _ => rfl
  | [], _ :: _ => by simp [ltW]
  | _ :: _, [] => by simp [ltW]
  | x :: a, y :: b => by
    have ih := ltW_total a b
    simp only [ltW]
    by_cases h1 : x = y
    · subst h1; simp only [if_true]; intro h h'; rw [ih h h']
    · simp only [if_neg h1, if_neg (fun e : y = x => h1 e.symm), decide_eq_false_iff_not]
      intro h h'; omega
/-- begins a way with another one? -/
def beginsW (way pre : List Int) : Bool := decide (pre.length ≤ way.length) && decide (way.take pre.length = pre)
theorem beginsW_iff (way pre : List Int) : beginsW way pre = true ↔ pre <+: way := by
  unfold beginsW
  rw [List.prefix_iff_eq_take]
  simp only [Bool.and_eq_true, decide_eq_true_eq]
  constructor
  · rintro ⟨_, h⟩; exact h.symm
  · intro h
    refine ⟨?_, h.symm⟩
    have h2 := congrArg List.length h
    simp at h2
    omega
/-- what lies between a way and one under it lies under it -/
theorem prefix_between : ∀ u v w : List Int, u <+: w → ltW v u = false → ltW w v = false → u <+: v
  | [], v, _, _, _, _ => List.nil_prefix
  | _ :: _, _, [], h, _, _ => by simp at h
  | x :: u, [], z :: w, h, h1, _ => by simp [ltW] at h1
  | x :: u, y :: v, z :: w, h, h1, h2 => by
    rw [List.cons_prefix_cons] at h
    obtain ⟨rfl, h⟩ := h
    by_cases e : x = y
    · subst e
      simp only [ltW, if_true] at h1 h2
      rw [List.cons_prefix_cons]
      exact ⟨rfl, prefix_between u v w h h1 h2⟩
    · simp only [ltW, if_neg e, if_neg (fun e' : y = x => e e'.symm), decide_eq_false_iff_not] at h1 h2
      omega
theorem ltW_prefix : ∀ u w : List Int, u <+: w → ltW w u = false
  | [], [], _ => rfl
  | [], _ :: _, _ => rfl
  | _ :: _, [], h => by simp at h
  | x :: u, z :: w, h => by
    rw [List.cons_prefix_cons] at h
    obtain ⟨rfl, h⟩ := h
    simpa [ltW] using ltW_prefix u w h
/-- of ways, the ones that lie under no other one -/
def Least (l : List (List Int)) (w : List Int) : Prop := w ∈ l ∧ w ≠ [] ∧ ∀ u ∈ l, u ≠ [] → u <+: w → u = w
/-- a mask of ways -/
def IsMask (l o : List (List Int)) : Prop := o.Pairwise (fun a b => ltW a b = true) ∧ ∀ w, w ∈ o ↔ Least l w
theorem sorted_same : ∀ {a b : List (List Int)}, a.Pairwise (fun a b => ltW a b = true) → b.Pairwise (fun a b => ltW a b = true) → (∀ w, w ∈ a ↔ w ∈ b) → a = b
  | [], [], _, _, _ => rfl
  | [], y :: b, _, _, h => absurd ((h y).2 (by simp)) (by simp)
  | x :: a, [], _, _, h => absurd ((h x).1 (by simp)) (by simp)
  | x :: a, y :: b, ha, hb, h => by
    rw [List.pairwise_cons] at ha hb
    have hxy : x = y := by
      have h1 := (h x).1 (by simp)
      have h2 := (h y).2 (by simp)
      rcases List.mem_cons.1 h1 with e | h1
      · exact e
      rcases List.mem_cons.1 h2 with e | h2
      · exact e.symm
      have h3 := ltW_trans _ _ _ (ha.1 y h2) (hb.1 x h1)
      rw [ltW_irrefl] at h3
      cases h3
    subst hxy
    have hab : ∀ w, w ∈ a ↔ w ∈ b := fun w => by
      constructor
      · intro hw
        rcases List.mem_cons.1 ((h w).1 (by simp [hw])) with e | hb'
        · subst e
          have := ha.1 w hw
          rw [ltW_irrefl] at this; cases this
        · exact hb'
      · intro hw
        rcases List.mem_cons.1 ((h w).2 (by simp [hw])) with e | hb'
        · subst e
          have := hb.1 w hw
          rw [ltW_irrefl] at this; cases this
        · exact hb'
    rw [sorted_same ha.2 hb.2 hab]
theorem IsMask.one {l a b : List (List Int)} (ha : IsMask l a) (hb : IsMask l b) : a = b :=
  sorted_same ha.1 hb.1 fun w => (ha.2 w).trans (hb.2 w).symm
/-- the program's way: over the ways in order, each that doesn't lie under the last one taken -/
def sieveW (o : List (List Int)) : List (List Int) → List (List Int)
  | [] => o
  | w :: r => sieveW (if w = [] ∨ (∃ u, o.getLast? = some u ∧ u <+: w) then o else o ++ [w]) r
/-- what holds of what is taken (o) of the ways gone through (l) -/
def Taken (l o : List (List Int)) : Prop :=
  o.Pairwise (fun a b => ltW a b = true) ∧ (∀ w ∈ o, w ∈ l ∧ w ≠ []) ∧ (∀ w ∈ l, w ≠ [] → ∃ u ∈ o, u <+: w) ∧ ∀ u ∈ o, ∀ v ∈ o, u <+: v → u = v
theorem Taken.mask {l o : List (List Int)} (h : Taken l o) : IsMask l o := by
  obtain ⟨h1, h2, h3, h4⟩ := h
  refine ⟨h1, fun w => ⟨fun hw => ⟨(h2 w hw).1, (h2 w hw).2, fun u hu hn hp => ?_⟩, fun ⟨hw, hn, hl⟩ => ?_⟩⟩
  · obtain ⟨v, hv, hvu⟩ := h3 u hu hn
    have e := h4 v hv w hw (hvu.trans hp)
    subst e
    exact hp.eq_of_length_le hvu.length_le
  · obtain ⟨v, hv, hvw⟩ := h3 w hw hn
    have e := hl v (h2 v hv).1 (h2 v hv).2 hvw
    subst e
    exact hv
theorem last_most {o : List (List Int)} (h : o.Pairwise (fun a b => ltW a b = true)) {u v : List Int} (hu : u ∈ o) (hv : o.getLast? = some v) : u = v ∨ ltW u v = true := by
  obtain ⟨r, rfl⟩ : ∃ r, o = r ++ [v] := by
    rw [List.getLast?_eq_some_iff] at hv
    exact hv
  rcases List.mem_append.1 hu with h1 | h1
  · exact .inr ((List.pairwise_append.1 h).2.2 u h1 v (by simp))
  · exact .inl (by simpa using h1)
theorem sieve_taken : ∀ (r l o : List (List Int)), Taken l o → r.Pairwise (fun a b => ltW b a = false) → (∀ w ∈ l, ∀ v ∈ r, ltW v w = false) → Taken (l ++ r) (sieveW o r)
  | [], l, o, h, _, _ => by simpa [sieveW] using h
  | w :: r, l, o, h, hr, hl => by
    have hr' := List.pairwise_cons.1 hr
    rw [sieveW, show l ++ w :: r = (l ++ [w]) ++ r by simp]
    refine sieve_taken r (l ++ [w]) _ ?_ hr'.2 ?_
    · obtain ⟨h1, h2, h3, h4⟩ := h
      split
      · rename_i hc
        refine ⟨h1, fun v hv => ⟨by simp [(h2 v hv).1], (h2 v hv).2⟩, fun v hv hn => ?_, h4⟩
        rcases List.mem_append.1 hv with hv | hv
        · exact h3 v hv hn
        · simp at hv
          subst hv
          rcases hc with e | ⟨u, hu, hp⟩
          · exact absurd e hn
          · exact ⟨u, List.mem_of_getLast? hu, hp⟩
      · rename_i hc
        simp only [not_or, not_exists, not_and] at hc
        -- none that is taken begins w
        have hno : ∀ u ∈ o, ¬ u <+: w := by
          intro u hu hp
          have hne : o ≠ [] := fun e => by subst e; simp at hu
          have hg : o.getLast? = some (o.getLast hne) := List.getLast?_eq_some_getLast hne
          have hgm := List.getLast_mem hne
          rcases last_most h1 hu hg with e | hlt
          · exact hc.2 _ hg (e ▸ hp)
          · have hp2 : u <+: o.getLast hne := by
              refine prefix_between _ _ _ hp ?_ (hl _ (h2 _ hgm).1 w (by simp))
              cases hx : ltW (o.getLast hne) u with
              | false => rfl
              | true =>
                have := ltW_trans _ _ _ hlt hx
                rw [ltW_irrefl] at this; cases this
            have e := h4 u hu _ hgm hp2
            rw [← e, ltW_irrefl] at hlt
            cases hlt
        have hnb : ∀ u ∈ o, ltW u w = true := by
          intro u hu
          cases hx : ltW u w with
          | true => rfl
          | false =>
            have e := ltW_total u w hx (hl u (h2 u hu).1 w (by simp))
            exact absurd (e ▸ List.prefix_refl u) (hno u hu)
        refine ⟨?_, ?_, ?_, ?_⟩
        · rw [List.pairwise_append]
          exact ⟨h1, by simp, fun u hu v hv => by simp at hv; subst hv; exact hnb u hu⟩
        · intro v hv
          rcases List.mem_append.1 hv with hv | hv
          · exact ⟨by simp [(h2 v hv).1], (h2 v hv).2⟩
          · simp at hv; subst hv; exact ⟨by simp, hc.1⟩
        · intro v hv hn
          rcases List.mem_append.1 hv with hv | hv
          · obtain ⟨u, hu, hp⟩ := h3 v hv hn
            exact ⟨u, by simp [hu], hp⟩
          · simp at hv; subst hv; exact ⟨v, by simp, List.prefix_refl v⟩
        · intro u hu0 v hv0 hp
          rcases List.mem_append.1 hu0 with hu | hu <;> rcases List.mem_append.1 hv0 with hv | hv
          · exact h4 u hu v hv hp
          · have e : v = w := by simpa using hv
            exact absurd (e ▸ hp) (hno u hu)
          · have e : u = w := by simpa using hu
            have h5 := hnb v hv
            rw [ltW_prefix w v (e ▸ hp)] at h5
            cases h5
          · simp at hu hv; rw [hu, hv]
    · intro u hu v hv
      rcases List.mem_append.1 hu with hu | hu
      · exact hl u hu v (by simp [hv])
      · simp at hu; subst hu; exact hr'.1 v hv
/-- the mask of sorted ways -/
theorem sieve_mask {l : List (List Int)} (h : l.Pairwise (fun a b => ltW b a = false)) : IsMask l (sieveW [] l) := by
  have := sieve_taken l [] [] ⟨by simp, by simp, by simp, by simp⟩ h (by simp)
  simpa using this.mask
theorem IsMask.perm {l l' o : List (List Int)} (hp : ∀ w, w ∈ l ↔ w ∈ l') (h : IsMask l o) : IsMask l' o := by
  refine ⟨h.1, fun w => (h.2 w).trans ?_⟩
  unfold Least
  constructor
  · rintro ⟨h1, h2, h3⟩; exact ⟨(hp w).1 h1, h2, fun u hu => h3 u ((hp u).2 hu)⟩
  · rintro ⟨h1, h2, h3⟩; exact ⟨(hp w).2 h1, h2, fun u hu => h3 u ((hp u).1 hu)⟩
/-- the document's way: into its place -/
def insW (w : List Int) : List (List Int) → List (List Int)
  | [] => [w]
  | u :: r => if ltW u w then u :: insW w r else w :: u :: r
theorem insW_mem (w v : List Int) : ∀ o, v ∈ insW w o ↔ v = w ∨ v ∈ o
  | [] => by simp [insW]
  | u :: r => by
    rw [insW]
    split
    · rw [List.mem_cons, insW_mem w v r, List.mem_cons]
      constructor
      · rintro (h | h | h) <;> simp [h]
      · rintro (h | h | h) <;> simp [h]
    · simp
theorem insW_sorted (w : List Int) : ∀ o : List (List Int), o.Pairwise (fun a b => ltW a b = true) → w ∉ o → (insW w o).Pairwise (fun a b => ltW a b = true)
  | [], _, _ => by simp [insW]
  | u :: r, h, hn => by
    have h' := List.pairwise_cons.1 h
    rw [insW]
    split
    · rename_i hlt
      rw [List.pairwise_cons]
      refine ⟨fun v hv => ?_, insW_sorted w r h'.2 (fun hx => hn (by simp [hx]))⟩
      rcases (insW_mem w v r).1 hv with e | hv
      · rw [e]; exact hlt
      · exact h'.1 v hv
    · rename_i hlt
      have hwu : ltW w u = true := by
        cases hx : ltW w u with
        | true => rfl
        | false => exact absurd (by simp [ltW_total w u hx (by simpa using hlt)]) hn
      rw [List.pairwise_cons]
      refine ⟨fun v hv => ?_, h⟩
      rcases List.mem_cons.1 hv with e | hv
      · rw [e]; exact hwu
      · exact ltW_trans _ _ _ hwu (h'.1 v hv)
/-- is the i-th way one that is kept? -/
def keepW (l : List (List Int)) (i : Nat) : Bool :=
  decide ((l.getD i []) ≠ []) && (List.range l.length).all fun k => !(decide (k ≠ i) && decide ((l.getD k []) ≠ []) && beginsW (l.getD i []) (l.getD k []) && (decide ((l.getD k []).length < (l.getD i []).length) || decide (k < i)))
/-- what the document's mask is behind n ways -/
def rOf (l : List (List Int)) : Nat → List (List Int)
  | 0 => []
  | n + 1 => if keepW l n then insW (l.getD n []) (rOf l n) else rOf l n
theorem keepW_iff (l : List (List Int)) (i : Nat) (hi : i < l.length) : keepW l i = true ↔ Least l (l.getD i []) ∧ ∀ k, k < i → l.getD k [] ≠ l.getD i [] := by
  have hget : ∀ k, k < l.length → l.getD k [] ∈ l := fun k hk => by
    rw [List.getD_eq_getElem?_getD, List.getElem?_eq_getElem hk]; exact List.getElem_mem hk
  unfold keepW Least
  simp only [Bool.and_eq_true, decide_eq_true_eq, List.all_eq_true, List.mem_range, Bool.not_eq_true', Bool.and_eq_false_iff, decide_eq_false_iff_not, Bool.or_eq_false_iff]
  constructor
  · rintro ⟨hn, h⟩
    have key : ∀ k, k < l.length → k ≠ i → l.getD k [] ≠ [] → l.getD k [] <+: l.getD i [] → ¬ ((l.getD k []).length < (l.getD i []).length) ∧ ¬ k < i := by
      intro k hk hki hkn hp
      rcases h k hk with ((h1 | h1) | h1) | h1
      · exact absurd hki h1
      · exact absurd hkn h1
      · rw [(beginsW_iff _ _).2 hp] at h1; cases h1
      · exact h1
    refine ⟨⟨hget i hi, hn, fun u hu hun hp => ?_⟩, fun k hk e => ?_⟩
    · obtain ⟨k, hk, e⟩ := List.getElem_of_mem hu
      have e' : l.getD k [] = u := by rw [List.getD_eq_getElem?_getD, List.getElem?_eq_getElem hk]; exact e
      by_cases hki : k = i
      · subst hki; exact e'.symm
      · have h5 := (key k hk hki (by rw [e']; exact hun) (by rw [e']; exact hp)).1
        rw [e'] at h5
        exact hp.eq_of_length_le (by omega)
    · exact (key k (by omega) (by omega) (by rw [e]; exact hn) (by rw [e]; exact List.prefix_refl _)).2 hk
  · rintro ⟨⟨_, hn, hl⟩, hf⟩
    refine ⟨hn, fun k hk => ?_⟩
    by_cases hki : k = i
    · exact .inl (.inl (.inl (fun h => h hki)))
    by_cases hkn : l.getD k [] = []
    · exact .inl (.inl (.inr (fun h => h hkn)))
    cases hb : beginsW (l.getD i []) (l.getD k []) with
    | false => exact .inl (.inr rfl)
    | true =>
      have e := hl _ (hget k hk) hkn ((beginsW_iff _ _).1 hb)
      exact .inr ⟨by rw [e]; omega, fun h => hf k h e⟩
theorem rOf_in (l : List (List Int)) : ∀ n, n ≤ l.length → (rOf l n).Pairwise (fun a b => ltW a b = true) ∧ ∀ w, w ∈ rOf l n ↔ Least l w ∧ ∃ k, k < n ∧ l.getD k [] = w
  | 0, _ => ⟨by simp [rOf], by simp [rOf]⟩
  | n + 1, hn => by
    obtain ⟨h1, h2⟩ := rOf_in l n (by omega)
    have hk := keepW_iff l n (by omega)
    rw [rOf]
    cases hx : keepW l n with
    | true =>
      rw [hx] at hk
      obtain ⟨hl, hf⟩ := hk.1 rfl
      refine ⟨insW_sorted _ _ h1 (fun hm => ?_), fun w => ?_⟩
      · obtain ⟨_, k, hk1, hk2⟩ := (h2 _).1 hm
        exact hf k hk1 hk2
      · show w ∈ insW (l.getD n []) (rOf l n) ↔ _
        rw [insW_mem, h2]
        constructor
        · rintro (rfl | ⟨hw, k, hk1, hk2⟩)
          · exact ⟨hl, n, by omega, rfl⟩
          · exact ⟨hw, k, by omega, hk2⟩
        · rintro ⟨hw, k, hk1, hk2⟩
          by_cases e : k = n
          · subst e; exact .inl hk2.symm
          · exact .inr ⟨hw, k, by omega, hk2⟩
    | false =>
      refine ⟨h1, fun w => ?_⟩
      show w ∈ rOf l n ↔ _
      rw [h2]
      constructor
      · rintro ⟨hw, k, hk1, hk2⟩; exact ⟨hw, k, by omega, hk2⟩
      · rintro ⟨hw, k, hk1, hk2⟩
        by_cases e : k = n
        · subst e
          subst hk2
          -- it is least, but not kept: it stands further ahead
          have : ¬ ∀ j, j < k → l.getD j [] ≠ l.getD k [] := fun hf => by
            have := hk.2 ⟨hw, hf⟩
            rw [hx] at this; cases this
          obtain ⟨j, hj⟩ := Classical.not_forall.1 this
          obtain ⟨hj1, hj2⟩ := Classical.not_imp.1 hj
          exact ⟨hw, j, hj1, Classical.not_not.1 hj2⟩
        · exact ⟨hw, k, by omega, hk2⟩
theorem rOf_mask (l : List (List Int)) : IsMask l (rOf l l.length) := by
  obtain ⟨h1, h2⟩ := rOf_in l l.length (Nat.le_refl _)
  refine ⟨h1, fun w => (h2 w).trans ⟨fun h => h.1, fun h => ⟨h, ?_⟩⟩⟩
  obtain ⟨k, hk, e⟩ := List.getElem_of_mem h.1
  exact ⟨k, hk, by rw [List.getD_eq_getElem?_getD, List.getElem?_eq_getElem hk]; exact e⟩
/-- what the program's mask is: the document's -/
theorem sieve_rOf {l s : List (List Int)} (hp : ∀ w, w ∈ s ↔ w ∈ l) (hs : s.Pairwise (fun a b => ltW b a = false)) : sieveW [] s = rOf l l.length :=
  ((sieve_mask hs).perm hp).one (rOf_mask l)
/-- is a way one of ways, or under one? -/
def hasW (l : List (List Int)) (w : List Int) : Bool := l.any fun u => decide (0 < u.length) && beginsW w u
theorem hasW_iff (l : List (List Int)) (w : List Int) : hasW l w = true ↔ ∃ u ∈ l, u ≠ [] ∧ u <+: w := by
  unfold hasW
  simp only [List.any_eq_true, Bool.and_eq_true, decide_eq_true_eq, beginsW_iff]
  constructor
  · rintro ⟨u, h1, h2, h3⟩; exact ⟨u, h1, fun e => by subst e; simp at h2, h3⟩
  · rintro ⟨u, h1, h2, h3⟩; exact ⟨u, h1, List.length_pos_iff.2 h2, h3⟩
/-- each way has a least one that begins it -/
theorem least_of (l : List (List Int)) : ∀ (n : Nat) (u : List Int), u.length ≤ n → u ∈ l → u ≠ [] → ∃ v, Least l v ∧ v <+: u
  | 0, u, h, _, hn => absurd (List.length_eq_zero_iff.1 (by omega)) hn
  | n + 1, u, h, hu, hn => by
    by_cases hx : ∃ v ∈ l, v ≠ [] ∧ v <+: u ∧ v ≠ u
    · obtain ⟨v, hv, hvn, hp, hne⟩ := hx
      have hlt : v.length < u.length := by
        have := hp.length_le
        rcases Nat.lt_or_ge v.length u.length with h | h
        · exact h
        · exact absurd (hp.eq_of_length_le h) hne
      obtain ⟨t, ht, htp⟩ := least_of l n v (by omega) hv hvn
      exact ⟨t, ht, htp.trans hp⟩
    · refine ⟨u, ⟨hu, hn, fun v hv hvn hp => ?_⟩, List.prefix_refl u⟩
      exact Classical.byContradiction fun hne => hx ⟨v, hv, hvn, hp, hne⟩
theorem IsMask.has {l o : List (List Int)} (h : IsMask l o) (w : List Int) : hasW o w = hasW l w := by
  rw [Bool.eq_iff_iff, hasW_iff, hasW_iff]
  constructor
  · rintro ⟨u, hu, hn, hp⟩; exact ⟨u, ((h.2 u).1 hu).1, hn, hp⟩
  · rintro ⟨u, hu, hn, hp⟩
    obtain ⟨v, hv, hvp⟩ := least_of l u.length u (Nat.le_refl _) hu hn
    exact ⟨v, (h.2 v).2 hv, hv.2.1, hvp.trans hp⟩
end Go.Proofs.YtpckoeicbjfnhaaGreatDoor
