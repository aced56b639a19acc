/- darningref11.Is; tree.Of and canon.Is, of a contract of tree.of. Bytes of at most 2 to the 40. Plain laws: what is alike has the same canonical bytes (encM_same); sameB is symmetric and transitive; the plain law of CanonMeans (enc_iff, canon_of_enc). No condition. slices.Equal of strings and of words; slices.EqualFunc of messages and of values: all2. The function handed in tells S of each pair and changes nothing that was there. -/
import Derived.Test.YtbhiddafbpingaaGreatZ18
import Derived.Test.YtbhiddafbpingaaGreatZ19
import Derived.Test.YtbhiddafbpingaaGreatZ20
import Derived.Test.YtbhiddafbpingaaGreatZ31
import Derived.Test.YtbhiddafbpingaaGreatZ32
namespace Go.Proofs.YtbhiddafbpingaaGreat
open Go.RowKit
theorem vcheck_ok {s : List Mes} {root d : Int} {l : List UInt8} (h : (vcheck s root l d).2 = 0) : sright s = true ∧ (0 ≤ root ∧ root < s.length) ∧ (0 ≤ d ∧ d ≤ 64) ∧ (vmsg s d.toNat root.toNat l).2 = 0 := by
  unfold vcheck at h
  by_cases h0 : argsCode s root d = 0
  · rw [if_neg (by omega)] at h
    obtain ⟨h1, h2, h3, h4, h5⟩ := args_ok h0
    exact ⟨h1, ⟨h2, h3⟩, ⟨h4, h5⟩, h⟩
  · rw [if_pos h0] at h; exact absurd h h0
def TreePost (s : List Mes) (root : Int) (l : List UInt8) (d : Int) (w : World) (e : Ending) (w' : World) : Prop :=
  ∃ v', e = .returned (.tuple #[v', .int .u8 ((vcheck s root l d).2 : Nat)]) ∧ Below w.heap.size w w' ∧ (∃ a1 n1 c1 a2 n2 c2, v' = .agg #[.slice a1 n1 c1, .slice a2 n2 c2]) ∧ ((vcheck s root l d).2 = 0 → Apart 0 w.heap.size w' fun w2 => MsgAt (d.toNat + 1) w2 v' (tof s d.toNat root.toNat l))
set_option maxRecDepth 100000 in
set_option maxHeartbeats 4000000 in
theorem tree_Of {w : World} {vs vb : Value} {s : List Mes} {l : List UInt8} (hof : sright s = true → ∀ d', TOfOk w vs s d') (hS : SchemaAt w vs s) (hb : Bytes w vb l) (hl : l.length ≤ 1099511627776) (root d : Int) :
    Calls Tryz.prog 27 #[vs, .int .i64 root, vb, .int .i64 d] w (TreePost s root l d w) := by
  obtain ⟨W1, HW1⟩ : ∃ W1, Hid (W1 = w.alloc (.cells #[.slice none 0 0, .slice none 0 0] 58)) := ⟨_, rfl⟩
  have hbw : Below w.heap.size w W1 := by rw [HW1.out]; (repeat (first | with_reducible exact Below.refl _ _ | with_reducible refine Below.setCell ?_ (by first | omega | (simp; omega) | (simp; done)) _ | with_reducible refine Below.alloc ?_ (by first | omega | (simp; omega) | (simp; done)) _ | with_reducible refine below_drewN ?_ _ | with_reducible refine Below.drew ?_))
  have hbx : Blk W1 w.heap.size [.slice none 0 0, .slice none 0 0] 58 := by rw [HW1.out]; exact Blk.new w [.slice none 0 0, .slice none 0 0] _
  have HBW := hid hbw
  have HBX := hid hbx
  have HC := hid (valid_Check (hS.below hbw) (hb.below hbw) root d)
  have HOF := hid hof
  have HB := hid hb
  have HL := hid hl
  obtain ⟨-, sa, sc, rfl, -⟩ := hS.open
  obtain ⟨-, a, c, rfl, -⟩ := hb.open
  obtain ⟨n, HN⟩ : ∃ n, Hid (n = s.length) := ⟨_, rfl⟩
  obtain ⟨m, HM⟩ : ∃ n, Hid (n = l.length) := ⟨_, rfl⟩
  rw [← HN.out] at HC HOF ⊢
  rw [← HM.out] at HC HB ⊢
  obtain ⟨p, HP⟩ : ∃ p, Hid (p = (vcheck s root l d).1) := ⟨_, rfl⟩
  obtain ⟨z, HZ⟩ : ∃ z, Hid (z = (vcheck s root l d).2) := ⟨_, rfl⟩
  rw [← HP.out, ← HZ.out] at HC
  obtain ⟨Q, HQ⟩ : ∃ Q : Ending → World → Prop, Hid (Q = TreePost s root l d w) := ⟨_, rfl⟩
  rw [← HQ.out]
  clear hS hb hof hbw hbx
  obtain ⟨X, HX⟩ : ∃ X, Hid (X = w.heap.size) := ⟨_, rfl⟩
  rw [← HX.out] at HBX
  by_cases hz : z = 0
  · obtain ⟨g1, ⟨g2, g3⟩, ⟨g4, g5⟩, g6⟩ := vcheck_ok (HZ.out.symm.trans hz)
    obtain ⟨r, rfl⟩ : ∃ r : Nat, root = r := ⟨root.toNat, by omega⟩
    have HG := hid (And.intro g3 g6)
    have HOF2 := hid (HOF.out g1)
    subst hz
    clear g1 g2 g3 g4 g5 g6 hl
    go_enter Tryz.func27, Tryz.ntmps27
    go_wp2_with ((try rw [← HW1.out]); go_at_call 52; refine HC.out.mono ?_; rintro e w1 ⟨rfl, hb1⟩; have HB1 := hid (HBW.out.trans (hb1.mono HBW.out.size)); have hx1 := HBX.out.below hb1)
    have hv : (vmsg s d.toNat r l).2 = 0 := by have := HG.out.2; rwa [Int.toNat_natCast] at this
    refine (HOF2.out d.toNat r _ _ l (by have := HG.out.1; omega) HB1.out (HB.out.below HB1.out) HL.out hv).mono ?_
    rintro e w2 ⟨v', rfl, hb2, hap⟩
    obtain ⟨a1, n1, c1, a2, n2, c2, rfl⟩ := hap.here.form
    have hx2 := hx1.below hb2
    have hx0 := hx2.cell 0 _ rfl
    have hx1' := hx2.cell 1 _ rfl
    have hf0 := hx2.free 0
    have hf1 := hx2.free 1
    have hlX := hx2.lt
    rw [HX.out] at hx0 hx1' hf0 hf1 hlX
    go_wp2_with fail
    refine bodyPost_ret (v := .tuple #[.agg #[.slice a1 n1 c1, .slice a2 n2 c2], .int .u8 0]) ?_ rfl ?_
    · simp [results, Tryz.results27, go_sem, hx0, hx1']
    · rw [HQ.out]
      have hbf : Below w.heap.size w ((w2.setCell ⟨w.heap.size, 0, none⟩ (.slice a1 n1 c1)).setCell ⟨w.heap.size, 1, none⟩ (.slice a2 n2 c2)) :=
        ((HB1.out.trans (hb2.mono HB1.out.size)).setCell (Nat.le_refl _) _).setCell (Nat.le_refl _) _
      refine ⟨_, by rw [← HZ.out]; rfl, hbf, ⟨_, _, _, _, _, _, rfl⟩, fun _ w9 hw9 => ?_⟩
      rw [Int.toNat_natCast]
      have hs1 : w.heap.size < w1.heap.size := by have := hx1.lt; rw [HX.out] at this; exact this
      refine hap w9 fun b' hlt' hc => (hw9 b' (by simpa using hlt') (.inr (by omega))).trans ?_
      rw [Below.heap_setCell _ _ _ b' (by show b' ≠ w.heap.size; omega), Below.heap_setCell _ _ _ b' (by show b' ≠ w.heap.size; omega)]
  · have e1 : ((z : Int) != 0) = true := by simpa using hz
    have e2 : ((z : Int) == 0) = false := by simpa using hz
    go_enter Tryz.func27, Tryz.ntmps27
    go_wp2_with ((try rw [← HW1.out]); go_at_call 52; refine HC.out.mono ?_; rintro e w1 ⟨rfl, hb1⟩; have HB1 := hid (HBW.out.trans (hb1.mono HBW.out.size)); have hx2 := HBX.out.below hb1; have hx0 := hx2.cell 0 _ rfl; have hx1' := hx2.cell 1 _ rfl; have hf0 := hx2.free 0; have hf1 := hx2.free 1; have hlX := hx2.lt; rw [HX.out] at hx0 hx1' hf0 hf1 hlX)
    refine bodyPost_ret (v := .tuple #[.agg #[.slice none 0 0, .slice none 0 0], .int .u8 z]) ?_ rfl ?_
    · simp [results, Tryz.results27, go_sem, hx0, hx1']
    · rw [HQ.out]
      have hbf : Below w.heap.size w ((w1.setCell ⟨w.heap.size, 0, none⟩ (.slice none 0 0)).setCell ⟨w.heap.size, 1, none⟩ (.slice none 0 0)) := (HB1.out.setCell (Nat.le_refl _) _).setCell (Nat.le_refl _) _
      exact ⟨_, by rw [← HZ.out], hbf, ⟨_, _, _, _, _, _, rfl⟩, fun h9 => absurd (HZ.out.trans h9) hz⟩
/-- canonical bytes? -/
def canonB (s : List Mes) (root : Int) (l : List UInt8) : Bool := decide ((vcheck s root l 64).2 = 0) && decide (l = encM s 65 root (tof s 64 root.toNat l))
theorem tof_may {s : List Mes} {root : Int} {l : List UInt8} (h : (vcheck s root l 64).2 = 0) : mayCode s root 65 (tof s 64 root.toNat l) = 0 := by
  obtain ⟨g1, ⟨g2, g3⟩, -, g6⟩ := vcheck_ok h
  obtain ⟨r, rfl⟩ : ∃ r : Nat, root = r := ⟨root.toNat, by omega⟩
  rw [Int.toNat_natCast] at g6 ⊢
  exact may_fine g1 (by omega) (tof_right g1 64 r l (by omega) g6)
set_option maxRecDepth 100000 in
set_option maxHeartbeats 4000000 in
theorem canon_Is {w : World} {vs vb : Value} {s : List Mes} {l : List UInt8} (hof : sright s = true → ∀ d', TOfOk w vs s d') (hS : SchemaAt w vs s) (hb : Bytes w vb l) (hl : l.length ≤ 268435455) (root : Int) :
    Calls Tryz.prog 23 #[vs, .int .i64 root, vb] w fun e w' => e = .returned (.bool (canonB s root l)) ∧ Below w.heap.size w w' := by
  have HT := hid (tree_Of hof hS hb (by omega) root 64)
  unfold TreePost at HT
  have HS := hid hS
  have HB := hid hb
  have HL := hid hl
  obtain ⟨-, sa, sc, rfl, -⟩ := hS.open
  obtain ⟨-, a, c, rfl, -⟩ := hb.open
  obtain ⟨n, HN⟩ : ∃ n, Hid (n = s.length) := ⟨_, rfl⟩
  obtain ⟨m, HM⟩ : ∃ n, Hid (n = l.length) := ⟨_, rfl⟩
  rw [← HN.out] at HT HS ⊢
  rw [← HM.out] at HT HB ⊢
  obtain ⟨z, HZ⟩ : ∃ z, Hid (z = (vcheck s root l 64).2) := ⟨_, rfl⟩
  rw [← HZ.out] at HT
  obtain ⟨r, HR⟩ : ∃ r, Hid (r = canonB s root l) := ⟨_, rfl⟩
  rw [← HR.out]
  clear hS hb hof
  by_cases hz : z = 0
  · have hmay := tof_may (HZ.out.symm.trans hz)
    subst hz
    obtain ⟨E, HE⟩ : ∃ E, Hid (E = encM s 65 root (tof s 64 root.toNat l)) := ⟨_, rfl⟩
    have hr : r = decide (l = E) := by
      rw [HR.out, canonB, ← HZ.out, HE.out]; simp
    have HMAY := hid hmay
    have HRR := hid hr
    clear hmay hr
    go_enter Tryz.func23, Tryz.ntmps23
    go_wp2_with (go_at_call 27; refine HT.out.mono ?_; rintro e w1 ⟨v', rfl, hb1, ⟨a1, n1, c1, a2, n2, c2, rfl⟩, hap⟩)
    obtain ⟨W1, HW1⟩ : ∃ W1, Hid (W1 = w1.alloc (.cells #[.slice a1 n1 c1, .slice a2 n2 c2] 58)) := ⟨_, rfl⟩
    have hbx : Below w1.heap.size w1 W1 := by rw [HW1.out]; (repeat (first | with_reducible exact Below.refl _ _ | with_reducible refine Below.setCell ?_ (by first | omega | (simp; omega) | (simp; done)) _ | with_reducible refine Below.alloc ?_ (by first | omega | (simp; omega) | (simp; done)) _ | with_reducible refine below_drewN ?_ _ | with_reducible refine Below.drew ?_))
    have hM : MsgAt 65 W1 (.agg #[.slice a1 n1 c1, .slice a2 n2 c2]) (tof s 64 root.toNat l) := ((hap trivial).later hbx).here
    have hb1' : Below w.heap.size w W1 := hb1.trans (hbx.mono hb1.size)
    have hwt : mwt 65 (tof s 64 root.toNat l) ≤ 1 + 4 * l.length := tof_weight s 64 root.toNat l
    have HC := hid (canon_Encode (HS.out.below hb1') root hM (by have := HL.out; omega))
    unfold EncPost encOut at HC
    rw [HMAY.out, if_pos rfl, ← HE.out] at HC
    rw [← HW1.out]
    refine HC.out.mono ?_
    rintro e w2 ⟨v2, rfl, hO, hb2⟩
    have hb3 : Below w.heap.size w w2 := hb1'.trans (hb2.mono hb1'.size)
    have hel : E.length ≤ 140737488355328 := by
      have hsr := (vcheck_ok HZ.out.symm).1
      have := enc_len hsr 65 root _ _ hM (by have := HL.out; omega)
      rw [HE.out]
      have := HL.out
      omega
    have hE2 := hO.bytes hel
    obtain ⟨-, a5, c5, rfl, -⟩ := hE2.open
    have HEQ := hid (bytes_Equal (HB.out.below hb3) hE2)
    go_wp2_with (go_at_call 47; refine HEQ.out.mono ?_; rintro e w3 ⟨rfl, rfl⟩)
    go_ret
    exact ⟨by rw [HRR.out]; rfl, hb3⟩
  · have e1 : ((z : Int) != 0) = true := by simpa using hz
    have e2 : ((z : Int) == 0) = false := by simpa using hz
    have hr : r = false := by
      rw [HR.out, canonB, ← HZ.out, decide_eq_false hz]; rfl
    subst hr
    go_enter Tryz.func23, Tryz.ntmps23
    go_wp2_with (go_at_call 27; refine HT.out.mono ?_; rintro e w1 ⟨v', rfl, hb1, ⟨a1, n1, c1, a2, n2, c2, rfl⟩, hap⟩)
    go_ret
    exact ⟨rfl, hb1.alloc hb1.size _⟩
end Go.Proofs.YtbhiddafbpingaaGreat
namespace Go.Proofs.YtbhiddafbpingaaGreat
open Go.RowKit
theorem all2_sym {α β : Type} {S : α → β → Bool} {T : β → α → Bool} (h : ∀ x y, S x y = true → T y x = true) : ∀ {l : List α} {m : List β}, all2 S l m = true → all2 T m l = true
  | [], [], _ => rfl
  | x :: r, y :: t, e => by
    rw [all2, Bool.and_eq_true] at e
    rw [all2, h _ _ e.1, all2_sym h e.2]; rfl
  | [], _ :: _, e => by simp [all2] at e
  | _ :: _, [], e => by simp [all2] at e
theorem all2_trans {α β γ : Type} {S : α → β → Bool} {T : β → γ → Bool} {U : α → γ → Bool} (h : ∀ x y z, S x y = true → T y z = true → U x z = true) : ∀ {l : List α} {m : List β} {n : List γ}, all2 S l m = true → all2 T m n = true → all2 U l n = true
  | [], [], [], _, _ => rfl
  | x :: r, y :: t, z :: u, e, f => by
    rw [all2, Bool.and_eq_true] at e f
    rw [all2, h _ _ _ e.1 f.1, all2_trans h e.2 f.2]; rfl
  | [], _ :: _, _, e, _ => by simp [all2] at e
  | _ :: _, [], _, e, _ => by simp [all2] at e
  | [], [], _ :: _, _, f => by simp [all2] at f
  | _ :: _, _ :: _, [], _, f => by simp [all2] at f
theorem all2_flatMap {α β γ : Type} {S : α → β → Bool} {g : α → List γ} {h : β → List γ} (e : ∀ x y, S x y = true → g x = h y) : ∀ {l : List α} {m : List β}, all2 S l m = true → l.flatMap g = m.flatMap h
  | [], [], _ => rfl
  | x :: r, y :: t, f => by
    rw [all2, Bool.and_eq_true] at f
    rw [List.flatMap_cons, List.flatMap_cons, e _ _ f.1, all2_flatMap e f.2]
  | [], _ :: _, f => by simp [all2] at f
  | _ :: _, [], f => by simp [all2] at f
theorem sameV_open {α β : Type} {S : α → β → Bool} {x : Val α} {y : Val β} (h : sameV S x y = true) : x.num = y.num ∧ x.words = y.words ∧ x.texts = y.texts ∧ all2 S x.subs y.subs = true := by
  unfold sameV at h
  rw [Bool.and_eq_true, decide_eq_true_eq] at h
  exact ⟨h.1.1, h.1.2.1, h.1.2.2, h.2⟩
theorem sameV_mk {α β : Type} {S : α → β → Bool} {x : Val α} {y : Val β} (h1 : x.num = y.num) (h2 : x.words = y.words) (h3 : x.texts = y.texts) (h4 : all2 S x.subs y.subs = true) : sameV S x y = true := by
  unfold sameV
  rw [Bool.and_eq_true, decide_eq_true_eq]
  exact ⟨⟨h1, h2, h3⟩, h4⟩
theorem sameB_open {a b : Nat} {x : M (a + 1)} {y : M (b + 1)} (h : sameB (a + 1) (b + 1) x y = true) : M.unk x = M.unk y ∧ all2 (sameV (sameB a b)) (M.vals x) (M.vals y) = true := by
  unfold sameB at h
  rw [Bool.and_eq_true, decide_eq_true_eq] at h
  exact h
theorem sameB_mk {a b : Nat} {x : M (a + 1)} {y : M (b + 1)} (h1 : M.unk x = M.unk y) (h2 : all2 (sameV (sameB a b)) (M.vals x) (M.vals y) = true) : sameB (a + 1) (b + 1) x y = true := by
  unfold sameB
  rw [Bool.and_eq_true, decide_eq_true_eq]
  exact ⟨h1, h2⟩
theorem sameB_sym : ∀ (a b : Nat) (x : M a) (y : M b), sameB a b x y = true → sameB b a y x = true
  | 0, _, x, _, _ => Empty.elim x
  | _ + 1, 0, _, y, _ => Empty.elim y
  | a + 1, b + 1, x, y, h => by
    obtain ⟨h1, h2⟩ := sameB_open h
    refine sameB_mk h1.symm (all2_sym (fun v u e => ?_) h2)
    obtain ⟨e1, e2, e3, e4⟩ := sameV_open e
    exact sameV_mk e1.symm e2.symm e3.symm (all2_sym (fun p q => sameB_sym a b p q) e4)
theorem sameB_trans : ∀ (a b c : Nat) (x : M a) (y : M b) (z : M c), sameB a b x y = true → sameB b c y z = true → sameB a c x z = true
  | 0, _, _, x, _, _, _, _ => Empty.elim x
  | _ + 1, 0, _, _, y, _, _, _ => Empty.elim y
  | _ + 1, _ + 1, 0, _, _, z, _, _ => Empty.elim z
  | a + 1, b + 1, c + 1, x, y, z, h, g => by
    obtain ⟨h1, h2⟩ := sameB_open h
    obtain ⟨g1, g2⟩ := sameB_open g
    refine sameB_mk (h1.trans g1) (all2_trans (fun u v w e f => ?_) h2 g2)
    obtain ⟨e1, e2, e3, e4⟩ := sameV_open e
    obtain ⟨f1, f2, f3, f4⟩ := sameV_open f
    exact sameV_mk (e1.trans f1) (e2.trans f2) (e3.trans f3) (all2_trans (fun p q r => sameB_trans a b c p q r) e4 f4)
/-- what is alike has the same bytes -/
theorem encM_same (s : List Mes) : ∀ (a b : Nat) (root : Int) (x : M a) (y : M b), sameB a b x y = true → encM s a root x = encM s b root y
  | 0, _, _, x, _, _ => Empty.elim x
  | _ + 1, 0, _, _, y, _ => Empty.elim y
  | a + 1, b + 1, root, x, y, h => by
    obtain ⟨h1, h2⟩ := sameB_open h
    show (M.vals x).flatMap _ ++ (M.unk x).flatMap id = (M.vals y).flatMap _ ++ (M.unk y).flatMap id
    rw [h1]
    congr 1
    refine all2_flatMap (fun u v e => ?_) h2
    obtain ⟨e1, e2, e3, e4⟩ := sameV_open e
    rw [e1]
    unfold encV
    rw [e2, e3, all2_flatMap (g := fun y => rput _ 2 (encM s a _ y)) (h := fun y => rput _ 2 (encM s b _ y)) (fun p q f => by rw [encM_same s a b _ p q f]) e4]
/-- two right meanings have the same bytes just if they are alike -/
theorem enc_iff {w : World} {s : List Mes} (hs : sright s = true) {a b m : Nat} {v u : Value} {x : M (a + 1)} {y : M (b + 1)} (hx : MsgAt (a + 1) w v x) (hy : MsgAt (b + 1) w u y) (hwx : mwt (a + 1) x ≤ 1099511627776) (hwy : mwt (b + 1) y ≤ 1099511627776) (hm : m < s.length)
    (hrx : rightB s (a + 1) (m : Int) x = true) (hry : rightB s (b + 1) (m : Int) y = true) : decide (encM s (a + 1) (m : Int) x = encM s (b + 1) (m : Int) y) = sameB (a + 1) (b + 1) x y := by
  rw [Bool.eq_iff_iff, decide_eq_true_eq]
  constructor
  · intro e
    have h1 := tof_enc hs a (max (depthM (a + 1) x) (depthM (b + 1) y)) m v x hx hwx hm hrx (by omega)
    have h2 := tof_enc hs b (max (depthM (a + 1) x) (depthM (b + 1) y)) m u y hy hwy hm hry (by omega)
    rw [e] at h1
    exact sameB_trans _ _ _ _ _ _ (sameB_sym _ _ _ _ h1) h2
  · exact encM_same s _ _ _ _ _
/-- canonical bytes are canonical, and a check of them finds nothing -/
theorem check_enc {w : World} {s : List Mes} (hs : sright s = true) {a m d : Nat} {v : Value} {x : M (a + 1)} (hx : MsgAt (a + 1) w v x) (hwx : mwt (a + 1) x ≤ 1099511627776) (hm : m < s.length) (hrx : rightB s (a + 1) (m : Int) x = true) (hd : depthM (a + 1) x ≤ d) (hd64 : d ≤ 64) :
    (vcheck s (m : Int) (encM s (a + 1) (m : Int) x) (d : Int)).2 = 0 := by
  have h0 : argsCode s (m : Int) (d : Int) = 0 := by
    unfold argsCode
    rw [if_neg (by rw [hs]; simp), if_neg (by omega)]
  unfold vcheck
  rw [if_neg (by omega), Int.toNat_natCast, Int.toNat_natCast]
  exact vmsg_enc hs a d m v x hx hwx hm hrx hd
theorem canon_of_enc {w : World} {s : List Mes} (hs : sright s = true) {a m : Nat} {v : Value} {x : M (a + 1)} (hx : MsgAt (a + 1) w v x) (hwx : mwt (a + 1) x ≤ 1099511627776) (hm : m < s.length) (hrx : rightB s (a + 1) (m : Int) x = true) (hd : depthM (a + 1) x ≤ 64) :
    canonB s (m : Int) (encM s (a + 1) (m : Int) x) = true := by
  have h1 := check_enc hs hx hwx hm hrx hd (Nat.le_refl 64)
  have h2 := tof_enc hs a 64 m v x hx hwx hm hrx hd
  unfold canonB
  rw [Bool.and_eq_true, decide_eq_true_eq, decide_eq_true_eq]
  refine ⟨h1, ?_⟩
  rw [Int.toNat_natCast]
  exact (encM_same s _ _ _ _ _ h2).symm
end Go.Proofs.YtbhiddafbpingaaGreat
namespace Go.Proofs.YtbhiddafbpingaaGreat
open Go.RowKit
set_option maxRecDepth 100000 in
set_option maxHeartbeats 4000000 in
theorem equal_str {w : World} {v u : Value} {l m : List (List UInt8)} (h : StrsAt w v l) (hu : StrsAt w u m) :
    Calls Tryz.prog 54 #[v, u] w fun e w' => e = .returned (.bool (decide (l = m))) ∧ Drew w w' := by
  obtain ⟨-, a, c, rfl, -, hat⟩ := h.open
  obtain ⟨-, a2, c2, rfl, -, hbt⟩ := hu.open
  obtain ⟨n, HN⟩ : ∃ n, Hid (n = l.length) := ⟨_, rfl⟩
  obtain ⟨n2, HN2⟩ : ∃ n, Hid (n = m.length) := ⟨_, rfl⟩
  have hlen : n ≤ 140737488355328 := by rw [HN.out]; exact h.open.1
  have hlen2 : n2 ≤ 140737488355328 := by rw [HN2.out]; exact hu.open.1
  rw [← HN.out, ← HN2.out]
  obtain ⟨z, HZ⟩ : ∃ z, Hid (z = decide (l = m)) := ⟨_, rfl⟩
  rw [← HZ.out]
  have HAT := hid hat
  have HBT := hid hbt
  clear hat hbt h hu
  by_cases hnn : n = n2
  · subst hnn
    go_enter Tryz.func54, Tryz.ntmps54
    go_wp2_with fail
    go_loopw [13] (fun v8 wr => ∃ k : Nat, k ≤ n ∧ v8 = .int .i64 k ∧ Hid (decide (l.drop k = m.drop k) = z) ∧ (∃ kw, wr = w.drewN kw)) (fun v8 _ => n - (intOf v8).toNat)
    case atStart => exact ⟨0, by omega, rfl, by rw [HZ.out]; rfl, 0, rfl⟩
    case round =>
      obtain ⟨k, hk, rfl, HK, kw, rfl⟩ := hrel
      by_cases hlt : k < n
      · have hat := HAT.out
        have hbt := HBT.out
        have hxi : l[k]? = some (l[k]'(by rw [← HN.out]; exact hlt)) := List.getElem?_eq_getElem _
        generalize l[k]'(by rw [← HN.out]; exact hlt) = x at hxi
        have hyi : m[k]? = some (m[k]'(by rw [← HN2.out]; exact hlt)) := List.getElem?_eq_getElem _
        generalize m[k]'(by rw [← HN2.out]; exact hlt) = y at hyi
        obtain ⟨-, b, o, ha, g0⟩ := hat k x hxi
        obtain ⟨-, b2, o2, ha2, g02⟩ := hbt k y hyi
        clear hat hbt
        unfold strV at g0 g02
        have HST := hid (drop_eq l m k x y hxi hyi)
        have hix := index_run1 Tryz.underlying39 size_str ha k hlt (cap := c)
        have hix2 := index_run1 Tryz.underlying39 size_str ha2 k hlt (cap := c2)
        clear ha ha2 hxi hyi
        by_cases hp : x = y
        · have HK2 : Hid (decide (l.drop (k + 1) = m.drop (k + 1)) = z) := by rw [Hid, ← HK.out, HST.out, decide_eq_true hp]; rfl
          have hb1 : ((⟨x.toArray⟩ : ByteArray).toList == (⟨y.toArray⟩ : ByteArray).toList) = true := by rw [bytes_beq]; simpa using hp
          have hb2 : ((⟨x.toArray⟩ : ByteArray).toList != (⟨y.toArray⟩ : ByteArray).toList) = false := by rw [bne, hb1]; rfl
          generalize (⟨x.toArray⟩ : ByteArray) = X at *
          generalize (⟨y.toArray⟩ : ByteArray) = Y at *
          clear hp HST HK
          go_wp2_with fail
          go_quiet (fail)
          go_wp2_with fail
          go_roundw
          case rel => exact ⟨k + 1, by omega, by go_num, HK2, _, rfl⟩
          case measure => simp [intOf]; omega
        · have hz : z = false := by rw [← HK.out, HST.out, decide_eq_false hp]; rfl
          subst hz
          have hb1 : ((⟨x.toArray⟩ : ByteArray).toList == (⟨y.toArray⟩ : ByteArray).toList) = false := by rw [bytes_beq]; simpa using hp
          have hb2 : ((⟨x.toArray⟩ : ByteArray).toList != (⟨y.toArray⟩ : ByteArray).toList) = true := by rw [bne, hb1]; rfl
          generalize (⟨x.toArray⟩ : ByteArray) = X at *
          generalize (⟨y.toArray⟩ : ByteArray) = Y at *
          clear hp HST HK
          go_wp2_with fail
          go_quiet (fail)
          go_wp2_with fail
          go_ret
          exact ⟨rfl, _, World.drewN_drewN _ _ _⟩
      · have hz : z = true := by
          rw [← HK.out, List.drop_of_length_le (by rw [← HN.out]; omega), List.drop_of_length_le (by rw [← HN2.out]; omega)]; rfl
        subst hz
        go_wp2_with fail
        go_ret
        exact ⟨rfl, _, rfl⟩
  · have hz : z = false := by
      rw [HZ.out]
      refine decide_eq_false ?_
      rintro rfl
      exact hnn (HN.out.trans HN2.out.symm)
    subst hz
    have e1 : decide ((n : Int) = n2) = false := decide_eq_false (by omega)
    have e2 : ((n : Int) == n2) = false := by simp; omega
    have e3 : (n == n2) = false := by simp; omega
    clear hnn
    go_enter Tryz.func54, Tryz.ntmps54
    go_wp2_with fail
    go_ret
    exact ⟨rfl, 0, rfl⟩
set_option maxRecDepth 100000 in
set_option maxHeartbeats 4000000 in
theorem equal_u64 {w : World} {v u : Value} {l m : List Nat} (h : WordsAt w v l) (hu : WordsAt w u m) :
    Calls Tryz.prog 86 #[v, u] w fun e w' => e = .returned (.bool (decide (l = m))) ∧ Drew w w' := by
  obtain ⟨-, a, c, rfl, -, hat⟩ := h.open
  obtain ⟨-, a2, c2, rfl, -, hbt⟩ := hu.open
  obtain ⟨n, HN⟩ : ∃ n, Hid (n = l.length) := ⟨_, rfl⟩
  obtain ⟨n2, HN2⟩ : ∃ n, Hid (n = m.length) := ⟨_, rfl⟩
  have hlen : n ≤ 140737488355328 := by rw [HN.out]; exact h.open.1
  have hlen2 : n2 ≤ 140737488355328 := by rw [HN2.out]; exact hu.open.1
  rw [← HN.out, ← HN2.out]
  obtain ⟨z, HZ⟩ : ∃ z, Hid (z = decide (l = m)) := ⟨_, rfl⟩
  rw [← HZ.out]
  have HAT := hid hat
  have HBT := hid hbt
  clear hat hbt h hu
  by_cases hnn : n = n2
  · subst hnn
    go_enter Tryz.func86, Tryz.ntmps86
    go_wp2_with fail
    go_loopw [13] (fun v8 wr => ∃ k : Nat, k ≤ n ∧ v8 = .int .i64 k ∧ Hid (decide (l.drop k = m.drop k) = z) ∧ (∃ kw, wr = w.drewN kw)) (fun v8 _ => n - (intOf v8).toNat)
    case atStart => exact ⟨0, by omega, rfl, by rw [HZ.out]; rfl, 0, rfl⟩
    case round =>
      obtain ⟨k, hk, rfl, HK, kw, rfl⟩ := hrel
      by_cases hlt : k < n
      · have hat := HAT.out
        have hbt := HBT.out
        have hxi : l[k]? = some (l[k]'(by rw [← HN.out]; exact hlt)) := List.getElem?_eq_getElem _
        generalize l[k]'(by rw [← HN.out]; exact hlt) = x at hxi
        have hyi : m[k]? = some (m[k]'(by rw [← HN2.out]; exact hlt)) := List.getElem?_eq_getElem _
        generalize m[k]'(by rw [← HN2.out]; exact hlt) = y at hyi
        obtain ⟨-, b, o, ha, g0⟩ := hat k x hxi
        obtain ⟨-, b2, o2, ha2, g02⟩ := hbt k y hyi
        clear hat hbt
        unfold wordV at g0 g02
        have HST := hid (drop_eq l m k x y hxi hyi)
        have hix := index_run1 Tryz.underlying46 size_u64 ha k hlt (cap := c)
        have hix2 := index_run1 Tryz.underlying46 size_u64 ha2 k hlt (cap := c2)
        clear ha ha2 hxi hyi
        by_cases hp : x = y
        · have HK2 : Hid (decide (l.drop (k + 1) = m.drop (k + 1)) = z) := by rw [Hid, ← HK.out, HST.out, decide_eq_true hp]; rfl
          have hb1 : ((x : Int) == (y : Int)) = true := by simpa using (by omega : ((x : Int) = (y : Int)))
          have hb2 : ((x : Int) != (y : Int)) = false := by rw [bne, hb1]; rfl
          clear hp HST HK
          go_wp2_with fail
          go_quiet (fail)
          go_wp2_with fail
          go_roundw
          case rel => exact ⟨k + 1, by omega, by go_num, HK2, _, rfl⟩
          case measure => simp [intOf]; omega
        · have hz : z = false := by rw [← HK.out, HST.out, decide_eq_false hp]; rfl
          subst hz
          have hb1 : ((x : Int) == (y : Int)) = false := by simpa using (by omega : ¬((x : Int) = (y : Int)))
          have hb2 : ((x : Int) != (y : Int)) = true := by rw [bne, hb1]; rfl
          clear hp HST HK
          go_wp2_with fail
          go_quiet (fail)
          go_wp2_with fail
          go_ret
          exact ⟨rfl, _, World.drewN_drewN _ _ _⟩
      · have hz : z = true := by
          rw [← HK.out, List.drop_of_length_le (by rw [← HN.out]; omega), List.drop_of_length_le (by rw [← HN2.out]; omega)]; rfl
        subst hz
        go_wp2_with fail
        go_ret
        exact ⟨rfl, _, rfl⟩
  · have hz : z = false := by
      rw [HZ.out]
      refine decide_eq_false ?_
      rintro rfl
      exact hnn (HN.out.trans HN2.out.symm)
    subst hz
    have e1 : decide ((n : Int) = n2) = false := decide_eq_false (by omega)
    have e2 : ((n : Int) == n2) = false := by simp; omega
    have e3 : (n == n2) = false := by simp; omega
    clear hnn
    go_enter Tryz.func86, Tryz.ntmps86
    go_wp2_with fail
    go_ret
    exact ⟨rfl, 0, rfl⟩
set_option maxRecDepth 100000 in
set_option maxHeartbeats 4000000 in
theorem equalFunc_msg {d d2 : Nat} {w : World} {v u : Value} {l : List (M d)} {m : List (M d2)} (h : SubsAt (MsgAt d) w v l) (hu : SubsAt (MsgAt d2) w u m) (F : Nat) (S : (M d) → (M d2) → Bool) (hcf : ∀ (args : Array Value) (w : World), (callFunc F args).run Tryz.prog w = .ok (.enter F args) w)
    (hcl : ∀ x ∈ l, ∀ y ∈ m, ∀ (xv yv : Value) (wr : World), MsgAt d w xv x → MsgAt d2 w yv y → Below w.heap.size w wr → Calls Tryz.prog F #[xv, yv] wr fun e w' => e = .returned (.bool (S x y)) ∧ Below wr.heap.size wr w') :
    Calls Tryz.prog 87 #[v, u, .func (.func F) #[] #[]] w fun e w' => e = .returned (.bool (all2 S l m)) ∧ Below w.heap.size w w' := by
  obtain ⟨-, a, c, rfl, -, hat⟩ := h.open
  obtain ⟨-, a2, c2, rfl, -, hbt⟩ := hu.open
  obtain ⟨n, HN⟩ : ∃ n, Hid (n = l.length) := ⟨_, rfl⟩
  obtain ⟨n2, HN2⟩ : ∃ n, Hid (n = m.length) := ⟨_, rfl⟩
  have hlen : n ≤ 140737488355328 := by rw [HN.out]; exact h.open.1
  have hlen2 : n2 ≤ 140737488355328 := by rw [HN2.out]; exact hu.open.1
  rw [← HN.out, ← HN2.out]
  obtain ⟨z, HZ⟩ : ∃ z, Hid (z = all2 S l m) := ⟨_, rfl⟩
  rw [← HZ.out]
  have HAT := hid hat
  have HBT := hid hbt
  have HCL := hid hcl
  clear hat hbt hcl h hu
  by_cases hnn : n = n2
  · subst hnn
    go_enter Tryz.func87, Tryz.ntmps87
    go_wp2_with fail
    go_loopw [17] (fun v8 wr => ∃ k : Nat, k ≤ n ∧ v8 = .int .i64 k ∧ Hid (all2 S (l.drop k) (m.drop k) = z) ∧ Hid (Below w.heap.size w wr)) (fun v8 _ => n - (intOf v8).toNat)
    case atStart => exact ⟨0, by omega, rfl, by rw [HZ.out]; rfl, Below.refl _ _⟩
    case round =>
      obtain ⟨k, hk, rfl, HK, HB⟩ := hrel
      by_cases hlt : k < n
      · have hat := HAT.out
        have hbt := HBT.out
        have hxi : l[k]? = some (l[k]'(by rw [← HN.out]; exact hlt)) := List.getElem?_eq_getElem _
        generalize l[k]'(by rw [← HN.out]; exact hlt) = x at hxi
        have hyi : m[k]? = some (m[k]'(by rw [← HN2.out]; exact hlt)) := List.getElem?_eq_getElem _
        generalize m[k]'(by rw [← HN2.out]; exact hlt) = y at hyi
        obtain ⟨b, o, v1, v2, ha, g0, g1, hM⟩ := hat k x hxi
        obtain ⟨b2, o2, u1, u2, ha2, f0, f1, hM2⟩ := hbt k y hyi
        clear hat hbt
        obtain ⟨p1, i1, j1, p2, i2, j2, e1⟩ := formM hM
        cases e1
        obtain ⟨q1, s1, t1, q2, s2, t2, e1⟩ := formM hM2
        cases e1
        have HXX := hid hM
        have HYY := hid hM2
        clear hM hM2
        replace g0 := below_keeps HB.out _ _ g0
        replace g1 := below_keeps HB.out _ _ g1
        replace f0 := below_keeps HB.out _ _ f0
        replace f1 := below_keeps HB.out _ _ f1
        have hst := hid (all2_drop S l m k x y hxi hyi)
        have hix := index_run Tryz.underlying107 size_msg ha k hlt (cap := c)
        have hix2 := index_run Tryz.underlying107 size_msg ha2 k hlt (cap := c2)
        have hbl : b < wr.heap.size := World.block_lt_of_cell? wr _ g0
        have hbl2 : b2 < wr.heap.size := World.block_lt_of_cell? wr _ f0
        have HMX := hid (List.mem_of_getElem? hxi)
        have HMY := hid (List.mem_of_getElem? hyi)
        clear ha ha2 hxi hyi
        go_wp2_with fail
        have hcl := HCL.out
        refine (hcl x HMX.out y HMY.out _ _ _ HXX.out HYY.out (HB.out.trans (Below.mono (B := wr.heap.size) (by (repeat (first | with_reducible exact Below.refl _ _ | with_reducible refine Below.setCell ?_ (by first | omega | (simp; omega) | (simp; done)) _ | with_reducible refine Below.alloc ?_ (by first | omega | (simp; omega) | (simp; done)) _ | with_reducible refine below_drewN ?_ _ | with_reducible refine Below.drew ?_))) HB.out.size))).mono ?_
        rintro e w5 ⟨rfl, hb5⟩
        clear hcl
        have HB5 : Hid (Below w.heap.size w w5) := (HB.out.trans (Below.mono (B := wr.heap.size) (by (repeat (first | with_reducible exact Below.refl _ _ | with_reducible refine Below.setCell ?_ (by first | omega | (simp; omega) | (simp; done)) _ | with_reducible refine Below.alloc ?_ (by first | omega | (simp; omega) | (simp; done)) _ | with_reducible refine below_drewN ?_ _ | with_reducible refine Below.drew ?_))) HB.out.size)).trans (hb5.mono (by simp; have := HB.out.size; omega))
        clear hb5
        cases hp : S x y with
        | false =>
          have hz : z = false := by rw [← HK.out, hst.out, hp]; rfl
          subst hz
          clear hp
          go_wp2
          go_ret
          exact ⟨rfl, HB5.out⟩
        | true =>
          have HK2 : Hid (all2 S (l.drop (k + 1)) (m.drop (k + 1)) = z) := by rw [Hid, ← HK.out, hst.out, hp]; rfl
          clear hp
          go_wp2
          go_roundw
          case rel => exact ⟨k + 1, by omega, by go_num, HK2, HB5⟩
          case measure => simp [intOf]; omega
      · have hz : z = true := by
          rw [← HK.out, List.drop_of_length_le (by rw [← HN.out]; omega), List.drop_of_length_le (by rw [← HN2.out]; omega)]; rfl
        subst hz
        go_wp2
        go_ret
        exact ⟨rfl, HB.out⟩
  · have hz : z = false := by
      rw [HZ.out]
      exact all2_len S l m (by rw [← HN.out, ← HN2.out]; exact hnn)
    subst hz
    go_enter Tryz.func87, Tryz.ntmps87
    go_wp2
    go_ret
    exact ⟨rfl, Below.refl _ _⟩
set_option maxRecDepth 100000 in
set_option maxHeartbeats 4000000 in
theorem equalFunc_val {d d2 : Nat} {w : World} {v u : Value} {l : List (Val (M d))} {m : List (Val (M d2))} (h : ValsAt (MsgAt d) w v l) (hu : ValsAt (MsgAt d2) w u m) (F : Nat) (S : (Val (M d)) → (Val (M d2)) → Bool) (hcf : ∀ (args : Array Value) (w : World), (callFunc F args).run Tryz.prog w = .ok (.enter F args) w)
    (hcl : ∀ x ∈ l, ∀ y ∈ m, ∀ (xv yv : Value) (wr : World), ValAt (MsgAt d) w xv x → ValAt (MsgAt d2) w yv y → Below w.heap.size w wr → Calls Tryz.prog F #[xv, yv] wr fun e w' => e = .returned (.bool (S x y)) ∧ Below wr.heap.size wr w') :
    Calls Tryz.prog 55 #[v, u, .func (.func F) #[] #[]] w fun e w' => e = .returned (.bool (all2 S l m)) ∧ Below w.heap.size w w' := by
  obtain ⟨-, a, c, rfl, -, hat⟩ := h.open
  obtain ⟨-, a2, c2, rfl, -, hbt⟩ := hu.open
  obtain ⟨n, HN⟩ : ∃ n, Hid (n = l.length) := ⟨_, rfl⟩
  obtain ⟨n2, HN2⟩ : ∃ n, Hid (n = m.length) := ⟨_, rfl⟩
  have hlen : n ≤ 140737488355328 := by rw [HN.out]; exact h.open.1
  have hlen2 : n2 ≤ 140737488355328 := by rw [HN2.out]; exact hu.open.1
  rw [← HN.out, ← HN2.out]
  obtain ⟨z, HZ⟩ : ∃ z, Hid (z = all2 S l m) := ⟨_, rfl⟩
  rw [← HZ.out]
  have HAT := hid hat
  have HBT := hid hbt
  have HCL := hid hcl
  clear hat hbt hcl h hu
  by_cases hnn : n = n2
  · subst hnn
    go_enter Tryz.func55, Tryz.ntmps55
    go_wp2_with fail
    go_loopw [17] (fun v8 wr => ∃ k : Nat, k ≤ n ∧ v8 = .int .i64 k ∧ Hid (all2 S (l.drop k) (m.drop k) = z) ∧ Hid (Below w.heap.size w wr)) (fun v8 _ => n - (intOf v8).toNat)
    case atStart => exact ⟨0, by omega, rfl, by rw [HZ.out]; rfl, Below.refl _ _⟩
    case round =>
      obtain ⟨k, hk, rfl, HK, HB⟩ := hrel
      by_cases hlt : k < n
      · have hat := HAT.out
        have hbt := HBT.out
        have hxi : l[k]? = some (l[k]'(by rw [← HN.out]; exact hlt)) := List.getElem?_eq_getElem _
        generalize l[k]'(by rw [← HN.out]; exact hlt) = x at hxi
        have hyi : m[k]? = some (m[k]'(by rw [← HN2.out]; exact hlt)) := List.getElem?_eq_getElem _
        generalize m[k]'(by rw [← HN2.out]; exact hlt) = y at hyi
        obtain ⟨b, o, v1, v2, v3, ha, g0, g1, g2, g3, hM⟩ := hat k x hxi
        obtain ⟨b2, o2, u1, u2, u3, ha2, f0, f1, f2, f3, hM2⟩ := hbt k y hyi
        clear hat hbt
        obtain ⟨p1, i1, j1, p2, i2, j2, p3, i3, j3, rfl, rfl, rfl⟩ := formV hM
        obtain ⟨q1, s1, t1, q2, s2, t2, q3, s3, t3, rfl, rfl, rfl⟩ := formV hM2
        have HXX := hid hM
        have HYY := hid hM2
        clear hM hM2
        replace g0 := below_keeps HB.out _ _ g0
        replace g1 := below_keeps HB.out _ _ g1
        replace g2 := below_keeps HB.out _ _ g2
        replace g3 := below_keeps HB.out _ _ g3
        replace f0 := below_keeps HB.out _ _ f0
        replace f1 := below_keeps HB.out _ _ f1
        replace f2 := below_keeps HB.out _ _ f2
        replace f3 := below_keeps HB.out _ _ f3
        have hst := hid (all2_drop S l m k x y hxi hyi)
        have hix := index_run Tryz.underlying56 size_val ha k hlt (cap := c)
        have hix2 := index_run Tryz.underlying56 size_val ha2 k hlt (cap := c2)
        have hbl : b < wr.heap.size := World.block_lt_of_cell? wr _ g0
        have hbl2 : b2 < wr.heap.size := World.block_lt_of_cell? wr _ f0
        have HMX := hid (List.mem_of_getElem? hxi)
        have HMY := hid (List.mem_of_getElem? hyi)
        clear ha ha2 hxi hyi
        generalize x.num = xn at *
        generalize y.num = yn at *
        go_wp2_with fail
        have hcl := HCL.out
        refine (hcl x HMX.out y HMY.out _ _ _ HXX.out HYY.out (HB.out.trans (Below.mono (B := wr.heap.size) (by (repeat (first | with_reducible exact Below.refl _ _ | with_reducible refine Below.setCell ?_ (by first | omega | (simp; omega) | (simp; done)) _ | with_reducible refine Below.alloc ?_ (by first | omega | (simp; omega) | (simp; done)) _ | with_reducible refine below_drewN ?_ _ | with_reducible refine Below.drew ?_))) HB.out.size))).mono ?_
        rintro e w5 ⟨rfl, hb5⟩
        clear hcl
        have HB5 : Hid (Below w.heap.size w w5) := (HB.out.trans (Below.mono (B := wr.heap.size) (by (repeat (first | with_reducible exact Below.refl _ _ | with_reducible refine Below.setCell ?_ (by first | omega | (simp; omega) | (simp; done)) _ | with_reducible refine Below.alloc ?_ (by first | omega | (simp; omega) | (simp; done)) _ | with_reducible refine below_drewN ?_ _ | with_reducible refine Below.drew ?_))) HB.out.size)).trans (hb5.mono (by simp; have := HB.out.size; omega))
        clear hb5
        cases hp : S x y with
        | false =>
          have hz : z = false := by rw [← HK.out, hst.out, hp]; rfl
          subst hz
          clear hp
          go_wp2
          go_ret
          exact ⟨rfl, HB5.out⟩
        | true =>
          have HK2 : Hid (all2 S (l.drop (k + 1)) (m.drop (k + 1)) = z) := by rw [Hid, ← HK.out, hst.out, hp]; rfl
          clear hp
          go_wp2
          go_roundw
          case rel => exact ⟨k + 1, by omega, by go_num, HK2, HB5⟩
          case measure => simp [intOf]; omega
      · have hz : z = true := by
          rw [← HK.out, List.drop_of_length_le (by rw [← HN.out]; omega), List.drop_of_length_le (by rw [← HN2.out]; omega)]; rfl
        subst hz
        go_wp2
        go_ret
        exact ⟨rfl, HB.out⟩
  · have hz : z = false := by
      rw [HZ.out]
      exact all2_len S l m (by rw [← HN.out, ← HN2.out]; exact hnn)
    subst hz
    go_enter Tryz.func55, Tryz.ntmps55
    go_wp2
    go_ret
    exact ⟨rfl, Below.refl _ _⟩
end Go.Proofs.YtbhiddafbpingaaGreat
